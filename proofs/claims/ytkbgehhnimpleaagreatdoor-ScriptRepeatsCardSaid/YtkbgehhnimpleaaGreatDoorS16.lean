/- An abstract reading of the program, and what it answers. By an AI agent. -/
import Derived.Test.YtkbgehhnimpleaaGreatDoorS15
set_option linter.all false
set_option maxRecDepth 10000
namespace Go.Abs
open Go.Proofs Go.Script
attribute [local go_sem] WP_nil WP_seq WP_skip WP_ret WP_exit WP_label WP_scope WP_code_ret WP_code_exit WP_blk_normal WP_blk_ret WP_blk_ex
attribute [local go_sem] blkK_t blkK_f WP_lp_ret WP_lp_exit WP_block WP_cond CondK_t CondK_f CondK_dt CondK_df WP_region WP_ops_nil
attribute [local go_sem] WP_op WP_guard GuardK_t GuardK_f arK_val arK_skip arK_call After_eq AfterD_eq dvK_some LoopQ_normal LoopQ_ret
attribute [local go_sem] LoopQ_exit Fin_normal Fin_ret FinK_some Is_self put_some put_none opd_tmp opd_const opd_func ofV_int ofV_bool
attribute [local go_sem] ofV_str ofV_nilp ofV_nils ofV_nilf ofV_agg ofV_tup avOf_v avOf_lp avOf_ls tg0 tg1 tg2
attribute [local go_sem] tg3 tg4 tg5 tg6 tg7 tg8 ts0 ts1 ts2 ts3 ts4 ts5
attribute [local go_sem] ts6 ts7 ts8 aop_move aop_assign aop_pick pickB_t pickB_f pickB_dt pickB_df aop_alloc aop_box
attribute [local go_sem] aop_build aop_buildSlice aop_load aop_store storeR_some aop_nilCheck aop_binOp aop_unOp aop_convert aop_makeFunc aop_slice aop_fieldAddr
attribute [local go_sem] aop_field aop_indexAddr aop_index aop_extract aop_makeSlice aop_builtin aop_call callR_fn mkP_glob mkP_dt mkP_df mkP_loc
attribute [local go_sem] mkS_glob mkS_dflt mkS_loc mkA_glob mkA_dflt mkA_loc cellAt_some rangeAt_some cellAt_none cellAt_dead rangeAt_none rangeAt_dead
attribute [local go_sem] ld_ip ld_gp ld_lp ldV_f ldV_t spliceAt_some wr_gp wr_lp bin_add bin_sub bin_mul bin_quo
attribute [local go_sem] bin_rem bin_andK bin_orK bin_xorK bin_andNotK bin_shl bin_shr bin_eql bin_neq bin_lss bin_leq bin_gtr
attribute [local go_sem] bin_geq aun_not aun_neg not_decide' acvt intOpd avOpd optIdx frzO frzL frzT_v frzT_lp
attribute [local go_sem] frzT_ls frzL1_some frzL2_some freeze_mk sub_v sub_top sub_undef sub_lp sub_ls frzS_σ awanted ares
attribute [local go_sem] aresL acall abuiltin alen slen_nil slen_is slen_gs slen_ls aindex_eq ixU_s ixU_a ixE_some
attribute [local go_sem] ixA_some ixS_is ixS_gs ixS_ls aindexV_agg axU_a axE_some bsz List.size_toArray all_I all_U apart
attribute [local go_sem] aslice_eq slU_s slE_some addP_ip addP_gp addP_lp rdS_nil rdS_is rdS_gs rdS_ls sure aextract
attribute [local go_sem] wrap_i64 wrap_u8 wrap_u64 List.map_cons List.map_nil List.length_cons List.length_nil List.cons_append List.nil_append List.append_nil Option.map_some Option.map_none
attribute [local go_sem] Option.bind_some Option.bind_none mapM_c mapM_n if_true if_false decide_true decide_false Bool.false_eq_true Bool.true_eq_false Bool.not_true Bool.not_false
attribute [local go_sem] ES_P WP_drw_n WP_drw_g gdK_t gdK_f gdK_dt gdK_df GuardK_dt GuardK_df DT_move DT_assign DT_pick
attribute [local go_sem] DT_build DT_nilCheck DT_binOp DT_unOp DT_convert DT_makeFunc DT_slice DT_fieldAddr DT_field DT_indexAddr DT_index DT_extract
attribute [local go_sem] DT_len DT_load DT_boxK boxK_d DT_bslK bslK_d DT_alcK alcK_d DT_stK stK_v stS_some DT_apK
attribute [local go_sem] apK_some apS_some DT_makeSlice DT_call qK_some ldK_some frK_some alK_some arD_val arD_skip arD_call dcK_some
attribute [local go_sem] dcK_none acq_fn acq_none prefrz frzAll lkT_v lkT_lp beq_t beq_f bits_i64 bits_u64 bits_u8
attribute [local go_sem] fdiv_pos tdiv_pos tmod_pos toNat_add' orK_low andK3_u8 andK63 Nat.min_eq_left Nat.min_eq_right aappend_eq appE_some appS_some
attribute [local go_sem] get_app_l get_app_r set_app_l set_app_r Nat.sub_self window_all win_z win_s win_o ite_t ite_f splice_eq
attribute [local go_sem] spliceC_one spliceC_all List.all_cons List.all_nil ok_int ok_bool ok_str ok_nilf ok_nilp ok_nils ok_fn ok_ip
attribute [local go_sem] ok_is ok_gp ok_gs co_int co_bool co_str co_nilf co_nilp co_nils co_agg co_fn co_ip
attribute [local go_sem] co_is co_gp co_gs vs0 vs1 ss0 ss1 some_eq List.zip_cons_cons List.zip_nil_left List.zip_nil_right afill
attribute [local go_sem] List.take_succ_cons List.take_zero List.take_nil List.drop_succ_cons List.drop_zero List.drop_nil eq_self I U B nilS arr_get
attribute [local go_sem] List.getElem?_toArray og0 og1 vg0 vg1 vgn sg0 sg1 sgn List.getElem?_drop List.getElem?_map getq
attribute [local go_sem] Option.isNone_none Option.isNone_some Bool.and_true Bool.true_and Bool.and_self Nat.add_zero Nat.zero_add Nat.mul_one Int.toNat_natCast bodyOf Option.getD_some n3
attribute [local go_sem] t3 c3 m3_3 c8 u24 m3_19 s23 g23 c9 u3 a24_24 m3_35
attribute [local go_sem] c10 z29 m3_9 s29 c11 z23 m3_12 g29 c12 q29 hh29 s3
attribute [local go_sem] g3 c14 c13 t8 t9 t10 t11 t12 t13 t14 n4 t4
attribute [local go_sem] c4 m4_15 m4_3 c15 m4_8 u31 u41 m4_48 u30 m4_53 bb29_ t15
attribute [local go_sem] n5 t5 c5 m5_3 m5_20 c16 m5_36 m5_10 u45 m5_50 s5 z5
attribute [local go_sem] g5 m5_13 m5_73 m5_75 m5_83 s56 z56 g56 t16 n6 t6 c6
attribute [local go_sem] m6_4 m6_30 m6_43 bs24_0_ m6_45 m6_52 bs24_3_0_1_2 m6_53 m6_54 m6_56 u5 m6_66
attribute [local go_sem] sl24 m6_67 m6_75 m6_76 m6_15 m6_18 m6_98 h6 k6 n8 c19 m8_12
attribute [local go_sem] m8_13 m8_21 s9 z9 g9 u9 t19 n9 m9_2 u34 m9_15 m9_17
attribute [local go_sem] u23 z3 c20 m9_27 m9_30 s53 z53 g53 c21 m9_46 h9 k9
attribute [local go_sem] t20 t21 n10 m10_2 m10_15 z22 m10_5 c22 u22 s22 g22 c23
attribute [local go_sem] m10_7 c24 m10_42 c25 m10_55 m10_57 a30_30 m10_64 h10 k10 t22 t23
attribute [local go_sem] t24 t25 n11 m11_2 bb23_ m11_5 m11_23 m11_6 c26 m11_44 bs34_0_ m11_47
attribute [local go_sem] bb53_0 m11_12 bb53_0_1 bb53_0_1_2 c27 m11_96 c28 c29 m11_134 sl34 a34_34 m11_135
attribute [local go_sem] m11_137 h11 k11 t26 t27 t28 t29 n12 m12_1 m12_2 bb29_0_1_2_3_4_5_6_7_8_9_10_11_12 n13
attribute [local go_sem] m13_7 m13_9 m13_13 q53 hh53 q51 hh51 s51 g51 h13 k13 n14
attribute [local go_sem] m14_6 m14_8 m14_5 c30 m14_16 m14_17 h14 k14 t30 n15 m15_4 c31
attribute [local go_sem] c32 c33 u82 m15_33 s85 z85 g85 m15_10 c34 m15_41 sl41 a41_41
attribute [local go_sem] m15_42 c36 c35 m15_49 m15_50 h15 k15 t31 t32 t33 t34 t35
attribute [local go_sem] t36 n16 m16_1 c37 t37 n19 m19_0 bb23_0_1_2_3_4_5_6_7_8_9_10_11_12 n20 m20_7 m20_17 m20_18
attribute [local go_sem] h20 k20 n22 m22_10 h22 k22 n23 m23_1 m23_2 n24 m24_1 bb98_0_1
attribute [local go_sem] bb99_0_1_2_3_4_5_6_7_8_9_10_11_12 z99 m24_4 s99 c39 u99 s98 z98 g98 f98_0 f98_1 h24
attribute [local go_sem] k24 t39 n25 bb56_0 c45 bb56_0_1 bb56_0_1_2 m25_9 c46 u101 m25_58 s105
attribute [local go_sem] z105 g105 m25_11 f105_0 s103 g103 f105_1 m25_80 sl30 h25 k25 t45
attribute [local go_sem] t46 n26 m26_14 h26 k26 n27 n28 n29 m29_3 m29_6 f53_3 f51_0
attribute [local go_sem] f51_1 f53_4 f53_5 f53_6 n30 m30_1 m30_2 f56_0 f56_1 f56_2 f56_3 f54_0
attribute [local go_sem] f54_1 bb51_0_1 f56_4 f56_5 f56_6 bb53_0_1_2_3_4_5_6 n37 m37_1 c55 c56 h37 k37
attribute [local go_sem] t55 t56 n39 m39_1 m39_2 f29_0 f29_1 f29_2 f29_3 f29_4 f29_5 f29_6
attribute [local go_sem] f29_7 f29_8 f29_9 f29_10 f29_11 f29_12 bb22_0_1_2_3_4_5_6_7_8_9_10_11_12 n45 m45_2 m45_11 m45_12 h45
attribute [local go_sem] k45 n46 bb105_0_1 m46_3 m46_4 m46_5 m46_6 m46_7 m46_19 bs101_3_0_1_2 m46_24 bs101_2_0_1
attribute [local go_sem] m46_30 m46_36 n55 n56 n57 t57 c57 n58 t58 c58 n59 t59
attribute [local go_sem] c59 n60 t60 c60 n61 t61 c61

/-! What a script says that is cut off. -/
theorem takeP_cut : ∀ {ps : List (Nat × Nat)} {e : Ent} {bs : List Int} {m : Nat} {e' : Ent} {r' : List Int}, takeP ps e (bs.take m) = some (e', r') → ∃ r k, takeP ps e bs = some (e', r) ∧ r' = r.take k
  | [], e, bs, m, e', r', h => by
    simp [takeP] at h
    obtain ⟨rfl, rfl⟩ := h
    exact ⟨bs, m, rfl, rfl⟩
  | (s, w) :: ps, e, bs, m, e', r', h => by
    simp only [takeP] at h ⊢
    rw [List.length_take] at h
    split at h
    · cases h
    · rename_i hw
      rw [if_neg (by omega)]
      rw [List.take_take, Nat.min_eq_left (by omega), List.drop_take] at h
      exact takeP_cut h

theorem stepS_cut {x : Int} {bs : List Int} {m : Nat} {es : List Ent} {r' : List Int} (h : stepS x (bs.take m) = some (es, r')) : ∃ r k, stepS x bs = some (es, r) ∧ r' = r.take k := by
  unfold stepS at h ⊢
  split at h
  · rename_i hx
    rw [if_pos hx]
    cases h
    exact ⟨bs, m, rfl, rfl⟩
  · rename_i hx
    rw [if_neg hx]
    split at h
    · rename_i hx1
      rw [if_pos hx1]
      cases h
      exact ⟨bs, m, rfl, rfl⟩
    · rename_i hx1
      rw [if_neg hx1]
      cases bs with
      | nil => simp at h
      | cons y bs' =>
        cases m with
        | zero => simp at h
        | succ m =>
          simp only [List.take_succ_cons] at h ⊢
          split at h
          · rename_i hx2
            rw [if_pos hx2]
            cases h
            exact ⟨bs', m, rfl, rfl⟩
          · rename_i hx2
            rw [if_neg hx2]
            simp only [Option.map_eq_some_iff] at h
            obtain ⟨⟨e', r2⟩, hp, he⟩ := h
            cases he
            obtain ⟨r, k, h1, h2⟩ := takeP_cut hp
            exact ⟨r, k, by rw [h1]; rfl, h2⟩

theorem dec_more : ∀ (n : Nat) {bs : List Int} {out es : List Ent}, bs.length ≤ n → dec bs out = some es → ∃ t, es = out ++ t
  | n, [], out, es, _, h => by rw [dec_nil] at h; cases h; exact ⟨[], by simp⟩
  | 0, x :: bs, out, es, hn, h => by simp at hn
  | n + 1, x :: bs, out, es, hn, h => by
    cases hst : stepS x bs with
    | none => rw [dec_stop out hst] at h; cases h; exact ⟨[], by simp⟩
    | some p =>
      obtain ⟨es2, r⟩ := p
      rw [dec_go out hst] at h
      split at h
      · cases h
      · have h1 := stepS_len hst
        simp only at h1
        simp only [List.length_cons] at hn
        obtain ⟨t, rfl⟩ := dec_more n (by omega) h
        exact ⟨es2 ++ t, by simp⟩

theorem dec_cut : ∀ (n : Nat) {bs : List Int} {out es : List Ent} (m : Nat), bs.length ≤ n → dec bs out = some es → ∃ es' t, dec (bs.take m) out = some es' ∧ es = es' ++ t
  | n, bs, out, es, 0, hn, h => by
    obtain ⟨t, ht⟩ := dec_more n hn h
    exact ⟨out, t, by rw [List.take_zero, dec_nil], ht⟩
  | n, [], out, es, m + 1, hn, h => ⟨es, [], by rw [List.take_nil]; exact h, by simp⟩
  | 0, x :: bs, out, es, m + 1, hn, h => by simp at hn
  | n + 1, x :: bs, out, es, m + 1, hn, h => by
    rw [List.take_succ_cons]
    cases hst : stepS x (bs.take m) with
    | none =>
      obtain ⟨t, ht⟩ := dec_more (n + 1) hn h
      exact ⟨out, t, by rw [dec_stop out hst], ht⟩
    | some p =>
      obtain ⟨es2, r'⟩ := p
      obtain ⟨r, k, h1, rfl⟩ := stepS_cut hst
      rw [dec_go out h1] at h
      rw [dec_go out hst]
      split at h
      · cases h
      · rename_i hf
        rw [if_neg hf]
        have h2 := stepS_len h1
        simp only at h2
        simp only [List.length_cons] at hn
        exact dec_cut n k (by omega) h

/-! The configuration ahead. -/
theorem le_bytes : ∀ (w : Nat) (n : Int), 0 ≤ n → n < 256 ^ w → le (bytesOf w n) = n
  | 0, n, h0, h1 => by simp at h1; simp [bytesOf, le]; omega
  | w + 1, n, h0, h1 => by
    rw [Int.pow_succ] at h1
    simp only [bytesOf, le]
    rw [le_bytes w (n / 256) (by omega) (by omega)]
    omega
theorem head_num {cs : List Int} (h : ∀ x ∈ cs, 0 ≤ x ∧ x < 4294967296) : ∀ (i : Nat) (b : List Int), i < cs.length → le (((headOf cs ++ b).drop (4 * i)).take 4) = cs.getD i 0 := by
  induction cs with
  | nil => intro i b hi; simp at hi
  | cons c cs ih =>
    intro i b hi
    have hc := h c (by simp)
    have hh : headOf (c :: cs) ++ b = bytesOf 4 c ++ (headOf cs ++ b) := by simp [headOf]
    rw [hh]
    cases i with
    | zero =>
      rw [Nat.mul_zero, List.drop_zero, List.take_append_of_le_length (by rw [bytesOf_len]; omega), List.take_of_length_le (by rw [bytesOf_len]; omega)]
      rw [le_bytes 4 c hc.1 (by omega)]
      rfl
    | succ i =>
      rw [show 4 * (i + 1) = (bytesOf 4 c).length + 4 * i by rw [bytesOf_len]; omega, List.drop_append, List.drop_eq_nil_of_le (by omega)]
      simp only [List.nil_append, Nat.add_sub_cancel_left]
      rw [ih (fun x hx => h x (by simp [hx])) i b (by simpa using hi)]
      rfl
theorem okC_all {cs : List Int} (hl : cs.length = 13) (h : okC cs) : ∀ x ∈ cs, 0 ≤ x ∧ x < 4294967296 := by
  intro x hx
  obtain ⟨i, hi, rfl⟩ := List.mem_iff_getElem.1 hx
  have := okC_in h i (by omega)
  rwa [getD_lt' hi] at this
theorem cfg_head {cs b : List Int} (hl : cs.length = 13) (h : okC cs) : cfgOf (headOf cs ++ b) = cs := by
  apply List.ext_getElem
  · simp [cfgOf, cfgL, hl]
  · intro i h1 h2
    simp only [cfgOf, cfgL, List.length_map, List.length_range] at h1
    simp only [cfgOf, cfgL, List.getElem_map, List.getElem_range, if_pos h1, numAt]
    rw [head_num (okC_all hl h) i b h2, getD_lt' h2]
theorem decode_head {cs b : List Int} (hl : cs.length = 13) (h : okC cs) : decode (headOf cs ++ b) = match dec b [] with
    | none => .err 3
    | some es => .ok cs es := by
  have h52 : (headOf cs).length = 52 := by rw [headN_len, hl]
  unfold decode
  rw [if_neg (by rw [List.length_append]; omega), cfg_head hl h, if_pos h]
  rw [List.drop_append_of_le_length (by omega), List.drop_eq_nil_of_le (by omega), List.nil_append]
  cases dec b [] <;> rfl

theorem cuts_ok {v : AV} {bs cs : List Int} {n : Int} (hs : Sl [] 1 v (bs.map U) bs.length) (hb : Byt bs) (hcl : cs.length = 13) (hn0 : 0 ≤ n) (hn1 : n < 65536) : Ans ES 5 [.agg (cs.map I), v, .sc (.int .u16 n)] [] (fun r _ => r = B true) := by
  obtain ⟨σ1, hs1, hs2⟩ := speaks1
  have e0 := hs.sl
  refine w5 1000 ?_
  repeat' first | with_reducible refine CondK_split (fun h => ?_) (fun h => ?_) | with_reducible refine gdK_dec (fun h => ?_) (fun h => ?_) | with_reducible refine GuardK_dec (fun h => ?_) (fun h => ?_) | with_reducible refine WP_draw ?_ | with_reducible refine WP_drw_end (by kernel_rfl) ?_ | simp (disch := first | omega | (simp only [List.length_append, List.length_cons, List.length_nil, List.length_set, List.length_map, List.length_replicate, List.length_drop, List.length_take] <;> omega) | assumption) only [go_sem, Nat.reduceBEq, Nat.reduceAdd, Nat.reduceSub, Nat.reduceMul, Nat.reduceLT, Nat.reduceLeDiff, Nat.reduceEqDiff, Int.reduceAdd, Int.reduceSub, Int.reduceMul, Int.reduceLT, Int.reduceLE, Int.reduceNeg, Int.reduceToNat, Int.reduceEq, Int.reduceNe, Nat.reducePow, Int.reducePow, Int.reduceDiv, Int.reduceMod, Tryz.f5]
  refine hs1.mono ?_
  rintro r σ' ⟨rfl, rfl⟩
  by_cases h400 : 400 < bs.length
  · repeat' first | with_reducible refine CondK_split (fun h => ?_) (fun h => ?_) | with_reducible refine gdK_dec (fun h => ?_) (fun h => ?_) | with_reducible refine GuardK_dec (fun h => ?_) (fun h => ?_) | with_reducible refine WP_draw ?_ | with_reducible refine WP_drw_end (by kernel_rfl) ?_ | simp (disch := first | omega | (simp only [List.length_append, List.length_cons, List.length_nil, List.length_set, List.length_map, List.length_replicate, List.length_drop, List.length_take] <;> omega) | assumption) only [go_sem, Nat.reduceBEq, Nat.reduceAdd, Nat.reduceSub, Nat.reduceMul, Nat.reduceLT, Nat.reduceLeDiff, Nat.reduceEqDiff, Int.reduceAdd, Int.reduceSub, Int.reduceMul, Int.reduceLT, Int.reduceLE, Int.reduceNeg, Int.reduceToNat, Int.reduceEq, Int.reduceNe, Nat.reducePow, Int.reducePow, Int.reduceDiv, Int.reduceMod, e0]
    exact hs2.mono fun r σ' h => by
      subst h
      repeat' first | with_reducible refine CondK_split (fun h => ?_) (fun h => ?_) | with_reducible refine gdK_dec (fun h => ?_) (fun h => ?_) | with_reducible refine GuardK_dec (fun h => ?_) (fun h => ?_) | with_reducible refine WP_draw ?_ | with_reducible refine WP_drw_end (by kernel_rfl) ?_ | simp (disch := first | omega | (simp only [List.length_append, List.length_cons, List.length_nil, List.length_set, List.length_map, List.length_replicate, List.length_drop, List.length_take] <;> omega) | assumption) only [go_sem, Nat.reduceBEq, Nat.reduceAdd, Nat.reduceSub, Nat.reduceMul, Nat.reduceLT, Nat.reduceLeDiff, Nat.reduceEqDiff, Int.reduceAdd, Int.reduceSub, Int.reduceMul, Int.reduceLT, Int.reduceLE, Int.reduceNeg, Int.reduceToNat, Int.reduceEq, Int.reduceNe, Nat.reducePow, Int.reducePow, Int.reduceDiv, Int.reduceMod]
  repeat' first | with_reducible refine CondK_split (fun h => ?_) (fun h => ?_) | with_reducible refine gdK_dec (fun h => ?_) (fun h => ?_) | with_reducible refine GuardK_dec (fun h => ?_) (fun h => ?_) | with_reducible refine WP_draw ?_ | with_reducible refine WP_drw_end (by kernel_rfl) ?_ | simp (disch := first | omega | (simp only [List.length_append, List.length_cons, List.length_nil, List.length_set, List.length_map, List.length_replicate, List.length_drop, List.length_take] <;> omega) | assumption) only [go_sem, Nat.reduceBEq, Nat.reduceAdd, Nat.reduceSub, Nat.reduceMul, Nat.reduceLT, Nat.reduceLeDiff, Nat.reduceEqDiff, Int.reduceAdd, Int.reduceSub, Int.reduceMul, Int.reduceLT, Int.reduceLE, Int.reduceNeg, Int.reduceToNat, Int.reduceEq, Int.reduceNe, Nat.reducePow, Int.reducePow, Int.reduceDiv, Int.reduceMod, e0]
  refine (Right_ok cs hcl σ').mono ?_
  rintro r σ' ⟨rfl, rfl⟩
  by_cases hok : okC cs
  · have hsσ := hs.more σ'
    rw [List.nil_append] at hsσ
    repeat' first | with_reducible refine CondK_split (fun h => ?_) (fun h => ?_) | with_reducible refine gdK_dec (fun h => ?_) (fun h => ?_) | with_reducible refine GuardK_dec (fun h => ?_) (fun h => ?_) | with_reducible refine WP_draw ?_ | with_reducible refine WP_drw_end (by kernel_rfl) ?_ | simp (disch := first | omega | (simp only [List.length_append, List.length_cons, List.length_nil, List.length_set, List.length_map, List.length_replicate, List.length_drop, List.length_take] <;> omega) | assumption) only [go_sem, Nat.reduceBEq, Nat.reduceAdd, Nat.reduceSub, Nat.reduceMul, Nat.reduceLT, Nat.reduceLeDiff, Nat.reduceEqDiff, Int.reduceAdd, Int.reduceSub, Int.reduceMul, Int.reduceLT, Int.reduceLE, Int.reduceNeg, Int.reduceToNat, Int.reduceEq, Int.reduceNe, Nat.reducePow, Int.reducePow, Int.reduceDiv, Int.reduceMod, hok]
    refine (Encode_nil cs hcl hok σ').mono ?_
    rintro r σ2 ⟨hv, rfl, hout⟩
    obtain ⟨⟨gh, rfl⟩, -⟩ := id hout
    have hs2σ := hsσ.more gh
    obtain ⟨vv, σ3, ho3, ha⟩ := hout.app (bs.map U) bs.length (by simp) (u_ok _) (by omega)
    have e6 := fun loc ts => hs2σ.rdS (loc := loc) (ts := ts)
    have hS : Sl σ3 1 vv ((headOf cs ++ bs).map U) (headOf cs ++ bs).length := by
      have := ho3.sl
      rw [List.map_append, List.length_append, headN_len, hcl]
      exact this
    have hB : Byt (headOf cs ++ bs) := Byt_app (headOf_byt cs) hb
    have hlen : (headOf cs ++ bs).length = 52 + bs.length := by rw [List.length_append, headN_len, hcl]
    repeat' first | with_reducible refine CondK_split (fun h => ?_) (fun h => ?_) | with_reducible refine gdK_dec (fun h => ?_) (fun h => ?_) | with_reducible refine GuardK_dec (fun h => ?_) (fun h => ?_) | with_reducible refine WP_draw ?_ | with_reducible refine WP_drw_end (by kernel_rfl) ?_ | simp (disch := first | omega | (simp only [List.length_append, List.length_cons, List.length_nil, List.length_set, List.length_map, List.length_replicate, List.length_drop, List.length_take] <;> omega) | assumption) only [go_sem, Nat.reduceBEq, Nat.reduceAdd, Nat.reduceSub, Nat.reduceMul, Nat.reduceLT, Nat.reduceLeDiff, Nat.reduceEqDiff, Int.reduceAdd, Int.reduceSub, Int.reduceMul, Int.reduceLT, Int.reduceLE, Int.reduceNeg, Int.reduceToNat, Int.reduceEq, Int.reduceNe, Nat.reducePow, Int.reducePow, Int.reduceDiv, Int.reduceMod, ha, e6]
    refine (IDecode_ok hS hB (by omega)).mono ?_
    rintro r _ ⟨⟨ga, rfl⟩, hr⟩
    rw [decode_head hcl hok] at hr
    cases hd : dec bs [] with
    | none =>
      rw [hd] at hr
      subst hr
      repeat' first | with_reducible refine CondK_split (fun h => ?_) (fun h => ?_) | with_reducible refine gdK_dec (fun h => ?_) (fun h => ?_) | with_reducible refine GuardK_dec (fun h => ?_) (fun h => ?_) | with_reducible refine WP_draw ?_ | with_reducible refine WP_drw_end (by kernel_rfl) ?_ | simp (disch := first | omega | (simp only [List.length_append, List.length_cons, List.length_nil, List.length_set, List.length_map, List.length_replicate, List.length_drop, List.length_take] <;> omega) | assumption) only [go_sem, Nat.reduceBEq, Nat.reduceAdd, Nat.reduceSub, Nat.reduceMul, Nat.reduceLT, Nat.reduceLeDiff, Nat.reduceEqDiff, Int.reduceAdd, Int.reduceSub, Int.reduceMul, Int.reduceLT, Int.reduceLE, Int.reduceNeg, Int.reduceToNat, Int.reduceEq, Int.reduceNe, Nat.reducePow, Int.reducePow, Int.reduceDiv, Int.reduceMod, zeros13]
    | some es =>
      rw [hd] at hr
      obtain ⟨w1, rfl, hw1⟩ := hr
      have hm0 : 0 ≤ n % ((bs.length : Int) + 1) := Int.emod_nonneg _ (by omega)
      have hm1 : n % ((bs.length : Int) + 1) < (bs.length : Int) + 1 := Int.emod_lt_of_pos _ (by omega)
      obtain ⟨k, hk⟩ : ∃ k : Nat, n % ((bs.length : Int) + 1) = (k : Int) := ⟨(n % ((bs.length : Int) + 1)).toNat, by omega⟩
      rw [hk] at hm0 hm1
      have hS3 := hS.more ga
      have e8 := hS3.to
      have e9 : (52 + (k : Int)).toNat = 52 + k := by omega
      have hC : Sl (σ3 ++ ga) 1 (subP 1 vv 0 (52 + k)) ((headOf cs ++ bs.take k).map U) (headOf cs ++ bs.take k).length := by
        have := hS3.sub 0 (52 + k) (by omega) (by omega)
        have hh : (headOf cs).length = 52 := by rw [headN_len, hcl]
        have e : (((headOf cs ++ bs).map U).drop (0 * 1)).take ((52 + k - 0) * 1) = (headOf cs ++ bs.take k).map U := by
          rw [Nat.zero_mul, List.drop_zero, Nat.mul_one, Nat.sub_zero, ← List.map_take, List.take_append, hh, List.take_of_length_le (by omega)]
          simp
        rw [e] at this
        have el : (headOf cs ++ bs.take k).length = 52 + k := by rw [List.length_append, hh, List.length_take]; omega
        rw [el]
        exact this
      have hBC : Byt (headOf cs ++ bs.take k) := Byt_app (headOf_byt cs) (by
        rw [Byt_iff] at hb ⊢
        exact fun x hx => hb x (List.mem_of_mem_take hx))
      obtain ⟨es', t, hd', rfl⟩ := dec_cut _ k (Nat.le_refl _) hd
      repeat' first | with_reducible refine CondK_split (fun h => ?_) (fun h => ?_) | with_reducible refine gdK_dec (fun h => ?_) (fun h => ?_) | with_reducible refine GuardK_dec (fun h => ?_) (fun h => ?_) | with_reducible refine WP_draw ?_ | with_reducible refine WP_drw_end (by kernel_rfl) ?_ | simp (disch := first | omega | (simp only [List.length_append, List.length_cons, List.length_nil, List.length_set, List.length_map, List.length_replicate, List.length_drop, List.length_take] <;> omega) | assumption) only [go_sem, Nat.reduceBEq, Nat.reduceAdd, Nat.reduceSub, Nat.reduceMul, Nat.reduceLT, Nat.reduceLeDiff, Nat.reduceEqDiff, Int.reduceAdd, Int.reduceSub, Int.reduceMul, Int.reduceLT, Int.reduceLE, Int.reduceNeg, Int.reduceToNat, Int.reduceEq, Int.reduceNe, Nat.reducePow, Int.reducePow, Int.reduceDiv, Int.reduceMod, hcl, e0, hk, e8, e9]
      refine (IDecode_ok hC hBC (by rw [List.length_append, List.length_take, headN_len, hcl]; omega)).mono ?_
      rintro r _ ⟨⟨gb, rfl⟩, hr⟩
      rw [decode_head hcl hok, hd'] at hr
      obtain ⟨w2, rfl, hw2⟩ := hr
      have hE := dec_E8 _ (Nat.le_refl _) hd (by intro e he; cases he) (by simp)
      have hE' : E8 es' := fun e he => hE.1 e (by simp [he])
      have hle : es'.length ≤ 20000 := by have := hE.2; rw [List.length_append] at this; omega
      have hw4 := hw1.more gb
      have f1 := hw4.to
      have f2 := hw2.sl
      have f3' := hw4.sl
      have hw5 : Sl (σ3 ++ ga ++ gb) 8 (subP 8 w1 0 es'.length) (ents es') es'.length := by
        have := hw4.sub 0 es'.length (by omega) (by rw [List.length_append]; omega)
        have e : ((ents (es' ++ t)).drop (0 * 8)).take ((es'.length - 0) * 8) = ents es' := by
          rw [Nat.zero_mul, List.drop_zero, Nat.sub_zero, ents_app, ← ents_len hE', List.take_left]
        rw [e] at this
        exact this
      obtain ⟨r1, σr, ho1, rfl, hw6⟩ := tos_ok hw2 hE' hle
      obtain ⟨r2, σr, ho4, rfl, hw7⟩ := tos_ok hw5 hE' hle
      have ho2 := Same_ok hw6 hw7 hE' hle
      have ho5 := same_eql (P := Tryz.prog) (T := 29) q29 flat29 cs hcl
      repeat' first | with_reducible refine CondK_split (fun h => ?_) (fun h => ?_) | with_reducible refine gdK_dec (fun h => ?_) (fun h => ?_) | with_reducible refine GuardK_dec (fun h => ?_) (fun h => ?_) | with_reducible refine WP_draw ?_ | with_reducible refine WP_drw_end (by kernel_rfl) ?_ | simp (disch := first | omega | (simp only [List.length_append, List.length_cons, List.length_nil, List.length_set, List.length_map, List.length_replicate, List.length_drop, List.length_take] <;> omega) | assumption) only [go_sem, Nat.reduceBEq, Nat.reduceAdd, Nat.reduceSub, Nat.reduceMul, Nat.reduceLT, Nat.reduceLeDiff, Nat.reduceEqDiff, Int.reduceAdd, Int.reduceSub, Int.reduceMul, Int.reduceLT, Int.reduceLE, Int.reduceNeg, Int.reduceToNat, Int.reduceEq, Int.reduceNe, Nat.reducePow, Int.reducePow, Int.reduceDiv, Int.reduceMod, hcl, (Of3_ok cs hcl _).eq, Ans_of_run ho1, Ans_of_run ho4, ho2.eq, ho5, f1, f2, f3']
  · repeat' first | with_reducible refine CondK_split (fun h => ?_) (fun h => ?_) | with_reducible refine gdK_dec (fun h => ?_) (fun h => ?_) | with_reducible refine GuardK_dec (fun h => ?_) (fun h => ?_) | with_reducible refine WP_draw ?_ | with_reducible refine WP_drw_end (by kernel_rfl) ?_ | simp (disch := first | omega | (simp only [List.length_append, List.length_cons, List.length_nil, List.length_set, List.length_map, List.length_replicate, List.length_drop, List.length_take] <;> omega) | assumption) only [go_sem, Nat.reduceBEq, Nat.reduceAdd, Nat.reduceSub, Nat.reduceMul, Nat.reduceLT, Nat.reduceLeDiff, Nat.reduceEqDiff, Int.reduceAdd, Int.reduceSub, Int.reduceMul, Int.reduceLT, Int.reduceLE, Int.reduceNeg, Int.reduceToNat, Int.reduceEq, Int.reduceNe, Nat.reducePow, Int.reducePow, Int.reduceDiv, Int.reduceMod, hok]
    exact hs2.mono fun r σ' h => by
      subst h
      repeat' first | with_reducible refine CondK_split (fun h => ?_) (fun h => ?_) | with_reducible refine gdK_dec (fun h => ?_) (fun h => ?_) | with_reducible refine GuardK_dec (fun h => ?_) (fun h => ?_) | with_reducible refine WP_draw ?_ | with_reducible refine WP_drw_end (by kernel_rfl) ?_ | simp (disch := first | omega | (simp only [List.length_append, List.length_cons, List.length_nil, List.length_set, List.length_map, List.length_replicate, List.length_drop, List.length_take] <;> omega) | assumption) only [go_sem, Nat.reduceBEq, Nat.reduceAdd, Nat.reduceSub, Nat.reduceMul, Nat.reduceLT, Nat.reduceLeDiff, Nat.reduceEqDiff, Int.reduceAdd, Int.reduceSub, Int.reduceMul, Int.reduceLT, Int.reduceLE, Int.reduceNeg, Int.reduceToNat, Int.reduceEq, Int.reduceNe, Nat.reducePow, Int.reducePow, Int.reduceDiv, Int.reduceMod]
end Go.Abs
