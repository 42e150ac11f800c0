/- An abstract reading of the program, and what it answers. By an AI agent. -/
import Derived.Test.YtkbgehhnimpleaaGreatDoorS14
import Derived.Test.YtkbgehhnimpleaaGreatDoorSpk
set_option linter.all false
set_option maxRecDepth 10000
namespace Go.Abs
open Go.Proofs Go.Script
attribute [local go_sem] WP_nil WP_seq WP_skip WP_ret WP_exit WP_label WP_scope WP_code_ret WP_code_exit WP_blk_normal WP_blk_ret WP_blk_ex
attribute [local go_sem] blkK_t blkK_f WP_lp_ret WP_lp_exit WP_block WP_cond CondK_t CondK_f CondK_dt CondK_df WP_region WP_ops_nil
attribute [local go_sem] WP_op WP_guard GuardK_t GuardK_f arK_val arK_skip arK_call After_eq AfterD_eq dvK_some LoopQ_normal LoopQ_ret
attribute [local go_sem] LoopQ_exit Fin_normal Fin_ret FinK_some Is_self put_some put_none opd_tmp opd_const opd_func ofV_int ofV_bool
attribute [local go_sem] ofV_str ofV_nilp ofV_nils ofV_nilf ofV_agg ofV_tup avOf_v avOf_lp avOf_ls tg0 tg1 tg2
attribute [local go_sem] tg3 tg4 tg5 tg6 tg7 tg8 ts0 ts1 ts2 ts3 ts4 ts5
attribute [local go_sem] ts6 ts7 ts8 aop_move aop_assign aop_pick pickB_t pickB_f pickB_dt pickB_df aop_alloc aop_box
attribute [local go_sem] aop_build aop_buildSlice aop_load aop_store storeR_some aop_nilCheck aop_binOp aop_unOp aop_convert aop_makeFunc aop_slice aop_fieldAddr
attribute [local go_sem] aop_field aop_indexAddr aop_index aop_extract aop_makeSlice aop_builtin aop_call callR_fn mkP_glob mkP_dt mkP_df mkP_loc
attribute [local go_sem] mkS_glob mkS_dflt mkS_loc mkA_glob mkA_dflt mkA_loc cellAt_some rangeAt_some cellAt_none cellAt_dead rangeAt_none rangeAt_dead
attribute [local go_sem] ld_ip ld_gp ld_lp ldV_f ldV_t spliceAt_some wr_gp wr_lp bin_add bin_sub bin_mul bin_quo
attribute [local go_sem] bin_rem bin_andK bin_orK bin_xorK bin_andNotK bin_shl bin_shr bin_eql bin_neq bin_lss bin_leq bin_gtr
attribute [local go_sem] bin_geq aun_not aun_neg not_decide' acvt intOpd avOpd optIdx frzO frzL frzT_v frzT_lp
attribute [local go_sem] frzT_ls frzL1_some frzL2_some freeze_mk sub_v sub_top sub_undef sub_lp sub_ls frzS_σ awanted ares
attribute [local go_sem] aresL acall abuiltin alen slen_nil slen_is slen_gs slen_ls aindex_eq ixU_s ixU_a ixE_some
attribute [local go_sem] ixA_some ixS_is ixS_gs ixS_ls aindexV_agg axU_a axE_some bsz List.size_toArray all_I all_U apart
attribute [local go_sem] aslice_eq slU_s slE_some addP_ip addP_gp addP_lp rdS_nil rdS_is rdS_gs rdS_ls sure aextract
attribute [local go_sem] wrap_i64 wrap_u8 wrap_u64 List.map_cons List.map_nil List.length_cons List.length_nil List.cons_append List.nil_append List.append_nil Option.map_some Option.map_none
attribute [local go_sem] Option.bind_some Option.bind_none mapM_c mapM_n if_true if_false decide_true decide_false Bool.false_eq_true Bool.true_eq_false Bool.not_true Bool.not_false
attribute [local go_sem] ES_P WP_drw_n WP_drw_g gdK_t gdK_f gdK_dt gdK_df GuardK_dt GuardK_df DT_move DT_assign DT_pick
attribute [local go_sem] DT_build DT_nilCheck DT_binOp DT_unOp DT_convert DT_makeFunc DT_slice DT_fieldAddr DT_field DT_indexAddr DT_index DT_extract
attribute [local go_sem] DT_len DT_load DT_boxK boxK_d DT_bslK bslK_d DT_alcK alcK_d DT_stK stK_v stS_some DT_apK
attribute [local go_sem] apK_some apS_some DT_makeSlice DT_call qK_some ldK_some frK_some alK_some arD_val arD_skip arD_call dcK_some
attribute [local go_sem] dcK_none acq_fn acq_none prefrz frzAll lkT_v lkT_lp beq_t beq_f bits_i64 bits_u64 bits_u8
attribute [local go_sem] fdiv_pos tdiv_pos tmod_pos toNat_add' orK_low andK3_u8 andK63 Nat.min_eq_left Nat.min_eq_right aappend_eq appE_some appS_some
attribute [local go_sem] get_app_l get_app_r set_app_l set_app_r Nat.sub_self window_all win_z win_s win_o ite_t ite_f splice_eq
attribute [local go_sem] spliceC_one spliceC_all List.all_cons List.all_nil ok_int ok_bool ok_str ok_nilf ok_nilp ok_nils ok_fn ok_ip
attribute [local go_sem] ok_is ok_gp ok_gs co_int co_bool co_str co_nilf co_nilp co_nils co_agg co_fn co_ip
attribute [local go_sem] co_is co_gp co_gs vs0 vs1 ss0 ss1 some_eq List.zip_cons_cons List.zip_nil_left List.zip_nil_right afill
attribute [local go_sem] List.take_succ_cons List.take_zero List.take_nil List.drop_succ_cons List.drop_zero List.drop_nil eq_self I U B nilS arr_get
attribute [local go_sem] List.getElem?_toArray og0 og1 vg0 vg1 vgn sg0 sg1 sgn List.getElem?_drop List.getElem?_map getq
attribute [local go_sem] Option.isNone_none Option.isNone_some Bool.and_true Bool.true_and Bool.and_self Nat.add_zero Nat.zero_add Nat.mul_one Int.toNat_natCast bodyOf Option.getD_some n3
attribute [local go_sem] t3 c3 m3_3 c8 u24 m3_19 s23 g23 c9 u3 a24_24 m3_35
attribute [local go_sem] c10 z29 m3_9 s29 c11 z23 m3_12 g29 c12 q29 hh29 s3
attribute [local go_sem] g3 c14 c13 t8 t9 t10 t11 t12 t13 t14 n4 t4
attribute [local go_sem] c4 m4_15 m4_3 c15 m4_8 u31 u41 m4_48 u30 m4_53 bb29_ t15
attribute [local go_sem] n5 t5 c5 m5_3 m5_20 c16 m5_36 m5_10 u45 m5_50 s5 z5
attribute [local go_sem] g5 m5_13 m5_73 m5_75 m5_83 s56 z56 g56 t16 n6 t6 c6
attribute [local go_sem] m6_4 m6_30 m6_43 bs24_0_ m6_45 m6_52 bs24_3_0_1_2 m6_53 m6_54 m6_56 u5 m6_66
attribute [local go_sem] sl24 m6_67 m6_75 m6_76 m6_15 m6_18 m6_98 h6 k6 n8 c19 m8_12
attribute [local go_sem] m8_13 m8_21 s9 z9 g9 u9 t19 n9 m9_2 u34 m9_15 m9_17
attribute [local go_sem] u23 z3 c20 m9_27 m9_30 s53 z53 g53 c21 m9_46 h9 k9
attribute [local go_sem] t20 t21 n10 m10_2 m10_15 z22 m10_5 c22 u22 s22 g22 c23
attribute [local go_sem] m10_7 c24 m10_42 c25 m10_55 m10_57 a30_30 m10_64 h10 k10 t22 t23
attribute [local go_sem] t24 t25 n11 m11_2 bb23_ m11_5 m11_23 m11_6 c26 m11_44 bs34_0_ m11_47
attribute [local go_sem] bb53_0 m11_12 bb53_0_1 bb53_0_1_2 c27 m11_96 c28 c29 m11_134 sl34 a34_34 m11_135
attribute [local go_sem] m11_137 h11 k11 t26 t27 t28 t29 n12 m12_1 m12_2 bb29_0_1_2_3_4_5_6_7_8_9_10_11_12 n13
attribute [local go_sem] m13_7 m13_9 m13_13 q53 hh53 q51 hh51 s51 g51 h13 k13 n14
attribute [local go_sem] m14_6 m14_8 m14_5 c30 m14_16 m14_17 h14 k14 t30 n15 m15_4 c31
attribute [local go_sem] c32 c33 u82 m15_33 s85 z85 g85 m15_10 c34 m15_41 sl41 a41_41
attribute [local go_sem] m15_42 c36 c35 m15_49 m15_50 h15 k15 t31 t32 t33 t34 t35
attribute [local go_sem] t36 n16 m16_1 c37 t37 n19 m19_0 bb23_0_1_2_3_4_5_6_7_8_9_10_11_12 n20 m20_7 m20_17 m20_18
attribute [local go_sem] h20 k20 n22 m22_10 h22 k22 n23 m23_1 m23_2 n24 m24_1 bb98_0_1
attribute [local go_sem] bb99_0_1_2_3_4_5_6_7_8_9_10_11_12 z99 m24_4 s99 c39 u99 s98 z98 g98 f98_0 f98_1 h24
attribute [local go_sem] k24 t39 n25 bb56_0 c45 bb56_0_1 bb56_0_1_2 m25_9 c46 u101 m25_58 s105
attribute [local go_sem] z105 g105 m25_11 f105_0 s103 g103 f105_1 m25_80 sl30 h25 k25 t45
attribute [local go_sem] t46 n26 m26_14 h26 k26 n27 n28 n29 m29_3 m29_6 f53_3 f51_0
attribute [local go_sem] f51_1 f53_4 f53_5 f53_6 n30 m30_1 m30_2 f56_0 f56_1 f56_2 f56_3 f54_0
attribute [local go_sem] f54_1 bb51_0_1 f56_4 f56_5 f56_6 bb53_0_1_2_3_4_5_6 n37 m37_1 c55 c56 h37 k37
attribute [local go_sem] t55 t56 n39 m39_1 m39_2 f29_0 f29_1 f29_2 f29_3 f29_4 f29_5 f29_6
attribute [local go_sem] f29_7 f29_8 f29_9 f29_10 f29_11 f29_12 bb22_0_1_2_3_4_5_6_7_8_9_10_11_12 n45 m45_2 m45_11 m45_12 h45
attribute [local go_sem] k45 n46 bb105_0_1 m46_3 m46_4 m46_5 m46_6 m46_7 m46_19 bs101_3_0_1_2 m46_24 bs101_2_0_1
attribute [local go_sem] m46_30 m46_36 n55 n56 n57 t57 c57 n58 t58 c58 n59 t59
attribute [local go_sem] c59 n60 t60 c60 n61 t61 c61

theorem takeP_E8 : ∀ {ps : List (Nat × Nat)} {e : Ent} {bs : List Int} {r : Ent × List Int}, e.length = 8 → takeP ps e bs = some r → r.1.length = 8
  | [], e, bs, r, he, h => by simp [takeP] at h; subst h; exact he
  | (s, w) :: ps, e, bs, r, he, h => by
    simp only [takeP] at h
    split at h
    · cases h
    · exact takeP_E8 (by simpa using he) h
theorem stepS_E8 {x : Int} {bs : List Int} {r : List Ent × List Int} (h : stepS x bs = some r) : E8 r.1 := by
  unfold stepS at h
  split at h
  · cases h; intro e he; rw [List.eq_of_mem_replicate he]; rfl
  · split at h
    · cases h; intro e he; simp at he; subst he; rfl
    · split at h
      · cases h
      · split at h
        · cases h; intro e he; rw [List.eq_of_mem_replicate he]; rfl
        · simp only [Option.map_eq_some_iff] at h
          obtain ⟨p, hp, rfl⟩ := h
          intro e he
          simp at he
          subst he
          exact takeP_E8 rfl hp
theorem dec_E8 : ∀ (n : Nat) {bs : List Int} {out es : List Ent}, bs.length ≤ n → dec bs out = some es → E8 out → out.length ≤ 20000 → E8 es ∧ es.length ≤ 20000
  | n, [], out, es, _, h, ho, hl => by rw [dec_nil] at h; cases h; exact ⟨ho, hl⟩
  | 0, x :: bs, out, es, hn, h, ho, hl => by simp at hn
  | n + 1, x :: bs, out, es, hn, h, ho, hl => by
    cases hst : stepS x bs with
    | none => rw [dec_stop out hst] at h; cases h; exact ⟨ho, hl⟩
    | some p =>
      obtain ⟨es2, r⟩ := p
      rw [dec_go out hst] at h
      split at h
      · cases h
      · have h1 := stepS_len hst
        have h2 := stepS_E8 hst
        simp only at h1 h2
        simp only [List.length_cons] at hn
        refine dec_E8 n (by omega) h (fun e he => ?_) (by rw [List.length_append]; omega)
        rcases List.mem_append.1 he with he | he
        · exact ho e he
        · exact h2 e he
theorem decode_both {bs : List Int} {cs : List Int} {es : List Ent} (h : decode bs = .ok cs es) : E8 es ∧ es.length ≤ 20000 := by
  unfold decode at h
  split at h
  · cases h
  · split at h
    · split at h
      · cases h
      · rename_i hd
        cases h
        exact dec_E8 _ (Nat.le_refl _) hd (by intro e he; cases he) (by simp)
    · cases h
theorem decode_E8 {bs : List Int} {cs : List Int} {es : List Ent} (h : decode bs = .ok cs es) : E8 es := (decode_both h).1
theorem decode_20000 {bs : List Int} {cs : List Int} {es : List Ent} (h : decode bs = .ok cs es) : es.length ≤ 20000 := (decode_both h).2

theorem headOf_byt (cs : List Int) : ∀ x ∈ headOf cs, 0 ≤ x ∧ x < 256 := by
  intro x hx
  simp only [headOf, List.mem_flatten, List.mem_map] at hx
  obtain ⟨l, ⟨n, _, rfl⟩, hx⟩ := hx
  exact bytesOf_byt 4 n x hx
theorem Byt_iff {bs : List Int} : Byt bs ↔ ∀ x ∈ bs, 0 ≤ x ∧ x < 256 := by
  constructor
  · intro h x hx
    obtain ⟨i, hi, rfl⟩ := List.mem_iff_getElem.1 hx
    have := h i hi
    rwa [getD_lt' hi] at this
  · intro h i hi
    rw [getD_lt' hi]
    exact h _ (List.getElem_mem hi)
theorem Byt_app {a b : List Int} (ha : ∀ x ∈ a, 0 ≤ x ∧ x < 256) (hb : Byt b) : Byt (a ++ b) := by
  rw [Byt_iff] at hb ⊢
  intro x hx
  rcases List.mem_append.1 hx with h | h
  · exact ha x h
  · exact hb x h

theorem of3_zero (σ : Store) (R : AV → Store → Prop) : Ans ES 12 [.agg [.sc (.int .i64 0), .sc (.int .i64 0), .sc (.int .i64 0), .sc (.int .i64 0), .sc (.int .i64 0), .sc (.int .i64 0), .sc (.int .i64 0), .sc (.int .i64 0), .sc (.int .i64 0), .sc (.int .i64 0), .sc (.int .i64 0), .sc (.int .i64 0), .sc (.int .i64 0)]] σ R = R (.agg [.sc (.int .i64 0), .sc (.int .i64 0), .sc (.int .i64 0), .sc (.int .i64 0), .sc (.int .i64 0), .sc (.int .i64 0), .sc (.int .i64 0), .sc (.int .i64 0), .sc (.int .i64 0), .sc (.int .i64 0), .sc (.int .i64 0), .sc (.int .i64 0), .sc (.int .i64 0)]) σ :=
  (Of3_ok [0, 0, 0, 0, 0, 0, 0, 0, 0, 0, 0, 0, 0] rfl σ).eq R

theorem reads_ok {v : AV} {bs cs : List Int} {wh : Bool} (hs : Sl [] 1 v (bs.map U) bs.length) (hb : Byt bs) (hcl : cs.length = 13) : Ans ES 3 [.agg (cs.map I), v, B wh] [] (fun r _ => r = B true) := by
  obtain ⟨σ1, hs1, hs2⟩ := speaks1
  have e0 := hs.sl
  refine w3 1000 ?_
  repeat' first | with_reducible refine CondK_split (fun h => ?_) (fun h => ?_) | with_reducible refine gdK_dec (fun h => ?_) (fun h => ?_) | with_reducible refine GuardK_dec (fun h => ?_) (fun h => ?_) | with_reducible refine WP_draw ?_ | with_reducible refine WP_drw_end (by kernel_rfl) ?_ | simp (disch := first | omega | (simp only [List.length_append, List.length_cons, List.length_nil, List.length_set, List.length_map, List.length_replicate, List.length_drop, List.length_take] <;> omega) | assumption) only [go_sem, Nat.reduceBEq, Nat.reduceAdd, Nat.reduceSub, Nat.reduceMul, Nat.reduceLT, Nat.reduceLeDiff, Nat.reduceEqDiff, Int.reduceAdd, Int.reduceSub, Int.reduceMul, Int.reduceLT, Int.reduceLE, Int.reduceNeg, Int.reduceToNat, Int.reduceEq, Int.reduceNe, Nat.reducePow, Int.reducePow, Int.reduceDiv, Int.reduceMod, Tryz.f3]
  refine hs1.mono ?_
  rintro r σ' ⟨rfl, rfl⟩
  by_cases h3000 : 3000 < bs.length
  · repeat' first | with_reducible refine CondK_split (fun h => ?_) (fun h => ?_) | with_reducible refine gdK_dec (fun h => ?_) (fun h => ?_) | with_reducible refine GuardK_dec (fun h => ?_) (fun h => ?_) | with_reducible refine WP_draw ?_ | with_reducible refine WP_drw_end (by kernel_rfl) ?_ | simp (disch := first | omega | (simp only [List.length_append, List.length_cons, List.length_nil, List.length_set, List.length_map, List.length_replicate, List.length_drop, List.length_take] <;> omega) | assumption) only [go_sem, Nat.reduceBEq, Nat.reduceAdd, Nat.reduceSub, Nat.reduceMul, Nat.reduceLT, Nat.reduceLeDiff, Nat.reduceEqDiff, Int.reduceAdd, Int.reduceSub, Int.reduceMul, Int.reduceLT, Int.reduceLE, Int.reduceNeg, Int.reduceToNat, Int.reduceEq, Int.reduceNe, Nat.reducePow, Int.reducePow, Int.reduceDiv, Int.reduceMod, e0]
    exact hs2.mono fun r σ' h => by
      subst h
      repeat' first | with_reducible refine CondK_split (fun h => ?_) (fun h => ?_) | with_reducible refine gdK_dec (fun h => ?_) (fun h => ?_) | with_reducible refine GuardK_dec (fun h => ?_) (fun h => ?_) | with_reducible refine WP_draw ?_ | with_reducible refine WP_drw_end (by kernel_rfl) ?_ | simp (disch := first | omega | (simp only [List.length_append, List.length_cons, List.length_nil, List.length_set, List.length_map, List.length_replicate, List.length_drop, List.length_take] <;> omega) | assumption) only [go_sem, Nat.reduceBEq, Nat.reduceAdd, Nat.reduceSub, Nat.reduceMul, Nat.reduceLT, Nat.reduceLeDiff, Nat.reduceEqDiff, Int.reduceAdd, Int.reduceSub, Int.reduceMul, Int.reduceLT, Int.reduceLE, Int.reduceNeg, Int.reduceToNat, Int.reduceEq, Int.reduceNe, Nat.reducePow, Int.reducePow, Int.reduceDiv, Int.reduceMod]
  have hsσ := hs.more σ'
  rw [List.nil_append] at hsσ
  repeat' first | with_reducible refine CondK_split (fun h => ?_) (fun h => ?_) | with_reducible refine gdK_dec (fun h => ?_) (fun h => ?_) | with_reducible refine GuardK_dec (fun h => ?_) (fun h => ?_) | with_reducible refine WP_draw ?_ | with_reducible refine WP_drw_end (by kernel_rfl) ?_ | simp (disch := first | omega | (simp only [List.length_append, List.length_cons, List.length_nil, List.length_set, List.length_map, List.length_replicate, List.length_drop, List.length_take] <;> omega) | assumption) only [go_sem, Nat.reduceBEq, Nat.reduceAdd, Nat.reduceSub, Nat.reduceMul, Nat.reduceLT, Nat.reduceLeDiff, Nat.reduceEqDiff, Int.reduceAdd, Int.reduceSub, Int.reduceMul, Int.reduceLT, Int.reduceLE, Int.reduceNeg, Int.reduceToNat, Int.reduceEq, Int.reduceNe, Nat.reducePow, Int.reducePow, Int.reduceDiv, Int.reduceMod, e0]
  by_cases hok : okC cs
  · refine (Encode_nil cs hcl hok σ').mono ?_
    rintro r σ2 ⟨hv, rfl, hout⟩
    obtain ⟨⟨gh, rfl⟩, -⟩ := id hout
    have hs2σ := hsσ.more gh
    cases wh
    · repeat' first | with_reducible refine CondK_split (fun h => ?_) (fun h => ?_) | with_reducible refine gdK_dec (fun h => ?_) (fun h => ?_) | with_reducible refine GuardK_dec (fun h => ?_) (fun h => ?_) | with_reducible refine WP_draw ?_ | with_reducible refine WP_drw_end (by kernel_rfl) ?_ | simp (disch := first | omega | (simp only [List.length_append, List.length_cons, List.length_nil, List.length_set, List.length_map, List.length_replicate, List.length_drop, List.length_take] <;> omega) | assumption) only [go_sem, Nat.reduceBEq, Nat.reduceAdd, Nat.reduceSub, Nat.reduceMul, Nat.reduceLT, Nat.reduceLeDiff, Nat.reduceEqDiff, Int.reduceAdd, Int.reduceSub, Int.reduceMul, Int.reduceLT, Int.reduceLE, Int.reduceNeg, Int.reduceToNat, Int.reduceEq, Int.reduceNe, Nat.reducePow, Int.reducePow, Int.reduceDiv, Int.reduceMod]
      refine (IDecode_ok hs2σ hb (by omega)).mono ?_
      rintro r _ ⟨⟨ga, rfl⟩, hr⟩
      cases hd : decode bs with
      | err k =>
        rw [hd] at hr
        subst hr
        repeat' first | with_reducible refine CondK_split (fun h => ?_) (fun h => ?_) | with_reducible refine gdK_dec (fun h => ?_) (fun h => ?_) | with_reducible refine GuardK_dec (fun h => ?_) (fun h => ?_) | with_reducible refine WP_draw ?_ | with_reducible refine WP_drw_end (by kernel_rfl) ?_ | simp (disch := first | omega | (simp only [List.length_append, List.length_cons, List.length_nil, List.length_set, List.length_map, List.length_replicate, List.length_drop, List.length_take] <;> omega) | assumption) only [go_sem, Nat.reduceBEq, Nat.reduceAdd, Nat.reduceSub, Nat.reduceMul, Nat.reduceLT, Nat.reduceLeDiff, Nat.reduceEqDiff, Int.reduceAdd, Int.reduceSub, Int.reduceMul, Int.reduceLT, Int.reduceLE, Int.reduceNeg, Int.reduceToNat, Int.reduceEq, Int.reduceNe, Nat.reducePow, Int.reducePow, Int.reduceDiv, Int.reduceMod, zeros13]
        refine (RDecode_ok ((hs2σ).more ga) hb (by omega)).mono ?_
        rintro r _ ⟨⟨gb, rfl⟩, hr⟩
        rw [hd] at hr
        subst hr
        obtain ⟨r1, σr, ho1, rfl, hw1⟩ := tos_ok (σ := (σ' ++ gh) ++ ga ++ gb) (v := nilS) (es := []) .nil (by intro e he; cases he) (by simp)
        have ho2 := Same_ok hw1 (Sl.nil (sz := 8)) (by intro e he; cases he) (by simp)
        repeat' first | with_reducible refine CondK_split (fun h => ?_) (fun h => ?_) | with_reducible refine gdK_dec (fun h => ?_) (fun h => ?_) | with_reducible refine GuardK_dec (fun h => ?_) (fun h => ?_) | with_reducible refine WP_draw ?_ | with_reducible refine WP_drw_end (by kernel_rfl) ?_ | simp (disch := first | omega | (simp only [List.length_append, List.length_cons, List.length_nil, List.length_set, List.length_map, List.length_replicate, List.length_drop, List.length_take] <;> omega) | assumption) only [go_sem, Nat.reduceBEq, Nat.reduceAdd, Nat.reduceSub, Nat.reduceMul, Nat.reduceLT, Nat.reduceLeDiff, Nat.reduceEqDiff, Int.reduceAdd, Int.reduceSub, Int.reduceMul, Int.reduceLT, Int.reduceLE, Int.reduceNeg, Int.reduceToNat, Int.reduceEq, Int.reduceNe, Nat.reducePow, Int.reducePow, Int.reduceDiv, Int.reduceMod, zeros13, of3_zero, Ans_of_run ho1, ho2.eq, zz29]
      | ok c2 es =>
        have hE := decode_E8 hd
        have hcl := decode_len hd
        have hes := decode_20000 hd
        rw [hd] at hr
        obtain ⟨w1, rfl, hw1⟩ := hr
        repeat' first | with_reducible refine CondK_split (fun h => ?_) (fun h => ?_) | with_reducible refine gdK_dec (fun h => ?_) (fun h => ?_) | with_reducible refine GuardK_dec (fun h => ?_) (fun h => ?_) | with_reducible refine WP_draw ?_ | with_reducible refine WP_drw_end (by kernel_rfl) ?_ | simp (disch := first | omega | (simp only [List.length_append, List.length_cons, List.length_nil, List.length_set, List.length_map, List.length_replicate, List.length_drop, List.length_take] <;> omega) | assumption) only [go_sem, Nat.reduceBEq, Nat.reduceAdd, Nat.reduceSub, Nat.reduceMul, Nat.reduceLT, Nat.reduceLeDiff, Nat.reduceEqDiff, Int.reduceAdd, Int.reduceSub, Int.reduceMul, Int.reduceLT, Int.reduceLE, Int.reduceNeg, Int.reduceToNat, Int.reduceEq, Int.reduceNe, Nat.reducePow, Int.reducePow, Int.reduceDiv, Int.reduceMod, hcl]
        refine (RDecode_ok ((hs2σ).more ga) hb (by omega)).mono ?_
        rintro r _ ⟨⟨gb, rfl⟩, hr⟩
        rw [hd] at hr
        obtain ⟨w2, rfl, hw2⟩ := hr
        obtain ⟨r1, σr, ho1, rfl, hw3⟩ := tos_ok (hw1.more gb) hE hes
        have ho2 := Same_ok hw3 hw2 hE hes
        have ho3 := same_eql (P := Tryz.prog) (T := 29) q29 flat29 c2 hcl
        repeat' first | with_reducible refine CondK_split (fun h => ?_) (fun h => ?_) | with_reducible refine gdK_dec (fun h => ?_) (fun h => ?_) | with_reducible refine GuardK_dec (fun h => ?_) (fun h => ?_) | with_reducible refine WP_draw ?_ | with_reducible refine WP_drw_end (by kernel_rfl) ?_ | simp (disch := first | omega | (simp only [List.length_append, List.length_cons, List.length_nil, List.length_set, List.length_map, List.length_replicate, List.length_drop, List.length_take] <;> omega) | assumption) only [go_sem, Nat.reduceBEq, Nat.reduceAdd, Nat.reduceSub, Nat.reduceMul, Nat.reduceLT, Nat.reduceLeDiff, Nat.reduceEqDiff, Int.reduceAdd, Int.reduceSub, Int.reduceMul, Int.reduceLT, Int.reduceLE, Int.reduceNeg, Int.reduceToNat, Int.reduceEq, Int.reduceNe, Nat.reducePow, Int.reducePow, Int.reduceDiv, Int.reduceMod, hcl, (Of3_ok c2 hcl _).eq, Ans_of_run ho1, ho2.eq, ho3]
    · obtain ⟨vv, σ3, ho3, ha⟩ := hout.app (bs.map U) bs.length (by simp) (u_ok _) (by omega)
      have e6 := fun loc ts => hs2σ.rdS (loc := loc) (ts := ts)
      repeat' first | with_reducible refine CondK_split (fun h => ?_) (fun h => ?_) | with_reducible refine gdK_dec (fun h => ?_) (fun h => ?_) | with_reducible refine GuardK_dec (fun h => ?_) (fun h => ?_) | with_reducible refine WP_draw ?_ | with_reducible refine WP_drw_end (by kernel_rfl) ?_ | simp (disch := first | omega | (simp only [List.length_append, List.length_cons, List.length_nil, List.length_set, List.length_map, List.length_replicate, List.length_drop, List.length_take] <;> omega) | assumption) only [go_sem, Nat.reduceBEq, Nat.reduceAdd, Nat.reduceSub, Nat.reduceMul, Nat.reduceLT, Nat.reduceLeDiff, Nat.reduceEqDiff, Int.reduceAdd, Int.reduceSub, Int.reduceMul, Int.reduceLT, Int.reduceLE, Int.reduceNeg, Int.reduceToNat, Int.reduceEq, Int.reduceNe, Nat.reducePow, Int.reducePow, Int.reduceDiv, Int.reduceMod, ha, e6]
      have hS : Sl σ3 1 vv ((headOf cs ++ bs).map U) (headOf cs ++ bs).length := by
        have := ho3.sl
        rw [List.map_append, List.length_append, headN_len, hcl]
        exact this
      have hB : Byt (headOf cs ++ bs) := Byt_app (headOf_byt cs) hb
      have hL : (headOf cs ++ bs).length < 100000 := by rw [List.length_append, headN_len, hcl]; omega
      refine (IDecode_ok hS hB hL).mono ?_
      rintro r _ ⟨⟨ga, rfl⟩, hr⟩
      cases hd : decode (headOf cs ++ bs) with
      | err k =>
        rw [hd] at hr
        subst hr
        repeat' first | with_reducible refine CondK_split (fun h => ?_) (fun h => ?_) | with_reducible refine gdK_dec (fun h => ?_) (fun h => ?_) | with_reducible refine GuardK_dec (fun h => ?_) (fun h => ?_) | with_reducible refine WP_draw ?_ | with_reducible refine WP_drw_end (by kernel_rfl) ?_ | simp (disch := first | omega | (simp only [List.length_append, List.length_cons, List.length_nil, List.length_set, List.length_map, List.length_replicate, List.length_drop, List.length_take] <;> omega) | assumption) only [go_sem, Nat.reduceBEq, Nat.reduceAdd, Nat.reduceSub, Nat.reduceMul, Nat.reduceLT, Nat.reduceLeDiff, Nat.reduceEqDiff, Int.reduceAdd, Int.reduceSub, Int.reduceMul, Int.reduceLT, Int.reduceLE, Int.reduceNeg, Int.reduceToNat, Int.reduceEq, Int.reduceNe, Nat.reducePow, Int.reducePow, Int.reduceDiv, Int.reduceMod, zeros13]
        refine (RDecode_ok ((hS).more ga) hB hL).mono ?_
        rintro r _ ⟨⟨gb, rfl⟩, hr⟩
        rw [hd] at hr
        subst hr
        obtain ⟨r1, σr, ho1, rfl, hw1⟩ := tos_ok (σ := σ3 ++ ga ++ gb) (v := nilS) (es := []) .nil (by intro e he; cases he) (by simp)
        have ho2 := Same_ok hw1 (Sl.nil (sz := 8)) (by intro e he; cases he) (by simp)
        repeat' first | with_reducible refine CondK_split (fun h => ?_) (fun h => ?_) | with_reducible refine gdK_dec (fun h => ?_) (fun h => ?_) | with_reducible refine GuardK_dec (fun h => ?_) (fun h => ?_) | with_reducible refine WP_draw ?_ | with_reducible refine WP_drw_end (by kernel_rfl) ?_ | simp (disch := first | omega | (simp only [List.length_append, List.length_cons, List.length_nil, List.length_set, List.length_map, List.length_replicate, List.length_drop, List.length_take] <;> omega) | assumption) only [go_sem, Nat.reduceBEq, Nat.reduceAdd, Nat.reduceSub, Nat.reduceMul, Nat.reduceLT, Nat.reduceLeDiff, Nat.reduceEqDiff, Int.reduceAdd, Int.reduceSub, Int.reduceMul, Int.reduceLT, Int.reduceLE, Int.reduceNeg, Int.reduceToNat, Int.reduceEq, Int.reduceNe, Nat.reducePow, Int.reducePow, Int.reduceDiv, Int.reduceMod, zeros13, of3_zero, Ans_of_run ho1, ho2.eq, zz29]
      | ok c2 es =>
        have hE := decode_E8 hd
        have hcl := decode_len hd
        have hes := decode_20000 hd
        rw [hd] at hr
        obtain ⟨w1, rfl, hw1⟩ := hr
        repeat' first | with_reducible refine CondK_split (fun h => ?_) (fun h => ?_) | with_reducible refine gdK_dec (fun h => ?_) (fun h => ?_) | with_reducible refine GuardK_dec (fun h => ?_) (fun h => ?_) | with_reducible refine WP_draw ?_ | with_reducible refine WP_drw_end (by kernel_rfl) ?_ | simp (disch := first | omega | (simp only [List.length_append, List.length_cons, List.length_nil, List.length_set, List.length_map, List.length_replicate, List.length_drop, List.length_take] <;> omega) | assumption) only [go_sem, Nat.reduceBEq, Nat.reduceAdd, Nat.reduceSub, Nat.reduceMul, Nat.reduceLT, Nat.reduceLeDiff, Nat.reduceEqDiff, Int.reduceAdd, Int.reduceSub, Int.reduceMul, Int.reduceLT, Int.reduceLE, Int.reduceNeg, Int.reduceToNat, Int.reduceEq, Int.reduceNe, Nat.reducePow, Int.reducePow, Int.reduceDiv, Int.reduceMod, hcl]
        refine (RDecode_ok ((hS).more ga) hB hL).mono ?_
        rintro r _ ⟨⟨gb, rfl⟩, hr⟩
        rw [hd] at hr
        obtain ⟨w2, rfl, hw2⟩ := hr
        obtain ⟨r1, σr, ho1, rfl, hw3⟩ := tos_ok (hw1.more gb) hE hes
        have ho2 := Same_ok hw3 hw2 hE hes
        have ho3 := same_eql (P := Tryz.prog) (T := 29) q29 flat29 c2 hcl
        repeat' first | with_reducible refine CondK_split (fun h => ?_) (fun h => ?_) | with_reducible refine gdK_dec (fun h => ?_) (fun h => ?_) | with_reducible refine GuardK_dec (fun h => ?_) (fun h => ?_) | with_reducible refine WP_draw ?_ | with_reducible refine WP_drw_end (by kernel_rfl) ?_ | simp (disch := first | omega | (simp only [List.length_append, List.length_cons, List.length_nil, List.length_set, List.length_map, List.length_replicate, List.length_drop, List.length_take] <;> omega) | assumption) only [go_sem, Nat.reduceBEq, Nat.reduceAdd, Nat.reduceSub, Nat.reduceMul, Nat.reduceLT, Nat.reduceLeDiff, Nat.reduceEqDiff, Int.reduceAdd, Int.reduceSub, Int.reduceMul, Int.reduceLT, Int.reduceLE, Int.reduceNeg, Int.reduceToNat, Int.reduceEq, Int.reduceNe, Nat.reducePow, Int.reducePow, Int.reduceDiv, Int.reduceMod, hcl, (Of3_ok c2 hcl _).eq, Ans_of_run ho1, ho2.eq, ho3]
  · refine (Encode_bad cs hcl hok nilS σ').mono ?_
    rintro r σ2 ⟨rfl, rfl⟩
    cases wh
    all_goals
      repeat' first | with_reducible refine CondK_split (fun h => ?_) (fun h => ?_) | with_reducible refine gdK_dec (fun h => ?_) (fun h => ?_) | with_reducible refine GuardK_dec (fun h => ?_) (fun h => ?_) | with_reducible refine WP_draw ?_ | with_reducible refine WP_drw_end (by kernel_rfl) ?_ | simp (disch := first | omega | (simp only [List.length_append, List.length_cons, List.length_nil, List.length_set, List.length_map, List.length_replicate, List.length_drop, List.length_take] <;> omega) | assumption) only [go_sem, Nat.reduceBEq, Nat.reduceAdd, Nat.reduceSub, Nat.reduceMul, Nat.reduceLT, Nat.reduceLeDiff, Nat.reduceEqDiff, Int.reduceAdd, Int.reduceSub, Int.reduceMul, Int.reduceLT, Int.reduceLE, Int.reduceNeg, Int.reduceToNat, Int.reduceEq, Int.reduceNe, Nat.reducePow, Int.reducePow, Int.reduceDiv, Int.reduceMod]
      refine (IDecode_ok hsσ hb (by omega)).mono ?_
      rintro r _ ⟨⟨ga, rfl⟩, hr⟩
      cases hd : decode bs with
      | err k =>
        rw [hd] at hr
        subst hr
        repeat' first | with_reducible refine CondK_split (fun h => ?_) (fun h => ?_) | with_reducible refine gdK_dec (fun h => ?_) (fun h => ?_) | with_reducible refine GuardK_dec (fun h => ?_) (fun h => ?_) | with_reducible refine WP_draw ?_ | with_reducible refine WP_drw_end (by kernel_rfl) ?_ | simp (disch := first | omega | (simp only [List.length_append, List.length_cons, List.length_nil, List.length_set, List.length_map, List.length_replicate, List.length_drop, List.length_take] <;> omega) | assumption) only [go_sem, Nat.reduceBEq, Nat.reduceAdd, Nat.reduceSub, Nat.reduceMul, Nat.reduceLT, Nat.reduceLeDiff, Nat.reduceEqDiff, Int.reduceAdd, Int.reduceSub, Int.reduceMul, Int.reduceLT, Int.reduceLE, Int.reduceNeg, Int.reduceToNat, Int.reduceEq, Int.reduceNe, Nat.reducePow, Int.reducePow, Int.reduceDiv, Int.reduceMod, zeros13]
        refine (RDecode_ok ((hsσ).more ga) hb (by omega)).mono ?_
        rintro r _ ⟨⟨gb, rfl⟩, hr⟩
        rw [hd] at hr
        subst hr
        obtain ⟨r1, σr, ho1, rfl, hw1⟩ := tos_ok (σ := σ2 ++ ga ++ gb) (v := nilS) (es := []) .nil (by intro e he; cases he) (by simp)
        have ho2 := Same_ok hw1 (Sl.nil (sz := 8)) (by intro e he; cases he) (by simp)
        repeat' first | with_reducible refine CondK_split (fun h => ?_) (fun h => ?_) | with_reducible refine gdK_dec (fun h => ?_) (fun h => ?_) | with_reducible refine GuardK_dec (fun h => ?_) (fun h => ?_) | with_reducible refine WP_draw ?_ | with_reducible refine WP_drw_end (by kernel_rfl) ?_ | simp (disch := first | omega | (simp only [List.length_append, List.length_cons, List.length_nil, List.length_set, List.length_map, List.length_replicate, List.length_drop, List.length_take] <;> omega) | assumption) only [go_sem, Nat.reduceBEq, Nat.reduceAdd, Nat.reduceSub, Nat.reduceMul, Nat.reduceLT, Nat.reduceLeDiff, Nat.reduceEqDiff, Int.reduceAdd, Int.reduceSub, Int.reduceMul, Int.reduceLT, Int.reduceLE, Int.reduceNeg, Int.reduceToNat, Int.reduceEq, Int.reduceNe, Nat.reducePow, Int.reducePow, Int.reduceDiv, Int.reduceMod, zeros13, of3_zero, Ans_of_run ho1, ho2.eq, zz29]
      | ok c2 es =>
        have hE := decode_E8 hd
        have hcl := decode_len hd
        have hes := decode_20000 hd
        rw [hd] at hr
        obtain ⟨w1, rfl, hw1⟩ := hr
        repeat' first | with_reducible refine CondK_split (fun h => ?_) (fun h => ?_) | with_reducible refine gdK_dec (fun h => ?_) (fun h => ?_) | with_reducible refine GuardK_dec (fun h => ?_) (fun h => ?_) | with_reducible refine WP_draw ?_ | with_reducible refine WP_drw_end (by kernel_rfl) ?_ | simp (disch := first | omega | (simp only [List.length_append, List.length_cons, List.length_nil, List.length_set, List.length_map, List.length_replicate, List.length_drop, List.length_take] <;> omega) | assumption) only [go_sem, Nat.reduceBEq, Nat.reduceAdd, Nat.reduceSub, Nat.reduceMul, Nat.reduceLT, Nat.reduceLeDiff, Nat.reduceEqDiff, Int.reduceAdd, Int.reduceSub, Int.reduceMul, Int.reduceLT, Int.reduceLE, Int.reduceNeg, Int.reduceToNat, Int.reduceEq, Int.reduceNe, Nat.reducePow, Int.reducePow, Int.reduceDiv, Int.reduceMod, hcl]
        refine (RDecode_ok ((hsσ).more ga) hb (by omega)).mono ?_
        rintro r _ ⟨⟨gb, rfl⟩, hr⟩
        rw [hd] at hr
        obtain ⟨w2, rfl, hw2⟩ := hr
        obtain ⟨r1, σr, ho1, rfl, hw3⟩ := tos_ok (hw1.more gb) hE hes
        have ho2 := Same_ok hw3 hw2 hE hes
        have ho3 := same_eql (P := Tryz.prog) (T := 29) q29 flat29 c2 hcl
        repeat' first | with_reducible refine CondK_split (fun h => ?_) (fun h => ?_) | with_reducible refine gdK_dec (fun h => ?_) (fun h => ?_) | with_reducible refine GuardK_dec (fun h => ?_) (fun h => ?_) | with_reducible refine WP_draw ?_ | with_reducible refine WP_drw_end (by kernel_rfl) ?_ | simp (disch := first | omega | (simp only [List.length_append, List.length_cons, List.length_nil, List.length_set, List.length_map, List.length_replicate, List.length_drop, List.length_take] <;> omega) | assumption) only [go_sem, Nat.reduceBEq, Nat.reduceAdd, Nat.reduceSub, Nat.reduceMul, Nat.reduceLT, Nat.reduceLeDiff, Nat.reduceEqDiff, Int.reduceAdd, Int.reduceSub, Int.reduceMul, Int.reduceLT, Int.reduceLE, Int.reduceNeg, Int.reduceToNat, Int.reduceEq, Int.reduceNe, Nat.reducePow, Int.reducePow, Int.reduceDiv, Int.reduceMod, hcl, (Of3_ok c2 hcl _).eq, Ans_of_run ho1, ho2.eq, ho3]
end Go.Abs
