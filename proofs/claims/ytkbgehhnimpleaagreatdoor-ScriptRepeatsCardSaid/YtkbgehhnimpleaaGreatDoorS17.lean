/- An abstract reading of the program, and what it answers. By an AI agent. -/
import Derived.Test.YtkbgehhnimpleaaGreatDoorS16
set_option linter.all false
set_option maxRecDepth 10000
namespace Go.Abs
open Go.Proofs Go.Script
attribute [local go_sem] WP_nil WP_seq WP_skip WP_ret WP_exit WP_label WP_scope WP_code_ret WP_code_exit WP_blk_normal WP_blk_ret WP_blk_ex
attribute [local go_sem] blkK_t blkK_f WP_lp_ret WP_lp_exit WP_block WP_cond CondK_t CondK_f CondK_dt CondK_df WP_region WP_ops_nil
attribute [local go_sem] WP_op WP_guard GuardK_t GuardK_f arK_val arK_skip arK_call After_eq AfterD_eq dvK_some LoopQ_normal LoopQ_ret
attribute [local go_sem] LoopQ_exit Fin_normal Fin_ret FinK_some Is_self put_some put_none opd_tmp opd_const opd_func ofV_int ofV_bool
attribute [local go_sem] ofV_str ofV_nilp ofV_nils ofV_nilf ofV_agg ofV_tup avOf_v avOf_lp avOf_ls tg0 tg1 tg2
attribute [local go_sem] tg3 tg4 tg5 tg6 tg7 tg8 ts0 ts1 ts2 ts3 ts4 ts5
attribute [local go_sem] ts6 ts7 ts8 aop_move aop_assign aop_pick pickB_t pickB_f pickB_dt pickB_df aop_alloc aop_box
attribute [local go_sem] aop_build aop_buildSlice aop_load aop_store storeR_some aop_nilCheck aop_binOp aop_unOp aop_convert aop_makeFunc aop_slice aop_fieldAddr
attribute [local go_sem] aop_field aop_indexAddr aop_index aop_extract aop_makeSlice aop_builtin aop_call callR_fn mkP_glob mkP_dt mkP_df mkP_loc
attribute [local go_sem] mkS_glob mkS_dflt mkS_loc mkA_glob mkA_dflt mkA_loc cellAt_some rangeAt_some cellAt_none cellAt_dead rangeAt_none rangeAt_dead
attribute [local go_sem] ld_ip ld_gp ld_lp ldV_f ldV_t spliceAt_some wr_gp wr_lp bin_add bin_sub bin_mul bin_quo
attribute [local go_sem] bin_rem bin_andK bin_orK bin_xorK bin_andNotK bin_shl bin_shr bin_eql bin_neq bin_lss bin_leq bin_gtr
attribute [local go_sem] bin_geq aun_not aun_neg not_decide' acvt intOpd avOpd optIdx frzO frzL frzT_v frzT_lp
attribute [local go_sem] frzT_ls frzL1_some frzL2_some freeze_mk sub_v sub_top sub_undef sub_lp sub_ls frzS_σ awanted ares
attribute [local go_sem] aresL acall abuiltin alen slen_nil slen_is slen_gs slen_ls aindex_eq ixU_s ixU_a ixE_some
attribute [local go_sem] ixA_some ixS_is ixS_gs ixS_ls aindexV_agg axU_a axE_some bsz List.size_toArray all_I all_U apart
attribute [local go_sem] aslice_eq slU_s slE_some addP_ip addP_gp addP_lp rdS_nil rdS_is rdS_gs rdS_ls sure aextract
attribute [local go_sem] wrap_i64 wrap_u8 wrap_u64 List.map_cons List.map_nil List.length_cons List.length_nil List.cons_append List.nil_append List.append_nil Option.map_some Option.map_none
attribute [local go_sem] Option.bind_some Option.bind_none mapM_c mapM_n if_true if_false decide_true decide_false Bool.false_eq_true Bool.true_eq_false Bool.not_true Bool.not_false
attribute [local go_sem] ES_P WP_drw_n WP_drw_g gdK_t gdK_f gdK_dt gdK_df GuardK_dt GuardK_df DT_move DT_assign DT_pick
attribute [local go_sem] DT_build DT_nilCheck DT_binOp DT_unOp DT_convert DT_makeFunc DT_slice DT_fieldAddr DT_field DT_indexAddr DT_index DT_extract
attribute [local go_sem] DT_len DT_load DT_boxK boxK_d DT_bslK bslK_d DT_alcK alcK_d DT_stK stK_v stS_some DT_apK
attribute [local go_sem] apK_some apS_some DT_makeSlice DT_call qK_some ldK_some frK_some alK_some arD_val arD_skip arD_call dcK_some
attribute [local go_sem] dcK_none acq_fn acq_none prefrz frzAll lkT_v lkT_lp beq_t beq_f bits_i64 bits_u64 bits_u8
attribute [local go_sem] fdiv_pos tdiv_pos tmod_pos toNat_add' orK_low andK3_u8 andK63 Nat.min_eq_left Nat.min_eq_right aappend_eq appE_some appS_some
attribute [local go_sem] get_app_l get_app_r set_app_l set_app_r Nat.sub_self window_all win_z win_s win_o ite_t ite_f splice_eq
attribute [local go_sem] spliceC_one spliceC_all List.all_cons List.all_nil ok_int ok_bool ok_str ok_nilf ok_nilp ok_nils ok_fn ok_ip
attribute [local go_sem] ok_is ok_gp ok_gs co_int co_bool co_str co_nilf co_nilp co_nils co_agg co_fn co_ip
attribute [local go_sem] co_is co_gp co_gs vs0 vs1 ss0 ss1 some_eq List.zip_cons_cons List.zip_nil_left List.zip_nil_right afill
attribute [local go_sem] List.take_succ_cons List.take_zero List.take_nil List.drop_succ_cons List.drop_zero List.drop_nil eq_self I U B nilS arr_get
attribute [local go_sem] List.getElem?_toArray og0 og1 vg0 vg1 vgn sg0 sg1 sgn List.getElem?_drop List.getElem?_map getq
attribute [local go_sem] Option.isNone_none Option.isNone_some Bool.and_true Bool.true_and Bool.and_self Nat.add_zero Nat.zero_add Nat.mul_one Int.toNat_natCast bodyOf Option.getD_some n3
attribute [local go_sem] t3 c3 m3_3 c8 u24 m3_19 s23 g23 c9 u3 a24_24 m3_35
attribute [local go_sem] c10 z29 m3_9 s29 c11 z23 m3_12 g29 c12 q29 hh29 s3
attribute [local go_sem] g3 c14 c13 t8 t9 t10 t11 t12 t13 t14 n4 t4
attribute [local go_sem] c4 m4_15 m4_3 c15 m4_8 u31 u41 m4_48 u30 m4_53 bb29_ t15
attribute [local go_sem] n5 t5 c5 m5_3 m5_20 c16 m5_36 m5_10 u45 m5_50 s5 z5
attribute [local go_sem] g5 m5_13 m5_73 m5_75 m5_83 s56 z56 g56 t16 n6 t6 c6
attribute [local go_sem] m6_4 m6_30 m6_43 bs24_0_ m6_45 m6_52 bs24_3_0_1_2 m6_53 m6_54 m6_56 u5 m6_66
attribute [local go_sem] sl24 m6_67 m6_75 m6_76 m6_15 m6_18 m6_98 h6 k6 n8 c19 m8_12
attribute [local go_sem] m8_13 m8_21 s9 z9 g9 u9 t19 n9 m9_2 u34 m9_15 m9_17
attribute [local go_sem] u23 z3 c20 m9_27 m9_30 s53 z53 g53 c21 m9_46 h9 k9
attribute [local go_sem] t20 t21 n10 m10_2 m10_15 z22 m10_5 c22 u22 s22 g22 c23
attribute [local go_sem] m10_7 c24 m10_42 c25 m10_55 m10_57 a30_30 m10_64 h10 k10 t22 t23
attribute [local go_sem] t24 t25 n11 m11_2 bb23_ m11_5 m11_23 m11_6 c26 m11_44 bs34_0_ m11_47
attribute [local go_sem] bb53_0 m11_12 bb53_0_1 bb53_0_1_2 c27 m11_96 c28 c29 m11_134 sl34 a34_34 m11_135
attribute [local go_sem] m11_137 h11 k11 t26 t27 t28 t29 n12 m12_1 m12_2 bb29_0_1_2_3_4_5_6_7_8_9_10_11_12 n13
attribute [local go_sem] m13_7 m13_9 m13_13 q53 hh53 q51 hh51 s51 g51 h13 k13 n14
attribute [local go_sem] m14_6 m14_8 m14_5 c30 m14_16 m14_17 h14 k14 t30 n15 m15_4 c31
attribute [local go_sem] c32 c33 u82 m15_33 s85 z85 g85 m15_10 c34 m15_41 sl41 a41_41
attribute [local go_sem] m15_42 c36 c35 m15_49 m15_50 h15 k15 t31 t32 t33 t34 t35
attribute [local go_sem] t36 n16 m16_1 c37 t37 n19 m19_0 bb23_0_1_2_3_4_5_6_7_8_9_10_11_12 n20 m20_7 m20_17 m20_18
attribute [local go_sem] h20 k20 n22 m22_10 h22 k22 n23 m23_1 m23_2 n24 m24_1 bb98_0_1
attribute [local go_sem] bb99_0_1_2_3_4_5_6_7_8_9_10_11_12 z99 m24_4 s99 c39 u99 s98 z98 g98 f98_0 f98_1 h24
attribute [local go_sem] k24 t39 n25 bb56_0 c45 bb56_0_1 bb56_0_1_2 m25_9 c46 u101 m25_58 s105
attribute [local go_sem] z105 g105 m25_11 f105_0 s103 g103 f105_1 m25_80 sl30 h25 k25 t45
attribute [local go_sem] t46 n26 m26_14 h26 k26 n27 n28 n29 m29_3 m29_6 f53_3 f51_0
attribute [local go_sem] f51_1 f53_4 f53_5 f53_6 n30 m30_1 m30_2 f56_0 f56_1 f56_2 f56_3 f54_0
attribute [local go_sem] f54_1 bb51_0_1 f56_4 f56_5 f56_6 bb53_0_1_2_3_4_5_6 n37 m37_1 c55 c56 h37 k37
attribute [local go_sem] t55 t56 n39 m39_1 m39_2 f29_0 f29_1 f29_2 f29_3 f29_4 f29_5 f29_6
attribute [local go_sem] f29_7 f29_8 f29_9 f29_10 f29_11 f29_12 bb22_0_1_2_3_4_5_6_7_8_9_10_11_12 n45 m45_2 m45_11 m45_12 h45
attribute [local go_sem] k45 n46 bb105_0_1 m46_3 m46_4 m46_5 m46_6 m46_7 m46_19 bs101_3_0_1_2 m46_24 bs101_2_0_1
attribute [local go_sem] m46_30 m46_36 n55 n56 n57 t57 c57 n58 t58 c58 n59 t59
attribute [local go_sem] c59 n60 t60 c60 n61 t61 c61

theorem or2_u8 {n : Int} (h0 : 0 ≤ n) (h1 : n < 64) : orK .u8 (n * 4) 2 = n * 4 + 2 := by
  have h : ∀ m : _root_.Fin 64, orK .u8 ((m.val : Int) * 4) 2 = (m.val : Int) * 4 + 2 := by decide
  have := h ⟨n.toNat, by omega⟩
  rwa [show ((n.toNat : Nat) : Int) = n by omega] at this
theorem or1_u8 {n : Int} (h0 : 0 ≤ n) (h1 : n < 64) : orK .u8 (n * 4) 1 = n * 4 + 1 := by
  have h : ∀ m : _root_.Fin 64, orK .u8 ((m.val : Int) * 4) 1 = (m.val : Int) * 4 + 1 := by decide
  have := h ⟨n.toNat, by omega⟩
  rwa [show ((n.toNat : Nat) : Int) = n by omega] at this

/-! A run said at once, and one by one. -/
theorem dec_short {n w : Int} (h0 : 0 ≤ n) (h1 : n < 64) (g0 : 0 ≤ w) (g1 : w < 64) : dec [n * 4 + 2, w, n * 4] [] = some (List.replicate (n.toNat + 1) (pickE w) ++ List.replicate (n.toNat + 1) tickE) := by
  have s1 : stepS (n * 4 + 2) [w, n * 4] = some (List.replicate (n.toNat + 1) (pickE w), [n * 4]) := by
    unfold stepS
    rw [if_neg (by omega), if_neg (by omega)]
    dsimp only
    rw [if_pos (by omega), show (n * 4 + 2) / 4 = n by omega, show w % 64 = w by omega]
  have s2 : stepS (n * 4) [] = some (List.replicate (n.toNat + 1) tickE, []) := by
    unfold stepS
    rw [if_pos (by omega), show n * 4 / 4 = n by omega]
  rw [dec_go [] s1, if_neg (by simp; omega), dec_go _ s2, if_neg (by simp; omega), dec_nil]
  simp
theorem dec_picks {w : Int} (g0 : 0 ≤ w) (g1 : w < 64) : ∀ (k : Nat) (r : List Int) (out : List Ent), out.length + k ≤ 20000 → dec (List.replicate k (w * 4 + 1) ++ r) out = dec r (out ++ List.replicate k (pickE w))
  | 0, r, out, h => by simp
  | k + 1, r, out, h => by
    have s1 : stepS (w * 4 + 1) (List.replicate k (w * 4 + 1) ++ r) = some ([pickE w], List.replicate k (w * 4 + 1) ++ r) := by
      unfold stepS
      rw [if_neg (by omega), if_pos (by omega), show (w * 4 + 1) / 4 = w by omega]
    rw [List.replicate_succ, List.cons_append, dec_go out s1, if_neg (by simp; omega), dec_picks g0 g1 k r _ (by simp; omega)]
    simp [List.replicate_succ]
theorem dec_ticks : ∀ (k : Nat) (out : List Ent), out.length + k ≤ 20000 → dec (List.replicate k 0) out = some (out ++ List.replicate k tickE)
  | 0, out, h => by simp [dec_nil]
  | k + 1, out, h => by
    have s1 : stepS 0 (List.replicate k 0) = some ([tickE], List.replicate k 0) := by
      unfold stepS
      rw [if_pos (by omega)]
      rfl
    rw [List.replicate_succ, dec_go out s1, if_neg (by simp; omega), dec_ticks k _ (by simp; omega)]
    simp [List.replicate_succ]
theorem dec_long {n w : Int} (h0 : 0 ≤ n) (h1 : n < 64) (g0 : 0 ≤ w) (g1 : w < 64) : dec (List.replicate (n.toNat + 1) (w * 4 + 1) ++ List.replicate (n.toNat + 1) 0) [] = some (List.replicate (n.toNat + 1) (pickE w) ++ List.replicate (n.toNat + 1) tickE) := by
  rw [dec_picks g0 g1 _ _ _ (by simp; omega), dec_ticks _ _ (by simp; omega)]
  simp

theorem OutL.isls {tail : Store} {b sz : Nat} {t : TV} {cs : List AV} {len : Nat} (h : OutL tail b sz t cs len) (hl : 0 < len) : ∃ i, tail[i]? = some (some cs) ∧ t = .ls (i + b) 0 len sz none := by
  cases h with
  | nil => omega
  | emp => omega
  | ls h1 h2 => exact ⟨_, h1, rfl⟩

theorem repeats_ok {v : AV} {bs cs : List Int} {w n : Int} (hs : Sl [] 1 v (bs.map U) bs.length) (hcl : cs.length = 13) (hw0 : 0 ≤ w) (hw1 : w < 256) (hn0 : 0 ≤ n) (hn1 : n < 256) : Ans ES 6 [.agg (cs.map I), U w, U n, v] [] (fun r _ => r = B true) := by
  obtain ⟨σ1, hs1, hs2⟩ := speaks1
  have e0 := hs.sl
  refine w6 1000 ?_
  repeat' first | with_reducible refine CondK_split (fun h => ?_) (fun h => ?_) | with_reducible refine gdK_dec (fun h => ?_) (fun h => ?_) | with_reducible refine GuardK_dec (fun h => ?_) (fun h => ?_) | with_reducible refine WP_draw ?_ | with_reducible refine WP_drw_end (by kernel_rfl) ?_ | simp (disch := first | omega | (simp only [List.length_append, List.length_cons, List.length_nil, List.length_set, List.length_map, List.length_replicate, List.length_drop, List.length_take] <;> omega) | assumption) only [go_sem, Nat.reduceBEq, Nat.reduceAdd, Nat.reduceSub, Nat.reduceMul, Nat.reduceLT, Nat.reduceLeDiff, Nat.reduceEqDiff, Int.reduceAdd, Int.reduceSub, Int.reduceMul, Int.reduceLT, Int.reduceLE, Int.reduceNeg, Int.reduceToNat, Int.reduceEq, Int.reduceNe, Nat.reducePow, Int.reducePow, Int.reduceDiv, Int.reduceMod, Tryz.f6]
  refine hs1.mono ?_
  rintro r σ' ⟨rfl, rfl⟩
  repeat' first | with_reducible refine CondK_split (fun h => ?_) (fun h => ?_) | with_reducible refine gdK_dec (fun h => ?_) (fun h => ?_) | with_reducible refine GuardK_dec (fun h => ?_) (fun h => ?_) | with_reducible refine WP_draw ?_ | with_reducible refine WP_drw_end (by kernel_rfl) ?_ | simp (disch := first | omega | (simp only [List.length_append, List.length_cons, List.length_nil, List.length_set, List.length_map, List.length_replicate, List.length_drop, List.length_take] <;> omega) | assumption) only [go_sem, Nat.reduceBEq, Nat.reduceAdd, Nat.reduceSub, Nat.reduceMul, Nat.reduceLT, Nat.reduceLeDiff, Nat.reduceEqDiff, Int.reduceAdd, Int.reduceSub, Int.reduceMul, Int.reduceLT, Int.reduceLE, Int.reduceNeg, Int.reduceToNat, Int.reduceEq, Int.reduceNe, Nat.reducePow, Int.reducePow, Int.reduceDiv, Int.reduceMod]
  refine (Right_ok cs hcl σ').mono ?_
  rintro r σ' ⟨rfl, rfl⟩
  by_cases hok : okC cs
  · by_cases h40 : 40 < bs.length
    · repeat' first | with_reducible refine CondK_split (fun h => ?_) (fun h => ?_) | with_reducible refine gdK_dec (fun h => ?_) (fun h => ?_) | with_reducible refine GuardK_dec (fun h => ?_) (fun h => ?_) | with_reducible refine WP_draw ?_ | with_reducible refine WP_drw_end (by kernel_rfl) ?_ | simp (disch := first | omega | (simp only [List.length_append, List.length_cons, List.length_nil, List.length_set, List.length_map, List.length_replicate, List.length_drop, List.length_take] <;> omega) | assumption) only [go_sem, Nat.reduceBEq, Nat.reduceAdd, Nat.reduceSub, Nat.reduceMul, Nat.reduceLT, Nat.reduceLeDiff, Nat.reduceEqDiff, Int.reduceAdd, Int.reduceSub, Int.reduceMul, Int.reduceLT, Int.reduceLE, Int.reduceNeg, Int.reduceToNat, Int.reduceEq, Int.reduceNe, Nat.reducePow, Int.reducePow, Int.reduceDiv, Int.reduceMod, hok, e0]
      exact hs2.mono fun r σ' h => by
        subst h
        repeat' first | with_reducible refine CondK_split (fun h => ?_) (fun h => ?_) | with_reducible refine gdK_dec (fun h => ?_) (fun h => ?_) | with_reducible refine GuardK_dec (fun h => ?_) (fun h => ?_) | with_reducible refine WP_draw ?_ | with_reducible refine WP_drw_end (by kernel_rfl) ?_ | simp (disch := first | omega | (simp only [List.length_append, List.length_cons, List.length_nil, List.length_set, List.length_map, List.length_replicate, List.length_drop, List.length_take] <;> omega) | assumption) only [go_sem, Nat.reduceBEq, Nat.reduceAdd, Nat.reduceSub, Nat.reduceMul, Nat.reduceLT, Nat.reduceLeDiff, Nat.reduceEqDiff, Int.reduceAdd, Int.reduceSub, Int.reduceMul, Int.reduceLT, Int.reduceLE, Int.reduceNeg, Int.reduceToNat, Int.reduceEq, Int.reduceNe, Nat.reducePow, Int.reducePow, Int.reduceDiv, Int.reduceMod]
    repeat' first | with_reducible refine CondK_split (fun h => ?_) (fun h => ?_) | with_reducible refine gdK_dec (fun h => ?_) (fun h => ?_) | with_reducible refine GuardK_dec (fun h => ?_) (fun h => ?_) | with_reducible refine WP_draw ?_ | with_reducible refine WP_drw_end (by kernel_rfl) ?_ | simp (disch := first | omega | (simp only [List.length_append, List.length_cons, List.length_nil, List.length_set, List.length_map, List.length_replicate, List.length_drop, List.length_take] <;> omega) | assumption) only [go_sem, Nat.reduceBEq, Nat.reduceAdd, Nat.reduceSub, Nat.reduceMul, Nat.reduceLT, Nat.reduceLeDiff, Nat.reduceEqDiff, Int.reduceAdd, Int.reduceSub, Int.reduceMul, Int.reduceLT, Int.reduceLE, Int.reduceNeg, Int.reduceToNat, Int.reduceEq, Int.reduceNe, Nat.reducePow, Int.reducePow, Int.reduceDiv, Int.reduceMod, hok, e0]
    refine (Encode_nil cs hcl hok σ').mono ?_
    rintro r σ2 ⟨hv, rfl, hout⟩
    have hsl := hout.sl
    have e6 := fun loc ts => hsl.rdS (loc := loc) (ts := ts)
    have hh : ((headOf cs).map U).length = 52 := by rw [List.length_map, headN_len, hcl]
    repeat' first | with_reducible refine CondK_split (fun h => ?_) (fun h => ?_) | with_reducible refine gdK_dec (fun h => ?_) (fun h => ?_) | with_reducible refine GuardK_dec (fun h => ?_) (fun h => ?_) | with_reducible refine WP_draw ?_ | with_reducible refine WP_drw_end (by kernel_rfl) ?_ | simp (disch := first | omega | (simp only [List.length_append, List.length_cons, List.length_nil, List.length_set, List.length_map, List.length_replicate, List.length_drop, List.length_take] <;> omega) | assumption) only [go_sem, Nat.reduceBEq, Nat.reduceAdd, Nat.reduceSub, Nat.reduceMul, Nat.reduceLT, Nat.reduceLeDiff, Nat.reduceEqDiff, Int.reduceAdd, Int.reduceSub, Int.reduceMul, Int.reduceLT, Int.reduceLE, Int.reduceNeg, Int.reduceToNat, Int.reduceEq, Int.reduceNe, Nat.reducePow, Int.reducePow, Int.reduceDiv, Int.reduceMod, e6, hh, appR_is, appR_ls, appL_some, u_ok, and_self, or2_u8, or1_u8]
    have a0 : 0 ≤ w % 64 := by omega
    have a1 : w % 64 < 64 := by omega
    have b0 : 0 ≤ n % 64 := by omega
    have b1 : n % 64 < 64 := by omega
    generalize w % 64 = a at a0 a1
    generalize n % 64 = b at b0 b1
    have hbn : ((b.toNat : Nat) : Int) = b := by omega
    refine WP_loop (fun j s => ∃ (k : Nat) (t : TV) (tail : Store), j = b.toNat + 1 - k ∧ k ≤ b.toNat + 1 ∧ OutL tail 2 1 t ((headOf cs).map U ++ (List.replicate k (a * 4 + 1)).map U) (52 + k) ∧
      s = h6 σ2 (none :: some ((headOf cs).map U ++ [U (b * 4 + 2), U a, U (b * 4)]) :: tail) (.v (U a)) (.v (U b)) (.ls 1 0 55 1 none) t (.v (I (b + 1))) (.v (I k)) undefT undefT) (b.toNat + 1) ?_ (by omega) ?_
    · refine ⟨0, _, [some ((headOf cs).map U)], rfl, by omega, ?_, by simp [k6]; rfl⟩
      have := OutL.ls (tail := [some ((headOf cs).map U)]) (b := 2) (sz := 1) (i := 0) (len := 52) (cs := (headOf cs).map U) rfl (by omega)
      simpa using this
    rintro j s hj ⟨k, t, tail, rfl, hk, ho, rfl⟩
    by_cases hlt : k < b.toNat + 1
    · obtain ⟨t', tail', ho', ha⟩ := ho.app (pre := [none, some ((headOf cs).map U ++ [U (b * 4 + 2), U a, U (b * 4)])]) [U (a * 4 + 1)] 1 rfl rfl (by omega)
      simp only [List.cons_append, List.nil_append] at ha
      repeat' first | with_reducible refine CondK_split (fun h => ?_) (fun h => ?_) | with_reducible refine gdK_dec (fun h => ?_) (fun h => ?_) | with_reducible refine GuardK_dec (fun h => ?_) (fun h => ?_) | with_reducible refine WP_draw ?_ | with_reducible refine WP_drw_end (by kernel_rfl) ?_ | simp (disch := first | omega | (simp only [List.length_append, List.length_cons, List.length_nil, List.length_set, List.length_map, List.length_replicate, List.length_drop, List.length_take] <;> omega) | assumption) only [go_sem, Nat.reduceBEq, Nat.reduceAdd, Nat.reduceSub, Nat.reduceMul, Nat.reduceLT, Nat.reduceLeDiff, Nat.reduceEqDiff, Int.reduceAdd, Int.reduceSub, Int.reduceMul, Int.reduceLT, Int.reduceLE, Int.reduceNeg, Int.reduceToNat, Int.reduceEq, Int.reduceNe, Nat.reducePow, Int.reducePow, Int.reduceDiv, Int.reduceMod, ha, or1_u8]
      refine ⟨b.toNat + 1 - (k + 1), by omega, k + 1, t', tail', rfl, by omega, ?_, by simp [k6]⟩
      rw [List.replicate_succ', List.map_append, ← List.append_assoc]
      exact ho'
    obtain rfl : k = b.toNat + 1 := by omega
    repeat' first | with_reducible refine CondK_split (fun h => ?_) (fun h => ?_) | with_reducible refine gdK_dec (fun h => ?_) (fun h => ?_) | with_reducible refine GuardK_dec (fun h => ?_) (fun h => ?_) | with_reducible refine WP_draw ?_ | with_reducible refine WP_drw_end (by kernel_rfl) ?_ | simp (disch := first | omega | (simp only [List.length_append, List.length_cons, List.length_nil, List.length_set, List.length_map, List.length_replicate, List.length_drop, List.length_take] <;> omega) | assumption) only [go_sem, Nat.reduceBEq, Nat.reduceAdd, Nat.reduceSub, Nat.reduceMul, Nat.reduceLT, Nat.reduceLeDiff, Nat.reduceEqDiff, Int.reduceAdd, Int.reduceSub, Int.reduceMul, Int.reduceLT, Int.reduceLE, Int.reduceNeg, Int.reduceToNat, Int.reduceEq, Int.reduceNe, Nat.reducePow, Int.reducePow, Int.reduceDiv, Int.reduceMod]
    refine WP_loop (fun j s => ∃ (k : Nat) (t : TV) (tail : Store), j = b.toNat + 1 - k ∧ k ≤ b.toNat + 1 ∧ OutL tail 2 1 t ((headOf cs).map U ++ (List.replicate (b.toNat + 1) (a * 4 + 1)).map U ++ (List.replicate k (0 : Int)).map U) (52 + (b.toNat + 1) + k) ∧
      s = h6 σ2 (none :: some ((headOf cs).map U ++ [U (b * 4 + 2), U a, U (b * 4)]) :: tail) (.v (U a)) (.v (U b)) (.ls 1 0 55 1 none) t (.v (I (b + 1))) (.v (I ((b.toNat + 1 : Nat) : Int))) (.v (I (b + 1))) (.v (I k))) (b.toNat + 1) ?_ (by omega) ?_
    · exact ⟨0, t, tail, rfl, by omega, by simpa using ho, by simp [k6]⟩
    clear ho
    rintro j s hj ⟨k, t, tail, rfl, hk, ho, rfl⟩
    by_cases hlt : k < b.toNat + 1
    · obtain ⟨t', tail', ho', ha⟩ := ho.app (pre := [none, some ((headOf cs).map U ++ [U (b * 4 + 2), U a, U (b * 4)])]) [U 0] 1 rfl rfl (by omega)
      simp only [List.cons_append, List.nil_append] at ha
      repeat' first | with_reducible refine CondK_split (fun h => ?_) (fun h => ?_) | with_reducible refine gdK_dec (fun h => ?_) (fun h => ?_) | with_reducible refine GuardK_dec (fun h => ?_) (fun h => ?_) | with_reducible refine WP_draw ?_ | with_reducible refine WP_drw_end (by kernel_rfl) ?_ | simp (disch := first | omega | (simp only [List.length_append, List.length_cons, List.length_nil, List.length_set, List.length_map, List.length_replicate, List.length_drop, List.length_take] <;> omega) | assumption) only [go_sem, Nat.reduceBEq, Nat.reduceAdd, Nat.reduceSub, Nat.reduceMul, Nat.reduceLT, Nat.reduceLeDiff, Nat.reduceEqDiff, Int.reduceAdd, Int.reduceSub, Int.reduceMul, Int.reduceLT, Int.reduceLE, Int.reduceNeg, Int.reduceToNat, Int.reduceEq, Int.reduceNe, Nat.reducePow, Int.reducePow, Int.reduceDiv, Int.reduceMod, ha]
      refine ⟨b.toNat + 1 - (k + 1), by omega, k + 1, t', tail', rfl, by omega, ?_, by simp [k6]⟩
      rw [List.replicate_succ' (n := k), List.map_append, ← List.append_assoc]
      exact ho'
    obtain rfl : k = b.toNat + 1 := by omega
    obtain ⟨i, hti, rfl⟩ := ho.isls (by omega)
    have hil : i < tail.length := by
      rcases Nat.lt_or_ge i tail.length with h | h
      · exact h
      · rw [List.getElem?_eq_none h] at hti; cases hti
    have hlh : (headOf cs).length = 52 := by rw [headN_len, hcl]
    have htk : List.take 55 ((headOf cs).map U ++ [U (b * 4 + 2), U a, U (b * 4)]) = (headOf cs ++ [b * 4 + 2, a, b * 4]).map U := by
      rw [List.take_of_length_le (by rw [List.length_append, List.length_map, hlh]; simp), List.map_append]
      rfl
    repeat' first | with_reducible refine CondK_split (fun h => ?_) (fun h => ?_) | with_reducible refine gdK_dec (fun h => ?_) (fun h => ?_) | with_reducible refine GuardK_dec (fun h => ?_) (fun h => ?_) | with_reducible refine WP_draw ?_ | with_reducible refine WP_drw_end (by kernel_rfl) ?_ | simp (disch := first | omega | (simp only [List.length_append, List.length_cons, List.length_nil, List.length_set, List.length_map, List.length_replicate, List.length_drop, List.length_take] <;> omega) | assumption) only [go_sem, Nat.reduceBEq, Nat.reduceAdd, Nat.reduceSub, Nat.reduceMul, Nat.reduceLT, Nat.reduceLeDiff, Nat.reduceEqDiff, Int.reduceAdd, Int.reduceSub, Int.reduceMul, Int.reduceLT, Int.reduceLE, Int.reduceNeg, Int.reduceToNat, Int.reduceEq, Int.reduceNe, Nat.reducePow, Int.reducePow, Int.reduceDiv, Int.reduceMod, htk]
    have hl1 : (headOf cs ++ [b * 4 + 2, a, b * 4]).length = 55 := by rw [List.length_append, hlh]; rfl
    have hB1 : Byt (headOf cs ++ [b * 4 + 2, a, b * 4]) := Byt_app (headOf_byt cs) (by
      rw [Byt_iff]
      intro x hx
      simp at hx
      omega)
    have hd1 := dec_short b0 b1 a0 a1
    have hd2 := dec_long b0 b1 a0 a1
    refine (IDecode_ok (bs := headOf cs ++ [b * 4 + 2, a, b * 4]) (by rw [hl1]; exact .imm (by rw [List.length_map, hl1])) hB1 (by omega)).mono ?_
    rintro r _ ⟨⟨ga, rfl⟩, hr⟩
    rw [decode_head hcl hok, hd1] at hr
    obtain ⟨w1, rfl, hw1⟩ := hr
    have hc3 : (headOf cs).map U ++ (List.replicate (b.toNat + 1) (a * 4 + 1)).map U ++ (List.replicate (b.toNat + 1) (0 : Int)).map U = (headOf cs ++ (List.replicate (b.toNat + 1) (a * 4 + 1) ++ List.replicate (b.toNat + 1) 0)).map U := by
      rw [List.map_append, List.map_append, List.append_assoc]
    have hl2 : (headOf cs ++ (List.replicate (b.toNat + 1) (a * 4 + 1) ++ List.replicate (b.toNat + 1) (0 : Int))).length = 52 + (b.toNat + 1) + (b.toNat + 1) := by
      rw [List.length_append, List.length_append, hlh, List.length_replicate, List.length_replicate]
      omega
    rw [hc3] at hti ho
    have htk2 : List.take (52 + (b.toNat + 1) + (b.toNat + 1)) ((headOf cs ++ (List.replicate (b.toNat + 1) (a * 4 + 1) ++ List.replicate (b.toNat + 1) (0 : Int))).map U) = (headOf cs ++ (List.replicate (b.toNat + 1) (a * 4 + 1) ++ List.replicate (b.toNat + 1) 0)).map U :=
      List.take_of_length_le (by rw [List.length_map, hl2]; omega)
    have hB2 : Byt (headOf cs ++ (List.replicate (b.toNat + 1) (a * 4 + 1) ++ List.replicate (b.toNat + 1) (0 : Int))) := Byt_app (headOf_byt cs) (by
      rw [Byt_iff]
      intro x hx
      rcases List.mem_append.1 hx with h | h
      · rw [List.eq_of_mem_replicate h]; omega
      · rw [List.eq_of_mem_replicate h]; omega)
    repeat' first | with_reducible refine CondK_split (fun h => ?_) (fun h => ?_) | with_reducible refine gdK_dec (fun h => ?_) (fun h => ?_) | with_reducible refine GuardK_dec (fun h => ?_) (fun h => ?_) | with_reducible refine WP_draw ?_ | with_reducible refine WP_drw_end (by kernel_rfl) ?_ | simp (disch := first | omega | (simp only [List.length_append, List.length_cons, List.length_nil, List.length_set, List.length_map, List.length_replicate, List.length_drop, List.length_take] <;> omega) | assumption) only [go_sem, Nat.reduceBEq, Nat.reduceAdd, Nat.reduceSub, Nat.reduceMul, Nat.reduceLT, Nat.reduceLeDiff, Nat.reduceEqDiff, Int.reduceAdd, Int.reduceSub, Int.reduceMul, Int.reduceLT, Int.reduceLE, Int.reduceNeg, Int.reduceToNat, Int.reduceEq, Int.reduceNe, Nat.reducePow, Int.reducePow, Int.reduceDiv, Int.reduceMod, hcl, hti, htk2]
    refine (IDecode_ok (bs := headOf cs ++ (List.replicate (b.toNat + 1) (a * 4 + 1) ++ List.replicate (b.toNat + 1) (0 : Int))) (by rw [hl2]; exact .imm (by rw [List.length_map, hl2]; omega)) hB2 (by omega)).mono ?_
    rintro r _ ⟨⟨gb, rfl⟩, hr⟩
    rw [decode_head hcl hok, hd2] at hr
    obtain ⟨w2, rfl, hw2⟩ := hr
    generalize hes : List.replicate (b.toNat + 1) (pickE a) ++ List.replicate (b.toNat + 1) tickE = es at hw1 hw2
    have hel : es.length = 2 * b.toNat + 2 := by rw [← hes, List.length_append, List.length_replicate, List.length_replicate]; omega
    have hE : E8 es := by
      intro e he
      rw [← hes] at he
      rcases List.mem_append.1 he with h | h
      · rw [List.eq_of_mem_replicate h]; rfl
      · rw [List.eq_of_mem_replicate h]; rfl
    have hw3 := hw1.more gb
    have s3' := hw3.sl
    obtain ⟨r1, σr, ho1, rfl, hw6⟩ := tos_ok hw3 hE (by omega)
    obtain ⟨r2, σr, ho4, rfl, hw7⟩ := tos_ok hw2 hE (by omega)
    have ho2 := Same_ok hw6 hw7 hE (by omega)
    repeat' first | with_reducible refine CondK_split (fun h => ?_) (fun h => ?_) | with_reducible refine gdK_dec (fun h => ?_) (fun h => ?_) | with_reducible refine GuardK_dec (fun h => ?_) (fun h => ?_) | with_reducible refine WP_draw ?_ | with_reducible refine WP_drw_end (by kernel_rfl) ?_ | simp (disch := first | omega | (simp only [List.length_append, List.length_cons, List.length_nil, List.length_set, List.length_map, List.length_replicate, List.length_drop, List.length_take] <;> omega) | assumption) only [go_sem, Nat.reduceBEq, Nat.reduceAdd, Nat.reduceSub, Nat.reduceMul, Nat.reduceLT, Nat.reduceLeDiff, Nat.reduceEqDiff, Int.reduceAdd, Int.reduceSub, Int.reduceMul, Int.reduceLT, Int.reduceLE, Int.reduceNeg, Int.reduceToNat, Int.reduceEq, Int.reduceNe, Nat.reducePow, Int.reducePow, Int.reduceDiv, Int.reduceMod, hcl, s3', Ans_of_run ho1, Ans_of_run ho4, ho2.eq, hel]
    done
  · repeat' first | with_reducible refine CondK_split (fun h => ?_) (fun h => ?_) | with_reducible refine gdK_dec (fun h => ?_) (fun h => ?_) | with_reducible refine GuardK_dec (fun h => ?_) (fun h => ?_) | with_reducible refine WP_draw ?_ | with_reducible refine WP_drw_end (by kernel_rfl) ?_ | simp (disch := first | omega | (simp only [List.length_append, List.length_cons, List.length_nil, List.length_set, List.length_map, List.length_replicate, List.length_drop, List.length_take] <;> omega) | assumption) only [go_sem, Nat.reduceBEq, Nat.reduceAdd, Nat.reduceSub, Nat.reduceMul, Nat.reduceLT, Nat.reduceLeDiff, Nat.reduceEqDiff, Int.reduceAdd, Int.reduceSub, Int.reduceMul, Int.reduceLT, Int.reduceLE, Int.reduceNeg, Int.reduceToNat, Int.reduceEq, Int.reduceNe, Nat.reducePow, Int.reducePow, Int.reduceDiv, Int.reduceMod, hok]
    exact hs2.mono fun r σ' h => by
      subst h
      repeat' first | with_reducible refine CondK_split (fun h => ?_) (fun h => ?_) | with_reducible refine gdK_dec (fun h => ?_) (fun h => ?_) | with_reducible refine GuardK_dec (fun h => ?_) (fun h => ?_) | with_reducible refine WP_draw ?_ | with_reducible refine WP_drw_end (by kernel_rfl) ?_ | simp (disch := first | omega | (simp only [List.length_append, List.length_cons, List.length_nil, List.length_set, List.length_map, List.length_replicate, List.length_drop, List.length_take] <;> omega) | assumption) only [go_sem, Nat.reduceBEq, Nat.reduceAdd, Nat.reduceSub, Nat.reduceMul, Nat.reduceLT, Nat.reduceLeDiff, Nat.reduceEqDiff, Int.reduceAdd, Int.reduceSub, Int.reduceMul, Int.reduceLT, Int.reduceLE, Int.reduceNeg, Int.reduceToNat, Int.reduceEq, Int.reduceNe, Nat.reducePow, Int.reducePow, Int.reduceDiv, Int.reduceMod]
end Go.Abs
