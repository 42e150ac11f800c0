/- An abstract reading of the program, and what it answers. By an AI agent. -/
import Derived.Test.YtkbgehhnimpleaaGreatDoorS9
set_option linter.all false
set_option maxRecDepth 10000
set_option maxHeartbeats 20000000
namespace Go.Abs
open Go.Proofs Go.Script
attribute [local go_sem] WP_nil WP_seq WP_skip WP_ret WP_exit WP_label WP_scope WP_code_ret WP_code_exit WP_blk_normal WP_blk_ret WP_blk_ex
attribute [local go_sem] blkK_t blkK_f WP_lp_ret WP_lp_exit WP_block WP_cond CondK_t CondK_f CondK_dt CondK_df WP_region WP_ops_nil
attribute [local go_sem] WP_op WP_guard GuardK_t GuardK_f arK_val arK_skip arK_call After_eq AfterD_eq dvK_some LoopQ_normal LoopQ_ret
attribute [local go_sem] LoopQ_exit Fin_normal Fin_ret FinK_some Is_self put_some put_none opd_tmp opd_const opd_func ofV_int ofV_bool
attribute [local go_sem] ofV_str ofV_nilp ofV_nils ofV_nilf ofV_agg ofV_tup avOf_v avOf_lp avOf_ls tg0 tg1 tg2
attribute [local go_sem] tg3 tg4 tg5 tg6 tg7 tg8 ts0 ts1 ts2 ts3 ts4 ts5
attribute [local go_sem] ts6 ts7 ts8 aop_move aop_assign aop_pick pickB_t pickB_f pickB_dt pickB_df aop_alloc aop_box
attribute [local go_sem] aop_build aop_buildSlice aop_load aop_store storeR_some aop_nilCheck aop_binOp aop_unOp aop_convert aop_makeFunc aop_slice aop_fieldAddr
attribute [local go_sem] aop_field aop_indexAddr aop_index aop_extract aop_makeSlice aop_builtin aop_call callR_fn mkP_glob mkP_dt mkP_df mkP_loc
attribute [local go_sem] mkS_glob mkS_dflt mkS_loc mkA_glob mkA_dflt mkA_loc cellAt_some rangeAt_some cellAt_none cellAt_dead rangeAt_none rangeAt_dead
attribute [local go_sem] ld_ip ld_gp ld_lp ldV_f ldV_t spliceAt_some wr_gp wr_lp bin_add bin_sub bin_mul bin_quo
attribute [local go_sem] bin_rem bin_andK bin_orK bin_xorK bin_andNotK bin_shl bin_shr bin_eql bin_neq bin_lss bin_leq bin_gtr
attribute [local go_sem] bin_geq aun_not aun_neg not_decide' acvt intOpd avOpd optIdx frzO frzL frzT_v frzT_lp
attribute [local go_sem] frzT_ls frzL1_some frzL2_some freeze_mk sub_v sub_top sub_undef sub_lp sub_ls frzS_σ awanted ares
attribute [local go_sem] aresL acall abuiltin alen slen_nil slen_is slen_gs slen_ls aindex_eq ixU_s ixU_a ixE_some
attribute [local go_sem] ixA_some ixS_is ixS_gs ixS_ls aindexV_agg axU_a axE_some bsz List.size_toArray all_I all_U apart
attribute [local go_sem] aslice_eq slU_s slE_some addP_ip addP_gp addP_lp rdS_nil rdS_is rdS_gs rdS_ls sure aextract
attribute [local go_sem] wrap_i64 wrap_u8 wrap_u64 List.map_cons List.map_nil List.length_cons List.length_nil List.cons_append List.nil_append List.append_nil Option.map_some Option.map_none
attribute [local go_sem] Option.bind_some Option.bind_none mapM_c mapM_n if_true if_false decide_true decide_false Bool.false_eq_true Bool.true_eq_false Bool.not_true Bool.not_false
attribute [local go_sem] ES_P WP_drw_n WP_drw_g gdK_t gdK_f gdK_dt gdK_df GuardK_dt GuardK_df DT_move DT_assign DT_pick
attribute [local go_sem] DT_build DT_nilCheck DT_binOp DT_unOp DT_convert DT_makeFunc DT_slice DT_fieldAddr DT_field DT_indexAddr DT_index DT_extract
attribute [local go_sem] DT_len DT_load DT_boxK boxK_d DT_bslK bslK_d DT_alcK alcK_d DT_stK stK_v stS_some DT_apK
attribute [local go_sem] apK_some apS_some DT_makeSlice DT_call qK_some ldK_some frK_some alK_some arD_val arD_skip arD_call dcK_some
attribute [local go_sem] dcK_none acq_fn acq_none prefrz frzAll lkT_v lkT_lp beq_t beq_f bits_i64 bits_u64 bits_u8
attribute [local go_sem] fdiv_pos tdiv_pos tmod_pos toNat_add' orK_low andK3_u8 andK63 Nat.min_eq_left Nat.min_eq_right aappend_eq appE_some appS_some
attribute [local go_sem] get_app_l get_app_r set_app_l set_app_r Nat.sub_self window_all win_z win_s win_o ite_t ite_f splice_eq
attribute [local go_sem] spliceC_one spliceC_all List.all_cons List.all_nil ok_int ok_bool ok_str ok_nilf ok_nilp ok_nils ok_fn ok_ip
attribute [local go_sem] ok_is ok_gp ok_gs co_int co_bool co_str co_nilf co_nilp co_nils co_agg co_fn co_ip
attribute [local go_sem] co_is co_gp co_gs vs0 vs1 ss0 ss1 some_eq List.zip_cons_cons List.zip_nil_left List.zip_nil_right afill
attribute [local go_sem] List.take_succ_cons List.take_zero List.take_nil List.drop_succ_cons List.drop_zero List.drop_nil eq_self I U B nilS arr_get
attribute [local go_sem] List.getElem?_toArray og0 og1 vg0 vg1 vgn sg0 sg1 sgn List.getElem?_drop List.getElem?_map getq
attribute [local go_sem] Option.isNone_none Option.isNone_some Bool.and_true Bool.true_and Bool.and_self Nat.add_zero Nat.zero_add Nat.mul_one Int.toNat_natCast bodyOf Option.getD_some n3
attribute [local go_sem] t3 c3 m3_3 c8 u24 m3_19 s23 g23 c9 u3 a24_24 m3_35
attribute [local go_sem] c10 z29 m3_9 s29 c11 z23 m3_12 g29 c12 q29 hh29 s3
attribute [local go_sem] g3 c14 c13 t8 t9 t10 t11 t12 t13 t14 n4 t4
attribute [local go_sem] c4 m4_15 m4_3 c15 m4_8 u31 u41 m4_48 u30 m4_53 bb29_ t15
attribute [local go_sem] n5 t5 c5 m5_3 m5_20 c16 m5_36 m5_10 u45 m5_50 s5 z5
attribute [local go_sem] g5 m5_13 m5_73 m5_75 m5_83 s56 z56 g56 t16 n6 t6 c6
attribute [local go_sem] m6_4 m6_30 m6_43 bs24_0_ m6_45 m6_52 bs24_3_0_1_2 m6_53 m6_54 m6_56 u5 m6_66
attribute [local go_sem] sl24 m6_67 m6_75 m6_76 m6_15 m6_18 m6_98 h6 k6 n8 c19 m8_12
attribute [local go_sem] m8_13 m8_21 s9 z9 g9 u9 t19 n9 m9_2 u34 m9_15 m9_17
attribute [local go_sem] u23 z3 c20 m9_27 m9_30 s53 z53 g53 c21 m9_46 h9 k9
attribute [local go_sem] t20 t21 n10 m10_2 m10_15 z22 m10_5 c22 u22 s22 g22 c23
attribute [local go_sem] m10_7 c24 m10_42 c25 m10_55 m10_57 a30_30 m10_64 h10 k10 t22 t23
attribute [local go_sem] t24 t25 n11 m11_2 bb23_ m11_5 m11_23 m11_6 c26 m11_44 bs34_0_ m11_47
attribute [local go_sem] bb53_0 m11_12 bb53_0_1 bb53_0_1_2 c27 m11_96 c28 c29 m11_134 sl34 a34_34 m11_135
attribute [local go_sem] m11_137 h11 k11 t26 t27 t28 t29 n12 m12_1 m12_2 bb29_0_1_2_3_4_5_6_7_8_9_10_11_12 n13
attribute [local go_sem] m13_7 m13_9 m13_13 q53 hh53 q51 hh51 s51 g51 h13 k13 n14
attribute [local go_sem] m14_6 m14_8 m14_5 c30 m14_16 m14_17 h14 k14 t30 n15 m15_4 c31
attribute [local go_sem] c32 c33 u82 m15_33 s85 z85 g85 m15_10 c34 m15_41 sl41 a41_41
attribute [local go_sem] m15_42 c36 c35 m15_49 m15_50 h15 k15 t31 t32 t33 t34 t35
attribute [local go_sem] t36 n16 m16_1 c37 t37 n19 m19_0 bb23_0_1_2_3_4_5_6_7_8_9_10_11_12 n20 m20_7 m20_17 m20_18
attribute [local go_sem] h20 k20 n22 m22_10 h22 k22 n23 m23_1 m23_2 n24 m24_1 bb98_0_1
attribute [local go_sem] bb99_0_1_2_3_4_5_6_7_8_9_10_11_12 z99 m24_4 s99 c39 u99 s98 z98 g98 f98_0 f98_1 h24
attribute [local go_sem] k24 t39 n25 bb56_0 c45 bb56_0_1 bb56_0_1_2 m25_9 c46 u101 m25_58 s105
attribute [local go_sem] z105 g105 m25_11 f105_0 s103 g103 f105_1 m25_80 sl30 h25 k25 t45
attribute [local go_sem] t46 n26 m26_14 h26 k26 n27 n28 n29 m29_3 m29_6 f53_3 f51_0
attribute [local go_sem] f51_1 f53_4 f53_5 f53_6 n30 m30_1 m30_2 f56_0 f56_1 f56_2 f56_3 f54_0
attribute [local go_sem] f54_1 bb51_0_1 f56_4 f56_5 f56_6 bb53_0_1_2_3_4_5_6 n37 m37_1 c55 c56 h37 k37
attribute [local go_sem] t55 t56 n39 m39_1 m39_2 f29_0 f29_1 f29_2 f29_3 f29_4 f29_5 f29_6
attribute [local go_sem] f29_7 f29_8 f29_9 f29_10 f29_11 f29_12 bb22_0_1_2_3_4_5_6_7_8_9_10_11_12 n45 m45_2 m45_11 m45_12 h45
attribute [local go_sem] k45 n46 bb105_0_1 m46_3 m46_4 m46_5 m46_6 m46_7 m46_19 bs101_3_0_1_2 m46_24 bs101_2_0_1
attribute [local go_sem] m46_30 m46_36 n55 n56 n57 t57 c57 n58 t58 c58 n59 t59
attribute [local go_sem] c59 n60 t60 c60 n61 t61 c61

theorem set_110 (a b c d e f g h n : Int) (σ : Store) : Ans ES 29 [.agg [I a, I b, I c, I d, I e, I f, I g, I h], U 110, I n] σ (Is (.agg [I a, I b, I c, I n, I e, I f, I g, I h]) σ) := set_ok a b c d e f g h 110 n σ
theorem set_103 (a b c d e f g h n : Int) (σ : Store) : Ans ES 29 [.agg [I a, I b, I c, I d, I e, I f, I g, I h], U 103, I n] σ (Is (.agg [I a, I b, I c, I d, I n, I f, I g, I h]) σ) := set_ok a b c d e f g h 103 n σ
theorem set_116 (a b c d e f g h n : Int) (σ : Store) : Ans ES 29 [.agg [I a, I b, I c, I d, I e, I f, I g, I h], U 116, I n] σ (Is (.agg [I a, I b, I c, I d, I e, I n, I g, I h]) σ) := set_ok a b c d e f g h 116 n σ
theorem set_97 (a b c d e f g h n : Int) (σ : Store) : Ans ES 29 [.agg [I a, I b, I c, I d, I e, I f, I g, I h], U 97, I n] σ (Is (.agg [I a, I b, I c, I d, I e, I f, I n, I h]) σ) := set_ok a b c d e f g h 97 n σ
theorem set_117 (a b c d e f g h n : Int) (σ : Store) : Ans ES 29 [.agg [I a, I b, I c, I d, I e, I f, I g, I h], U 117, I n] σ (Is (.agg [I a, I b, I c, I d, I e, I f, I g, I n]) σ) := set_ok a b c d e f g h 117 n σ

theorem times_ok {k : List Item} {Q : AExit → St → Prop} {st : St} {σ : Store} {A Bq C : Option (List AV)} {tail : Store} {x0 x2 x5 x6 x7 t x9 x16 x17 x18 : TV} {e cs : List AV} {len m ei : Nat} (he : e.length = 8) (hall : e.all cellOk = true) (hm : m ≤ 100)
    (hst : forget ES 11 st = h11 σ (A :: Bq :: C :: tail) x0 x2 x5 x6 x7 t x9 (.lp (ei + 3) 0) (.v (I m)) x16 x17 x18 (.v (I 0))) (hE : tail[ei]? = some (some e)) (ho : OutL tail 3 8 t cs len) (hN : OutN t 3 ei) (hlen : len ≤ 30000)
    (hk : ∀ t' tail' a b c, OutL tail' 3 8 t' (cs ++ rep e m) (len + m) → tail'[ei]? = some (some e) →
      WP ES 11 200000 k (.exit 6) ⟨σ, A :: Bq :: C :: tail', (((h11 σ [] x0 x2 x5 x6 x7 t' x9 (.lp (ei + 3) 0) (.v (I m)) x16 x17 x18 (.v (I m))).tmps.set 127 a).set 128 b).set 129 c⟩ Q) :
    WP ES 11 200000 (.code (.loop (loopAt Tryz.f11 3)) :: k) .normal st Q := by
  have hc : loopAt Tryz.f11 3 = loopAt Tryz.f11 3 := rfl
  refine WP_loop (fun j s => ∃ (i : Nat) (t' : TV) (tail' : Store), j = m - i ∧ i ≤ m ∧ OutL tail' 3 8 t' (cs ++ rep e i) (len + i) ∧ tail'[ei]? = some (some e) ∧ OutN t' 3 ei ∧ s = h11 σ (A :: Bq :: C :: tail') x0 x2 x5 x6 x7 t' x9 (.lp (ei + 3) 0) (.v (I m)) x16 x17 x18 (.v (I i))) m ?_ (by omega) ?_
  · exact ⟨0, t, tail, rfl, by omega, by simpa [rep] using ho, hE, hN, hst⟩
  rintro j s hj ⟨i, t', tail', rfl, hi, ho', hE', hN', rfl⟩
  by_cases him : i < m
  · have hap : ∃ u tail2, OutL tail2 3 8 u ((cs ++ rep e i) ++ e) (len + i + 1) ∧ (∀ σ ts, appR .dflt ⟨σ, A :: Bq :: C :: tail', ts⟩ 8 t' e 1 = some (u, ⟨σ, A :: Bq :: C :: tail2, ts⟩)) ∧ tail2[ei]? = some (some e) ∧ OutN u 3 ei :=
      OutL.app' (pre := [A, Bq, C]) ho' e 1 (by omega) hall (by omega) ei e hE' hN'
    obtain ⟨x2', tail2, ho2, ha, hE2, hN2⟩ := hap
    repeat' first | with_reducible refine CondK_split (fun h => ?_) (fun h => ?_) | with_reducible refine gdK_dec (fun h => ?_) (fun h => ?_) | with_reducible refine GuardK_dec (fun h => ?_) (fun h => ?_) | with_reducible refine WP_draw ?_ | with_reducible refine WP_drw_end (by kernel_rfl) ?_ | simp (disch := first | omega | (simp only [List.length_append, List.length_cons, List.length_nil, List.length_set, List.length_map, List.length_replicate, List.length_drop, List.length_take] <;> omega) | assumption) only [go_sem, Nat.reduceBEq, Nat.reduceAdd, Nat.reduceSub, Nat.reduceMul, Nat.reduceLT, Nat.reduceLeDiff, Nat.reduceEqDiff, Int.reduceAdd, Int.reduceSub, Int.reduceMul, Int.reduceLT, Int.reduceLE, Int.reduceNeg, Int.reduceToNat, Int.reduceEq, Int.reduceNe, Nat.reducePow, Int.reducePow, Int.reduceDiv, Int.reduceMod, Tryz.f11, loopAt, loopsOf, List.getD_cons_succ, List.getD_cons_zero, hE', ha, he]
    refine ⟨m - (i + 1), by omega, i + 1, x2', tail2, rfl, by omega, ?_, hE2, hN2, by simp⟩
    simpa [rep, List.append_assoc, Nat.add_assoc] using ho2
  · obtain rfl : i = m := by omega
    have := hk t' tail' (.v (I i)) (.v (I i)) (.v (B (decide ((i : Int) < i)))) ho' hE'
    simp only [h11, ts8, ts0, ts1, ts2, ts3, ts4, ts5, ts6, ts7] at this
    repeat' first | with_reducible refine CondK_split (fun h => ?_) (fun h => ?_) | with_reducible refine gdK_dec (fun h => ?_) (fun h => ?_) | with_reducible refine GuardK_dec (fun h => ?_) (fun h => ?_) | with_reducible refine WP_draw ?_ | with_reducible refine WP_drw_end (by kernel_rfl) ?_ | simp (disch := first | omega | (simp only [List.length_append, List.length_cons, List.length_nil, List.length_set, List.length_map, List.length_replicate, List.length_drop, List.length_take] <;> omega) | assumption) only [go_sem, Nat.reduceBEq, Nat.reduceAdd, Nat.reduceSub, Nat.reduceMul, Nat.reduceLT, Nat.reduceLeDiff, Nat.reduceEqDiff, Int.reduceAdd, Int.reduceSub, Int.reduceMul, Int.reduceLT, Int.reduceLE, Int.reduceNeg, Int.reduceToNat, Int.reduceEq, Int.reduceNe, Nat.reducePow, Int.reducePow, Int.reduceDiv, Int.reduceMod, Tryz.f11, loopAt, loopsOf, List.getD_cons_succ, List.getD_cons_zero]
    exact this

theorem OutL.fresh {tail : Store} {b sz : Nat} {t : TV} {cs : List AV} {len : Nat} (h : OutL tail b sz t cs len) : OutN t b tail.length := by
  intro i l s c he
  cases h with
  | nil => cases he
  | emp => cases he
  | @ls i' len' cs' h1 h2 =>
    simp only [TV.ls.injEq] at he
    rcases Nat.lt_or_ge i' tail.length with h | h
    · omega
    · rw [List.getElem?_eq_none h] at h1; cases h1
def none13 : List AV := [I 0, I 0, I 0, I 0, I 0, I 0, I 0, I 0, I 0, I 0, I 0, I 0, I 0]

theorem RDecode_ok {σ : Store} {v : AV} {bs : List Int} (hs : Sl σ 1 v (bs.map U) bs.length) (hb : Byt bs) (hl : bs.length < 100000) : Ans ES 11 [v] σ (DecR σ (decode bs)) := by
  have e1 := hs.sl
  refine w11 200000 ?_
  by_cases hlen : bs.length < 52
  · have hd : decode bs = .err 9 := by unfold decode; rw [if_pos hlen]
    rw [hd]
    repeat' first | with_reducible refine CondK_split (fun h => ?_) (fun h => ?_) | with_reducible refine gdK_dec (fun h => ?_) (fun h => ?_) | with_reducible refine GuardK_dec (fun h => ?_) (fun h => ?_) | with_reducible refine WP_draw ?_ | with_reducible refine WP_drw_end (by kernel_rfl) ?_ | simp (disch := first | omega | (simp only [List.length_append, List.length_cons, List.length_nil, List.length_set, List.length_map, List.length_replicate, List.length_drop, List.length_take] <;> omega) | assumption) only [go_sem, Nat.reduceBEq, Nat.reduceAdd, Nat.reduceSub, Nat.reduceMul, Nat.reduceLT, Nat.reduceLeDiff, Nat.reduceEqDiff, Int.reduceAdd, Int.reduceSub, Int.reduceMul, Int.reduceLT, Int.reduceLE, Int.reduceNeg, Int.reduceToNat, Int.reduceEq, Int.reduceNe, Nat.reducePow, Int.reducePow, Int.reduceDiv, Int.reduceMod, Tryz.f11, e1]
    exact ⟨⟨[], by simp⟩, rfl⟩
  repeat' first | with_reducible refine CondK_split (fun h => ?_) (fun h => ?_) | with_reducible refine gdK_dec (fun h => ?_) (fun h => ?_) | with_reducible refine GuardK_dec (fun h => ?_) (fun h => ?_) | with_reducible refine WP_draw ?_ | with_reducible refine WP_drw_end (by kernel_rfl) ?_ | simp (disch := first | omega | (simp only [List.length_append, List.length_cons, List.length_nil, List.length_set, List.length_map, List.length_replicate, List.length_drop, List.length_take] <;> omega) | assumption) only [go_sem, Nat.reduceBEq, Nat.reduceAdd, Nat.reduceSub, Nat.reduceMul, Nat.reduceLT, Nat.reduceLeDiff, Nat.reduceEqDiff, Int.reduceAdd, Int.reduceSub, Int.reduceMul, Int.reduceLT, Int.reduceLE, Int.reduceNeg, Int.reduceToNat, Int.reduceEq, Int.reduceNe, Nat.reducePow, Int.reducePow, Int.reduceDiv, Int.reduceMod, Tryz.f11, e1]
  refine WP_loop (fun j s => ∃ (i : Nat), j = 13 - i ∧ i ≤ 13 ∧
    s = h11 σ [some none13, some none13, some ((cfgL bs i).map I)] (.v v) (.lp 0 0) (.lp 1 0) (.lp 2 0) (.v (I i)) undefT undefT undefT undefT undefT undefT undefT undefT) 13 ?_ (by omega) ?_
  · refine ⟨0, rfl, by omega, ?_⟩
    rw [cfgL_zero]
    simp [k11, h11, I, none13]
  rintro j s hj ⟨i, rfl, hi, rfl⟩
  have hc1 := cfgL_len bs i
  by_cases hi13 : i < 13
  · have en := number_4 hs hb (4 * (i : Int)) (by omega) (by omega) (by omega)
    rw [show (4 * (i : Int)).toNat = 4 * i by omega] at en
    repeat' first | with_reducible refine CondK_split (fun h => ?_) (fun h => ?_) | with_reducible refine gdK_dec (fun h => ?_) (fun h => ?_) | with_reducible refine GuardK_dec (fun h => ?_) (fun h => ?_) | with_reducible refine WP_draw ?_ | with_reducible refine WP_drw_end (by kernel_rfl) ?_ | simp (disch := first | omega | (simp only [List.length_append, List.length_cons, List.length_nil, List.length_set, List.length_map, List.length_replicate, List.length_drop, List.length_take] <;> omega) | assumption) only [go_sem, Nat.reduceBEq, Nat.reduceAdd, Nat.reduceSub, Nat.reduceMul, Nat.reduceLT, Nat.reduceLeDiff, Nat.reduceEqDiff, Int.reduceAdd, Int.reduceSub, Int.reduceMul, Int.reduceLT, Int.reduceLE, Int.reduceNeg, Int.reduceToNat, Int.reduceEq, Int.reduceNe, Nat.reducePow, Int.reducePow, Int.reduceDiv, Int.reduceMod, en.eq]
    refine ⟨13 - (i + 1), by omega, i + 1, rfl, by omega, ?_⟩
    have hset := cfgL_set bs i hi13
    simp only [numAt] at hset
    simp [hset]
  obtain rfl : i = 13 := by omega
  have hc2 : (cfgL bs 13).length = 13 := cfgL_len bs 13
  repeat' first | with_reducible refine CondK_split (fun h => ?_) (fun h => ?_) | with_reducible refine gdK_dec (fun h => ?_) (fun h => ?_) | with_reducible refine GuardK_dec (fun h => ?_) (fun h => ?_) | with_reducible refine WP_draw ?_ | with_reducible refine WP_drw_end (by kernel_rfl) ?_ | simp (disch := first | omega | (simp only [List.length_append, List.length_cons, List.length_nil, List.length_set, List.length_map, List.length_replicate, List.length_drop, List.length_take] <;> omega) | assumption) only [go_sem, Nat.reduceBEq, Nat.reduceAdd, Nat.reduceSub, Nat.reduceMul, Nat.reduceLT, Nat.reduceLeDiff, Nat.reduceEqDiff, Int.reduceAdd, Int.reduceSub, Int.reduceMul, Int.reduceLT, Int.reduceLE, Int.reduceNeg, Int.reduceToNat, Int.reduceEq, Int.reduceNe, Nat.reducePow, Int.reducePow, Int.reduceDiv, Int.reduceMod, (Right_ok (cfgL bs 13) hc2 _).eq]
  · have hd : decode bs = .err 7 := by
      unfold decode
      rw [if_neg hlen]
      exact if_neg h
    rw [hd]
    repeat' first | with_reducible refine CondK_split (fun h => ?_) (fun h => ?_) | with_reducible refine gdK_dec (fun h => ?_) (fun h => ?_) | with_reducible refine GuardK_dec (fun h => ?_) (fun h => ?_) | with_reducible refine WP_draw ?_ | with_reducible refine WP_drw_end (by kernel_rfl) ?_ | simp (disch := first | omega | (simp only [List.length_append, List.length_cons, List.length_nil, List.length_set, List.length_map, List.length_replicate, List.length_drop, List.length_take] <;> omega) | assumption) only [go_sem, Nat.reduceBEq, Nat.reduceAdd, Nat.reduceSub, Nat.reduceMul, Nat.reduceLT, Nat.reduceLeDiff, Nat.reduceEqDiff, Int.reduceAdd, Int.reduceSub, Int.reduceMul, Int.reduceLT, Int.reduceLE, Int.reduceNeg, Int.reduceToNat, Int.reduceEq, Int.reduceNe, Nat.reducePow, Int.reducePow, Int.reduceDiv, Int.reduceMod, none13]
    exact ⟨⟨[], by simp⟩, rfl⟩
  have hok : okC (cfgL bs 13) := Decidable.not_not.1 h
  have hd : decode bs = match dec (bs.drop 52) [] with
    | none => .err 3
    | some es => .ok (cfgOf bs) es := by
    unfold decode
    rw [if_neg hlen]
    exact if_pos hok
  rw [hd]
  refine WP_loop (fun j s => ∃ (a : Nat) (es : List Ent) (t : TV) (tail : Store) (x12 x13 x16 x17 x18 x20 : TV), j = bs.length - a ∧ 52 ≤ a ∧ a ≤ bs.length ∧ OutL tail 3 8 t (ents es) es.length ∧ es.length ≤ 20000 ∧
    dec (bs.drop a) es = dec (bs.drop 52) [] ∧ s = h11 σ (some none13 :: some none13 :: some ((cfgL bs 13).map I) :: tail) (.v v) (.lp 0 0) (.lp 1 0) (.lp 2 0) (.v (I 13)) t (.v (I a)) x12 x13 x16 x17 x18 x20) (bs.length - 52) ?_ (by omega) ?_
  · exact ⟨52, [], _, [], undefT, undefT, undefT, undefT, undefT, undefT, rfl, by omega, by omega, .emp, by simp, rfl, by simp [k11, h11]⟩
  rintro j s hj ⟨a, es, t, tail, x12, x13, x16, x17, x18, x20, rfl, ha1, ha2, ho, hes, hdec, rfl⟩
  have hf := fun a b c => ho.frz (pre := [a, b, c])
  simp only [List.cons_append, List.nil_append] at hf
  by_cases hae : a = bs.length
  · have hnil : bs.drop a = [] := by rw [hae]; exact List.drop_length
    rw [hnil, dec_nil] at hdec
    rw [← hdec]
    repeat' first | with_reducible refine CondK_split (fun h => ?_) (fun h => ?_) | with_reducible refine gdK_dec (fun h => ?_) (fun h => ?_) | with_reducible refine GuardK_dec (fun h => ?_) (fun h => ?_) | with_reducible refine WP_draw ?_ | with_reducible refine WP_drw_end (by kernel_rfl) ?_ | simp (disch := first | omega | (simp only [List.length_append, List.length_cons, List.length_nil, List.length_set, List.length_map, List.length_replicate, List.length_drop, List.length_take] <;> omega) | assumption) only [go_sem, Nat.reduceBEq, Nat.reduceAdd, Nat.reduceSub, Nat.reduceMul, Nat.reduceLT, Nat.reduceLeDiff, Nat.reduceEqDiff, Int.reduceAdd, Int.reduceSub, Int.reduceMul, Int.reduceLT, Int.reduceLE, Int.reduceNeg, Int.reduceToNat, Int.reduceEq, Int.reduceNe, Nat.reducePow, Int.reducePow, Int.reduceDiv, Int.reduceMod, e1, hf, frzS_opd, none13]
    exact ⟨⟨[], by simp⟩, _, rfl, ho.val σ⟩
  have e2 := hs.ix
  have b0 := hb a (by omega)
  have e3 := fun f n all (o : Oper) l cls k Q loc ts => hs.ldk (E := ES) (f := f) (n := n) (all := all) (o := o) (l := l) (cls := cls) (k := k) (Q := Q) (loc := loc) (ts := ts) (e := 5) (by rw [ES_P]; exact g5) a (U (bs.getD a 0)) (by rw [List.getElem?_map, getq (by omega)]; rfl)
  have hcons : bs.drop a = bs.getD a 0 :: bs.drop (a + 1) := by
    rw [List.drop_eq_getElem_cons (by omega), getD_lt' (by omega)]
  rw [hcons] at hdec
  by_cases h0 : bs.getD a 0 % 4 = 0
  · have hst : stepS (bs.getD a 0) (bs.drop (a + 1)) = some (List.replicate ((bs.getD a 0 / 4).toNat + 1) tickE, bs.drop (a + 1)) := by unfold stepS; rw [if_pos h0]
    rw [dec_go es hst] at hdec
    have hmc : (((bs.getD a 0 / 4).toNat + 1 : Nat) : Int) = bs.getD a 0 / 4 + 1 := by omega
    cases hv : immV v
    all_goals
      repeat' first | with_reducible refine CondK_split (fun h => ?_) (fun h => ?_) | with_reducible refine gdK_dec (fun h => ?_) (fun h => ?_) | with_reducible refine GuardK_dec (fun h => ?_) (fun h => ?_) | with_reducible refine WP_draw ?_ | with_reducible refine WP_drw_end (by kernel_rfl) ?_ | simp (disch := first | omega | (simp only [List.length_append, List.length_cons, List.length_nil, List.length_set, List.length_map, List.length_replicate, List.length_drop, List.length_take] <;> omega) | assumption) only [go_sem, Nat.reduceBEq, Nat.reduceAdd, Nat.reduceSub, Nat.reduceMul, Nat.reduceLT, Nat.reduceLeDiff, Nat.reduceEqDiff, Int.reduceAdd, Int.reduceSub, Int.reduceMul, Int.reduceLT, Int.reduceLE, Int.reduceNeg, Int.reduceToNat, Int.reduceEq, Int.reduceNe, Nat.reducePow, Int.reducePow, Int.reduceDiv, Int.reduceMod, e1, e2, e3, hv]
      rw [WP_unroll, WP_lp]
      repeat' first | with_reducible refine CondK_split (fun h => ?_) (fun h => ?_) | with_reducible refine gdK_dec (fun h => ?_) (fun h => ?_) | with_reducible refine GuardK_dec (fun h => ?_) (fun h => ?_) | with_reducible refine WP_draw ?_ | with_reducible refine WP_drw_end (by kernel_rfl) ?_ | simp (disch := first | omega | (simp only [List.length_append, List.length_cons, List.length_nil, List.length_set, List.length_map, List.length_replicate, List.length_drop, List.length_take] <;> omega) | assumption) only [go_sem, Nat.reduceBEq, Nat.reduceAdd, Nat.reduceSub, Nat.reduceMul, Nat.reduceLT, Nat.reduceLeDiff, Nat.reduceEqDiff, Int.reduceAdd, Int.reduceSub, Int.reduceMul, Int.reduceLT, Int.reduceLE, Int.reduceNeg, Int.reduceToNat, Int.reduceEq, Int.reduceNe, Nat.reducePow, Int.reducePow, Int.reduceDiv, Int.reduceMod, bsz]
      refine times_ok (x0 := .v v) (x2 := .lp 0 0) (x5 := .lp 1 0) (x6 := .lp 2 0) (x7 := .v (I 13)) (x9 := .v (I ((a : Int) + 1))) (x16 := .v (strV [])) (x17 := .v (B true)) (x18 := .v (I 0)) (A := some none13) (Bq := some none13) (C := some ((cfgL bs 13).map I)) (σ := σ) (e := (tickE).map I) (m := (bs.getD a 0 / 4).toNat + 1) (ei := tail.length) (tail := tail ++ [some ((tickE).map I)]) (len := es.length) (cs := ents es) (t := t) (by rfl) (by rfl) (by omega) ?_ (by simp) (ho.more _) ho.fresh (by omega) ?_
      · rw [k11, hmc]; rfl
      intro t' tail' xa xb xc ho2 hE2
      have e5 := ho2.sl
      rw [List.length_replicate] at hdec
      by_cases hfull : 20000 < es.length + ((bs.getD a 0 / 4).toNat + 1)
      · rw [if_pos hfull] at hdec
        rw [← hdec]
        repeat' first | with_reducible refine CondK_split (fun h => ?_) (fun h => ?_) | with_reducible refine gdK_dec (fun h => ?_) (fun h => ?_) | with_reducible refine GuardK_dec (fun h => ?_) (fun h => ?_) | with_reducible refine WP_draw ?_ | with_reducible refine WP_drw_end (by kernel_rfl) ?_ | simp (disch := first | omega | (simp only [List.length_append, List.length_cons, List.length_nil, List.length_set, List.length_map, List.length_replicate, List.length_drop, List.length_take] <;> omega) | assumption) only [go_sem, Nat.reduceBEq, Nat.reduceAdd, Nat.reduceSub, Nat.reduceMul, Nat.reduceLT, Nat.reduceLeDiff, Nat.reduceEqDiff, Int.reduceAdd, Int.reduceSub, Int.reduceMul, Int.reduceLT, Int.reduceLE, Int.reduceNeg, Int.reduceToNat, Int.reduceEq, Int.reduceNe, Nat.reducePow, Int.reducePow, Int.reduceDiv, Int.reduceMod, h11, e5, none13]
        exact ⟨⟨[], by simp⟩, rfl⟩
      · rw [if_neg hfull] at hdec
        repeat' first | with_reducible refine CondK_split (fun h => ?_) (fun h => ?_) | with_reducible refine gdK_dec (fun h => ?_) (fun h => ?_) | with_reducible refine GuardK_dec (fun h => ?_) (fun h => ?_) | with_reducible refine WP_draw ?_ | with_reducible refine WP_drw_end (by kernel_rfl) ?_ | simp (disch := first | omega | (simp only [List.length_append, List.length_cons, List.length_nil, List.length_set, List.length_map, List.length_replicate, List.length_drop, List.length_take] <;> omega) | assumption) only [go_sem, Nat.reduceBEq, Nat.reduceAdd, Nat.reduceSub, Nat.reduceMul, Nat.reduceLT, Nat.reduceLeDiff, Nat.reduceEqDiff, Int.reduceAdd, Int.reduceSub, Int.reduceMul, Int.reduceLT, Int.reduceLE, Int.reduceNeg, Int.reduceToNat, Int.reduceEq, Int.reduceNe, Nat.reducePow, Int.reducePow, Int.reduceDiv, Int.reduceMod, h11, e5]
        refine ⟨bs.length - (a + 1), by omega, a + 1, es ++ List.replicate ((bs.getD a 0 / 4).toNat + 1) (tickE), t', tail', _, _, _, _, _, _, rfl, by omega, by omega, ?_, ?_, hdec, by simp [Int.add_assoc]; exact ⟨rfl, rfl, rfl, rfl, rfl, rfl⟩⟩
        · rw [List.length_append, List.length_replicate]
          have : ents (es ++ List.replicate ((bs.getD a 0 / 4).toNat + 1) (tickE)) = ents es ++ rep ((tickE).map I) ((bs.getD a 0 / 4).toNat + 1) := by rw [← ents_rep]; simp [ents]
          rw [this]
          exact ho2
        · rw [List.length_append, List.length_replicate]; omega
  by_cases h1 : bs.getD a 0 % 4 = 1
  · have hst : stepS (bs.getD a 0) (bs.drop (a + 1)) = some ([pickE (bs.getD a 0 / 4)], bs.drop (a + 1)) := by unfold stepS; rw [if_neg h0, if_pos h1]
    rw [dec_go es hst] at hdec
    have hdec' := hdec
    rw [show [pickE (bs.getD a 0 / 4)].length = 1 from rfl] at hdec'
    cases hv : immV v
    all_goals
      repeat' first | with_reducible refine CondK_split (fun h => ?_) (fun h => ?_) | with_reducible refine gdK_dec (fun h => ?_) (fun h => ?_) | with_reducible refine GuardK_dec (fun h => ?_) (fun h => ?_) | with_reducible refine WP_draw ?_ | with_reducible refine WP_drw_end (by kernel_rfl) ?_ | simp (disch := first | omega | (simp only [List.length_append, List.length_cons, List.length_nil, List.length_set, List.length_map, List.length_replicate, List.length_drop, List.length_take] <;> omega) | assumption) only [go_sem, Nat.reduceBEq, Nat.reduceAdd, Nat.reduceSub, Nat.reduceMul, Nat.reduceLT, Nat.reduceLeDiff, Nat.reduceEqDiff, Int.reduceAdd, Int.reduceSub, Int.reduceMul, Int.reduceLT, Int.reduceLE, Int.reduceNeg, Int.reduceToNat, Int.reduceEq, Int.reduceNe, Nat.reducePow, Int.reducePow, Int.reduceDiv, Int.reduceMod, e1, e2, e3, hv]
      rw [WP_unroll, WP_lp]
      repeat' first | with_reducible refine CondK_split (fun h => ?_) (fun h => ?_) | with_reducible refine gdK_dec (fun h => ?_) (fun h => ?_) | with_reducible refine GuardK_dec (fun h => ?_) (fun h => ?_) | with_reducible refine WP_draw ?_ | with_reducible refine WP_drw_end (by kernel_rfl) ?_ | simp (disch := first | omega | (simp only [List.length_append, List.length_cons, List.length_nil, List.length_set, List.length_map, List.length_replicate, List.length_drop, List.length_take] <;> omega) | assumption) only [go_sem, Nat.reduceBEq, Nat.reduceAdd, Nat.reduceSub, Nat.reduceMul, Nat.reduceLT, Nat.reduceLeDiff, Nat.reduceEqDiff, Int.reduceAdd, Int.reduceSub, Int.reduceMul, Int.reduceLT, Int.reduceLE, Int.reduceNeg, Int.reduceToNat, Int.reduceEq, Int.reduceNe, Nat.reducePow, Int.reducePow, Int.reduceDiv, Int.reduceMod, bsz]
      refine times_ok (x0 := .v v) (x2 := .lp 0 0) (x5 := .lp 1 0) (x6 := .lp 2 0) (x7 := .v (I 13)) (x9 := .v (I ((a : Int) + 1))) (x16 := .v (strV [])) (x17 := .v (B true)) (x18 := .v (I 0)) (A := some none13) (Bq := some none13) (C := some ((cfgL bs 13).map I)) (σ := σ) (e := (pickE (bs.getD a 0 / 4)).map I) (m := 1) (ei := tail.length) (tail := tail ++ [some ((pickE (bs.getD a 0 / 4)).map I)]) (len := es.length) (cs := ents es) (t := t) (by rfl) (by rfl) (by omega) ?_ (by simp) (ho.more _) ho.fresh (by omega) ?_
      · rw [k11]; rfl
      intro t' tail' xa xb xc ho2 hE2
      have e5 := ho2.sl
      rw [show [pickE (bs.getD a 0 / 4)].length = 1 from rfl] at hdec
      by_cases hfull : 20000 < es.length + (1)
      · rw [if_pos hfull] at hdec
        rw [← hdec]
        repeat' first | with_reducible refine CondK_split (fun h => ?_) (fun h => ?_) | with_reducible refine gdK_dec (fun h => ?_) (fun h => ?_) | with_reducible refine GuardK_dec (fun h => ?_) (fun h => ?_) | with_reducible refine WP_draw ?_ | with_reducible refine WP_drw_end (by kernel_rfl) ?_ | simp (disch := first | omega | (simp only [List.length_append, List.length_cons, List.length_nil, List.length_set, List.length_map, List.length_replicate, List.length_drop, List.length_take] <;> omega) | assumption) only [go_sem, Nat.reduceBEq, Nat.reduceAdd, Nat.reduceSub, Nat.reduceMul, Nat.reduceLT, Nat.reduceLeDiff, Nat.reduceEqDiff, Int.reduceAdd, Int.reduceSub, Int.reduceMul, Int.reduceLT, Int.reduceLE, Int.reduceNeg, Int.reduceToNat, Int.reduceEq, Int.reduceNe, Nat.reducePow, Int.reducePow, Int.reduceDiv, Int.reduceMod, h11, e5, none13]
        exact ⟨⟨[], by simp⟩, rfl⟩
      · rw [if_neg hfull] at hdec
        repeat' first | with_reducible refine CondK_split (fun h => ?_) (fun h => ?_) | with_reducible refine gdK_dec (fun h => ?_) (fun h => ?_) | with_reducible refine GuardK_dec (fun h => ?_) (fun h => ?_) | with_reducible refine WP_draw ?_ | with_reducible refine WP_drw_end (by kernel_rfl) ?_ | simp (disch := first | omega | (simp only [List.length_append, List.length_cons, List.length_nil, List.length_set, List.length_map, List.length_replicate, List.length_drop, List.length_take] <;> omega) | assumption) only [go_sem, Nat.reduceBEq, Nat.reduceAdd, Nat.reduceSub, Nat.reduceMul, Nat.reduceLT, Nat.reduceLeDiff, Nat.reduceEqDiff, Int.reduceAdd, Int.reduceSub, Int.reduceMul, Int.reduceLT, Int.reduceLE, Int.reduceNeg, Int.reduceToNat, Int.reduceEq, Int.reduceNe, Nat.reducePow, Int.reducePow, Int.reduceDiv, Int.reduceMod, h11, e5]
        refine ⟨bs.length - (a + 1), by omega, a + 1, es ++ [pickE (bs.getD a 0 / 4)], t', tail', _, _, _, _, _, _, rfl, by omega, by omega, ?_, ?_, hdec, by simp [Int.add_assoc]; exact ⟨rfl, rfl, rfl, rfl, rfl, rfl⟩⟩
        · rw [List.length_append]
          have : ents (es ++ [pickE (bs.getD a 0 / 4)]) = ents es ++ rep ((pickE (bs.getD a 0 / 4)).map I) 1 := by simp [ents, rep]
          rw [this]
          exact ho2
        · rw [List.length_append]; exact Nat.le_of_not_lt hfull
  by_cases hshort : bs.length = a + 1
  · have hst : stepS (bs.getD a 0) (bs.drop (a + 1)) = none := by
      rw [show bs.drop (a + 1) = [] by apply List.drop_of_length_le; omega]
      unfold stepS; rw [if_neg h0, if_neg h1]
    rw [dec_stop es hst] at hdec
    rw [← hdec]
    have en := number_short hs ((a : Int) + 1) 1 (by omega) (by omega) (by omega) (by omega) (by omega) (by omega)
    have hf2 := fun a b c x => (ho.more x).frz (pre := [a, b, c])
    simp only [List.cons_append, List.nil_append] at hf2
    cases hv : immV v
    all_goals
      repeat' first | with_reducible refine CondK_split (fun h => ?_) (fun h => ?_) | with_reducible refine gdK_dec (fun h => ?_) (fun h => ?_) | with_reducible refine GuardK_dec (fun h => ?_) (fun h => ?_) | with_reducible refine WP_draw ?_ | with_reducible refine WP_drw_end (by kernel_rfl) ?_ | simp (disch := first | omega | (simp only [List.length_append, List.length_cons, List.length_nil, List.length_set, List.length_map, List.length_replicate, List.length_drop, List.length_take] <;> omega) | assumption) only [go_sem, Nat.reduceBEq, Nat.reduceAdd, Nat.reduceSub, Nat.reduceMul, Nat.reduceLT, Nat.reduceLeDiff, Nat.reduceEqDiff, Int.reduceAdd, Int.reduceSub, Int.reduceMul, Int.reduceLT, Int.reduceLE, Int.reduceNeg, Int.reduceToNat, Int.reduceEq, Int.reduceNe, Nat.reducePow, Int.reducePow, Int.reduceDiv, Int.reduceMod, e1, e2, e3, hv, en.eq, hf2, frzS_opd, none13]
      exact ⟨⟨[], by simp⟩, _, rfl, ho.val σ⟩
  have hc1' : bs.drop (a + 1) = bs.getD (a + 1) 0 :: bs.drop (a + 2) := by
    rw [List.drop_eq_getElem_cons (by omega), getD_lt' (by omega)]
  have b1 := hb (a + 1) (by omega)
  have ey : Ans ES 26 [v, I ((a : Int) + 1), I 1] σ (Is (.tup [I (bs.getD (a + 1) 0), B true]) σ) := by
    have := number_1 hs hb ((a : Int) + 1) (by omega) (by omega) (by omega)
    rw [show ((a : Int) + 1).toNat = a + 1 by omega, le_take1 (by omega)] at this
    exact this
  by_cases h2 : bs.getD a 0 % 4 = 2
  · have hst : stepS (bs.getD a 0) (bs.drop (a + 1)) = some (List.replicate ((bs.getD a 0 / 4).toNat + 1) (pickE (bs.getD (a + 1) 0 % 64)), bs.drop (a + 2)) := by
      unfold stepS; rw [if_neg h0, if_neg h1, hc1']; simp only [h2, if_true]
    rw [dec_go es hst] at hdec
    have hmc : (((bs.getD a 0 / 4).toNat + 1 : Nat) : Int) = bs.getD a 0 / 4 + 1 := by omega
    cases hv : immV v
    all_goals
      repeat' first | with_reducible refine CondK_split (fun h => ?_) (fun h => ?_) | with_reducible refine gdK_dec (fun h => ?_) (fun h => ?_) | with_reducible refine GuardK_dec (fun h => ?_) (fun h => ?_) | with_reducible refine WP_draw ?_ | with_reducible refine WP_drw_end (by kernel_rfl) ?_ | simp (disch := first | omega | (simp only [List.length_append, List.length_cons, List.length_nil, List.length_set, List.length_map, List.length_replicate, List.length_drop, List.length_take] <;> omega) | assumption) only [go_sem, Nat.reduceBEq, Nat.reduceAdd, Nat.reduceSub, Nat.reduceMul, Nat.reduceLT, Nat.reduceLeDiff, Nat.reduceEqDiff, Int.reduceAdd, Int.reduceSub, Int.reduceMul, Int.reduceLT, Int.reduceLE, Int.reduceNeg, Int.reduceToNat, Int.reduceEq, Int.reduceNe, Nat.reducePow, Int.reducePow, Int.reduceDiv, Int.reduceMod, e1, e2, e3, hv, ey.eq]
      rw [WP_unroll, WP_lp]
      repeat' first | with_reducible refine CondK_split (fun h => ?_) (fun h => ?_) | with_reducible refine gdK_dec (fun h => ?_) (fun h => ?_) | with_reducible refine GuardK_dec (fun h => ?_) (fun h => ?_) | with_reducible refine WP_draw ?_ | with_reducible refine WP_drw_end (by kernel_rfl) ?_ | simp (disch := first | omega | (simp only [List.length_append, List.length_cons, List.length_nil, List.length_set, List.length_map, List.length_replicate, List.length_drop, List.length_take] <;> omega) | assumption) only [go_sem, Nat.reduceBEq, Nat.reduceAdd, Nat.reduceSub, Nat.reduceMul, Nat.reduceLT, Nat.reduceLeDiff, Nat.reduceEqDiff, Int.reduceAdd, Int.reduceSub, Int.reduceMul, Int.reduceLT, Int.reduceLE, Int.reduceNeg, Int.reduceToNat, Int.reduceEq, Int.reduceNe, Nat.reducePow, Int.reducePow, Int.reduceDiv, Int.reduceMod, bsz]
      refine times_ok (x0 := .v v) (x2 := .lp 0 0) (x5 := .lp 1 0) (x6 := .lp 2 0) (x7 := .v (I 13)) (x9 := .v (I ((a : Int) + 1 + 1))) (x16 := .v (strV [])) (x17 := .v (B true)) (x18 := .v (I 0)) (A := some none13) (Bq := some none13) (C := some ((cfgL bs 13).map I)) (σ := σ) (e := (pickE (bs.getD (a + 1) 0 % 64)).map I) (m := (bs.getD a 0 / 4).toNat + 1) (ei := tail.length) (tail := tail ++ [some ((pickE (bs.getD (a + 1) 0 % 64)).map I)]) (len := es.length) (cs := ents es) (t := t) (by rfl) (by rfl) (by omega) ?_ (by simp) (ho.more _) ho.fresh (by omega) ?_
      · rw [k11, hmc]; rfl
      intro t' tail' xa xb xc ho2 hE2
      have e5 := ho2.sl
      rw [List.length_replicate] at hdec
      by_cases hfull : 20000 < es.length + ((bs.getD a 0 / 4).toNat + 1)
      · rw [if_pos hfull] at hdec
        rw [← hdec]
        repeat' first | with_reducible refine CondK_split (fun h => ?_) (fun h => ?_) | with_reducible refine gdK_dec (fun h => ?_) (fun h => ?_) | with_reducible refine GuardK_dec (fun h => ?_) (fun h => ?_) | with_reducible refine WP_draw ?_ | with_reducible refine WP_drw_end (by kernel_rfl) ?_ | simp (disch := first | omega | (simp only [List.length_append, List.length_cons, List.length_nil, List.length_set, List.length_map, List.length_replicate, List.length_drop, List.length_take] <;> omega) | assumption) only [go_sem, Nat.reduceBEq, Nat.reduceAdd, Nat.reduceSub, Nat.reduceMul, Nat.reduceLT, Nat.reduceLeDiff, Nat.reduceEqDiff, Int.reduceAdd, Int.reduceSub, Int.reduceMul, Int.reduceLT, Int.reduceLE, Int.reduceNeg, Int.reduceToNat, Int.reduceEq, Int.reduceNe, Nat.reducePow, Int.reducePow, Int.reduceDiv, Int.reduceMod, h11, e5, none13]
        exact ⟨⟨[], by simp⟩, rfl⟩
      · rw [if_neg hfull] at hdec
        repeat' first | with_reducible refine CondK_split (fun h => ?_) (fun h => ?_) | with_reducible refine gdK_dec (fun h => ?_) (fun h => ?_) | with_reducible refine GuardK_dec (fun h => ?_) (fun h => ?_) | with_reducible refine WP_draw ?_ | with_reducible refine WP_drw_end (by kernel_rfl) ?_ | simp (disch := first | omega | (simp only [List.length_append, List.length_cons, List.length_nil, List.length_set, List.length_map, List.length_replicate, List.length_drop, List.length_take] <;> omega) | assumption) only [go_sem, Nat.reduceBEq, Nat.reduceAdd, Nat.reduceSub, Nat.reduceMul, Nat.reduceLT, Nat.reduceLeDiff, Nat.reduceEqDiff, Int.reduceAdd, Int.reduceSub, Int.reduceMul, Int.reduceLT, Int.reduceLE, Int.reduceNeg, Int.reduceToNat, Int.reduceEq, Int.reduceNe, Nat.reducePow, Int.reducePow, Int.reduceDiv, Int.reduceMod, h11, e5]
        refine ⟨bs.length - (a + 2), by omega, a + 2, es ++ List.replicate ((bs.getD a 0 / 4).toNat + 1) (pickE (bs.getD (a + 1) 0 % 64)), t', tail', _, _, _, _, _, _, rfl, by omega, by omega, ?_, ?_, hdec, by simp [Int.add_assoc]; exact ⟨rfl, rfl, rfl, rfl, rfl, rfl⟩⟩
        · rw [List.length_append, List.length_replicate]
          have : ents (es ++ List.replicate ((bs.getD a 0 / 4).toNat + 1) (pickE (bs.getD (a + 1) 0 % 64))) = ents es ++ rep ((pickE (bs.getD (a + 1) 0 % 64)).map I) ((bs.getD a 0 / 4).toNat + 1) := by rw [← ents_rep]; simp [ents]
          rw [this]
          exact ho2
        · rw [List.length_append, List.length_replicate]; omega
  have h3 : bs.getD a 0 % 4 = 3 := by omega
  have hstep : stepS (bs.getD a 0) (bs.drop (a + 1)) = (takeP (partsOf (bs.getD a 0 / 4)) (invE (bs.getD (a + 1) 0) (bs.getD a 0 / 4)) (bs.drop (a + 2))).map fun p => ([p.1], p.2) := by
    unfold stepS; rw [if_neg h0, if_neg h1, hc1']; simp only [h2, if_false]
  have hlb : (bs.drop (a + 2)).length = bs.length - (a + 2) := List.length_drop
  have hf2 := fun a b c x => (ho.more x).frz (pre := [a, b, c])
  simp only [List.cons_append, List.nil_append] at hf2
  by_cases n1 : bs.getD a 0 / 4 = 1
  · have hp : shapeV 1 = .sc (.string ⟨#[116, 97, 117]⟩) := rfl
    have hi0 : aindexV Tryz.prog 9 (.sc (.string ⟨#[116, 97, 117]⟩)) 0 = some (U 116) := by kernel_rfl
    have hi1 : aindexV Tryz.prog 9 (.sc (.string ⟨#[116, 97, 117]⟩)) 1 = some (U 97) := by kernel_rfl
    have hi2 : aindexV Tryz.prog 9 (.sc (.string ⟨#[116, 97, 117]⟩)) 2 = some (U 117) := by kernel_rfl
    have hq : partsOf 1 = [(5, 4), (6, 1), (7, 4)] := rfl
    rw [n1, hq] at hstep
    by_cases c0 : (bs.drop (a + 2)).length < 4
    · have hT : takeP [(5, 4), (6, 1), (7, 4)] (invE (bs.getD (a + 1) 0) 1) (bs.drop (a + 2)) = none := by
        simp only [takeP]
        rw [if_pos c0]
      rw [hT] at hstep
      rw [dec_stop es hstep] at hdec
      rw [← hdec]
      have hlj : (bs.drop (a + 2)).length = bs.length - (a + 2) := by simp only [List.length_drop] <;> omega
      have s0 := number_short hs ((a : Int) + 1 + 1) 4 (by omega) (by omega) (by omega) (by omega) (by omega) (by omega)
      cases hv : immV v
      all_goals
        repeat' first | with_reducible refine CondK_split (fun h => ?_) (fun h => ?_) | with_reducible refine gdK_dec (fun h => ?_) (fun h => ?_) | with_reducible refine GuardK_dec (fun h => ?_) (fun h => ?_) | with_reducible refine WP_draw ?_ | with_reducible refine WP_drw_end (by kernel_rfl) ?_ | simp (disch := first | omega | (simp only [List.length_append, List.length_cons, List.length_nil, List.length_set, List.length_map, List.length_replicate, List.length_drop, List.length_take] <;> omega) | assumption) only [go_sem, Nat.reduceBEq, Nat.reduceAdd, Nat.reduceSub, Nat.reduceMul, Nat.reduceLT, Nat.reduceLeDiff, Nat.reduceEqDiff, Int.reduceAdd, Int.reduceSub, Int.reduceMul, Int.reduceLT, Int.reduceLE, Int.reduceNeg, Int.reduceToNat, Int.reduceEq, Int.reduceNe, Nat.reducePow, Int.reducePow, Int.reduceDiv, Int.reduceMod, e1, e2, e3, hv, ey.eq, n1, hp, hi0, hi1, hi2, (Shape_ok _ _).eq, (width_ok _ _).eq, (set_110 _ _ _ _ _ _ _ _ _ _).eq, (set_103 _ _ _ _ _ _ _ _ _ _).eq, (set_116 _ _ _ _ _ _ _ _ _ _).eq, (set_97 _ _ _ _ _ _ _ _ _ _).eq, (set_117 _ _ _ _ _ _ _ _ _ _).eq, WP_lp, bsz, s0.eq]
        rw [WP_unroll, WP_lp]
        repeat' first | with_reducible refine CondK_split (fun h => ?_) (fun h => ?_) | with_reducible refine gdK_dec (fun h => ?_) (fun h => ?_) | with_reducible refine GuardK_dec (fun h => ?_) (fun h => ?_) | with_reducible refine WP_draw ?_ | with_reducible refine WP_drw_end (by kernel_rfl) ?_ | simp (disch := first | omega | (simp only [List.length_append, List.length_cons, List.length_nil, List.length_set, List.length_map, List.length_replicate, List.length_drop, List.length_take] <;> omega) | assumption) only [go_sem, Nat.reduceBEq, Nat.reduceAdd, Nat.reduceSub, Nat.reduceMul, Nat.reduceLT, Nat.reduceLeDiff, Nat.reduceEqDiff, Int.reduceAdd, Int.reduceSub, Int.reduceMul, Int.reduceLT, Int.reduceLE, Int.reduceNeg, Int.reduceToNat, Int.reduceEq, Int.reduceNe, Nat.reducePow, Int.reducePow, Int.reduceDiv, Int.reduceMod, hf2, frzS_opd, none13, n1, hp, hi0, hi1, hi2, (Shape_ok _ _).eq, (width_ok _ _).eq, (set_110 _ _ _ _ _ _ _ _ _ _).eq, (set_103 _ _ _ _ _ _ _ _ _ _).eq, (set_116 _ _ _ _ _ _ _ _ _ _).eq, (set_97 _ _ _ _ _ _ _ _ _ _).eq, (set_117 _ _ _ _ _ _ _ _ _ _).eq, WP_lp, bsz, s0.eq]
        exact ⟨⟨[], by simp⟩, _, rfl, ho.val σ⟩
    have hlj0 : (bs.drop (a + 2)).length = bs.length - (a + 2) := by simp only [List.length_drop] <;> omega
    have t_0 : Ans ES 26 [v, I ((a : Int) + 1 + 1), I 4] σ (Is (.tup [I (le ((bs.drop (a + 2)).take 4)), B true]) σ) := by
      have := number_4 hs hb ((a : Int) + 1 + 1) (by omega) (by omega) (by omega)
      rw [show ((a : Int) + 1 + 1).toNat = a + 2 by omega] at this
      simpa only [List.drop_drop, Nat.add_assoc] using this
    by_cases c1 : ((bs.drop (a + 2)).drop 4).length < 1
    · have hT : takeP [(5, 4), (6, 1), (7, 4)] (invE (bs.getD (a + 1) 0) 1) (bs.drop (a + 2)) = none := by
        simp only [takeP]
        rw [if_neg c0]
        rw [if_pos c1]
      rw [hT] at hstep
      rw [dec_stop es hstep] at hdec
      rw [← hdec]
      have hlj : ((bs.drop (a + 2)).drop 4).length = bs.length - (a + 2 + 4) := by simp only [List.length_drop] <;> omega
      have s1 := number_short hs ((a : Int) + 1 + 1 + 4) 1 (by omega) (by omega) (by omega) (by omega) (by omega) (by omega)
      cases hv : immV v
      all_goals
        repeat' first | with_reducible refine CondK_split (fun h => ?_) (fun h => ?_) | with_reducible refine gdK_dec (fun h => ?_) (fun h => ?_) | with_reducible refine GuardK_dec (fun h => ?_) (fun h => ?_) | with_reducible refine WP_draw ?_ | with_reducible refine WP_drw_end (by kernel_rfl) ?_ | simp (disch := first | omega | (simp only [List.length_append, List.length_cons, List.length_nil, List.length_set, List.length_map, List.length_replicate, List.length_drop, List.length_take] <;> omega) | assumption) only [go_sem, Nat.reduceBEq, Nat.reduceAdd, Nat.reduceSub, Nat.reduceMul, Nat.reduceLT, Nat.reduceLeDiff, Nat.reduceEqDiff, Int.reduceAdd, Int.reduceSub, Int.reduceMul, Int.reduceLT, Int.reduceLE, Int.reduceNeg, Int.reduceToNat, Int.reduceEq, Int.reduceNe, Nat.reducePow, Int.reducePow, Int.reduceDiv, Int.reduceMod, e1, e2, e3, hv, ey.eq, n1, hp, hi0, hi1, hi2, (Shape_ok _ _).eq, (width_ok _ _).eq, (set_110 _ _ _ _ _ _ _ _ _ _).eq, (set_103 _ _ _ _ _ _ _ _ _ _).eq, (set_116 _ _ _ _ _ _ _ _ _ _).eq, (set_97 _ _ _ _ _ _ _ _ _ _).eq, (set_117 _ _ _ _ _ _ _ _ _ _).eq, WP_lp, bsz, t_0.eq, s1.eq]
        rw [WP_unroll, WP_lp]
        repeat' first | with_reducible refine CondK_split (fun h => ?_) (fun h => ?_) | with_reducible refine gdK_dec (fun h => ?_) (fun h => ?_) | with_reducible refine GuardK_dec (fun h => ?_) (fun h => ?_) | with_reducible refine WP_draw ?_ | with_reducible refine WP_drw_end (by kernel_rfl) ?_ | simp (disch := first | omega | (simp only [List.length_append, List.length_cons, List.length_nil, List.length_set, List.length_map, List.length_replicate, List.length_drop, List.length_take] <;> omega) | assumption) only [go_sem, Nat.reduceBEq, Nat.reduceAdd, Nat.reduceSub, Nat.reduceMul, Nat.reduceLT, Nat.reduceLeDiff, Nat.reduceEqDiff, Int.reduceAdd, Int.reduceSub, Int.reduceMul, Int.reduceLT, Int.reduceLE, Int.reduceNeg, Int.reduceToNat, Int.reduceEq, Int.reduceNe, Nat.reducePow, Int.reducePow, Int.reduceDiv, Int.reduceMod, hf2, frzS_opd, none13, n1, hp, hi0, hi1, hi2, (Shape_ok _ _).eq, (width_ok _ _).eq, (set_110 _ _ _ _ _ _ _ _ _ _).eq, (set_103 _ _ _ _ _ _ _ _ _ _).eq, (set_116 _ _ _ _ _ _ _ _ _ _).eq, (set_97 _ _ _ _ _ _ _ _ _ _).eq, (set_117 _ _ _ _ _ _ _ _ _ _).eq, WP_lp, bsz, t_0.eq, s1.eq]
        exact ⟨⟨[], by simp⟩, _, rfl, ho.val σ⟩
    have hlj1 : ((bs.drop (a + 2)).drop 4).length = bs.length - (a + 2 + 4) := by simp only [List.length_drop] <;> omega
    have t_1 : Ans ES 26 [v, I ((a : Int) + 1 + 1 + 4), I 1] σ (Is (.tup [I (le (((bs.drop (a + 2)).drop 4).take 1)), B true]) σ) := by
      have := number_1 hs hb ((a : Int) + 1 + 1 + 4) (by omega) (by omega) (by omega)
      rw [show ((a : Int) + 1 + 1 + 4).toNat = a + 2 + 4 by omega] at this
      simpa only [List.drop_drop, Nat.add_assoc] using this
    by_cases c2 : (((bs.drop (a + 2)).drop 4).drop 1).length < 4
    · have hT : takeP [(5, 4), (6, 1), (7, 4)] (invE (bs.getD (a + 1) 0) 1) (bs.drop (a + 2)) = none := by
        simp only [takeP]
        rw [if_neg c0]
        rw [if_neg c1]
        rw [if_pos c2]
      rw [hT] at hstep
      rw [dec_stop es hstep] at hdec
      rw [← hdec]
      have hlj : (((bs.drop (a + 2)).drop 4).drop 1).length = bs.length - (a + 2 + 4 + 1) := by simp only [List.length_drop] <;> omega
      have s2 := number_short hs ((a : Int) + 1 + 1 + 4 + 1) 4 (by omega) (by omega) (by omega) (by omega) (by omega) (by omega)
      cases hv : immV v
      all_goals
        repeat' first | with_reducible refine CondK_split (fun h => ?_) (fun h => ?_) | with_reducible refine gdK_dec (fun h => ?_) (fun h => ?_) | with_reducible refine GuardK_dec (fun h => ?_) (fun h => ?_) | with_reducible refine WP_draw ?_ | with_reducible refine WP_drw_end (by kernel_rfl) ?_ | simp (disch := first | omega | (simp only [List.length_append, List.length_cons, List.length_nil, List.length_set, List.length_map, List.length_replicate, List.length_drop, List.length_take] <;> omega) | assumption) only [go_sem, Nat.reduceBEq, Nat.reduceAdd, Nat.reduceSub, Nat.reduceMul, Nat.reduceLT, Nat.reduceLeDiff, Nat.reduceEqDiff, Int.reduceAdd, Int.reduceSub, Int.reduceMul, Int.reduceLT, Int.reduceLE, Int.reduceNeg, Int.reduceToNat, Int.reduceEq, Int.reduceNe, Nat.reducePow, Int.reducePow, Int.reduceDiv, Int.reduceMod, e1, e2, e3, hv, ey.eq, n1, hp, hi0, hi1, hi2, (Shape_ok _ _).eq, (width_ok _ _).eq, (set_110 _ _ _ _ _ _ _ _ _ _).eq, (set_103 _ _ _ _ _ _ _ _ _ _).eq, (set_116 _ _ _ _ _ _ _ _ _ _).eq, (set_97 _ _ _ _ _ _ _ _ _ _).eq, (set_117 _ _ _ _ _ _ _ _ _ _).eq, WP_lp, bsz, t_0.eq, t_1.eq, s2.eq]
        rw [WP_unroll, WP_lp]
        repeat' first | with_reducible refine CondK_split (fun h => ?_) (fun h => ?_) | with_reducible refine gdK_dec (fun h => ?_) (fun h => ?_) | with_reducible refine GuardK_dec (fun h => ?_) (fun h => ?_) | with_reducible refine WP_draw ?_ | with_reducible refine WP_drw_end (by kernel_rfl) ?_ | simp (disch := first | omega | (simp only [List.length_append, List.length_cons, List.length_nil, List.length_set, List.length_map, List.length_replicate, List.length_drop, List.length_take] <;> omega) | assumption) only [go_sem, Nat.reduceBEq, Nat.reduceAdd, Nat.reduceSub, Nat.reduceMul, Nat.reduceLT, Nat.reduceLeDiff, Nat.reduceEqDiff, Int.reduceAdd, Int.reduceSub, Int.reduceMul, Int.reduceLT, Int.reduceLE, Int.reduceNeg, Int.reduceToNat, Int.reduceEq, Int.reduceNe, Nat.reducePow, Int.reducePow, Int.reduceDiv, Int.reduceMod, hf2, frzS_opd, none13, n1, hp, hi0, hi1, hi2, (Shape_ok _ _).eq, (width_ok _ _).eq, (set_110 _ _ _ _ _ _ _ _ _ _).eq, (set_103 _ _ _ _ _ _ _ _ _ _).eq, (set_116 _ _ _ _ _ _ _ _ _ _).eq, (set_97 _ _ _ _ _ _ _ _ _ _).eq, (set_117 _ _ _ _ _ _ _ _ _ _).eq, WP_lp, bsz, t_0.eq, t_1.eq, s2.eq]
        exact ⟨⟨[], by simp⟩, _, rfl, ho.val σ⟩
    have hlj2 : (((bs.drop (a + 2)).drop 4).drop 1).length = bs.length - (a + 2 + 4 + 1) := by simp only [List.length_drop] <;> omega
    have t_2 : Ans ES 26 [v, I ((a : Int) + 1 + 1 + 4 + 1), I 4] σ (Is (.tup [I (le ((((bs.drop (a + 2)).drop 4).drop 1).take 4)), B true]) σ) := by
      have := number_4 hs hb ((a : Int) + 1 + 1 + 4 + 1) (by omega) (by omega) (by omega)
      rw [show ((a : Int) + 1 + 1 + 4 + 1).toNat = a + 2 + 4 + 1 by omega] at this
      simpa only [List.drop_drop, Nat.add_assoc] using this
    have hT : takeP [(5, 4), (6, 1), (7, 4)] (invE (bs.getD (a + 1) 0) (1)) (bs.drop (a + 2)) = some ((((invE (bs.getD (a + 1) 0) (1)).set 5 (le ((bs.drop (a + 2)).take 4))).set 6 (le (((bs.drop (a + 2)).drop 4).take 1))).set 7 (le ((((bs.drop (a + 2)).drop 4).drop 1).take 4)), (((bs.drop (a + 2)).drop 4).drop 1).drop 4) := by
      simp only [takeP]
      rw [if_neg c0]
      rw [if_neg c1]
      rw [if_neg c2]
    rw [hT] at hstep
    rw [dec_go es hstep] at hdec
    have hdec' := hdec
    have hll : ((((bs.drop (a + 2)).drop 4).drop 1).drop 4).length = bs.length - (a + 2 + 4 + 1 + 4) := by simp only [List.length_drop] <;> omega
    have hbx : (((bs.drop (a + 2)).drop 4).drop 1).drop 4 = bs.drop (a + 2 + 4 + 1 + 4) := by simp only [List.drop_drop, Nat.add_assoc]
    cases hv : immV v
    all_goals
      repeat' first | with_reducible refine CondK_split (fun h => ?_) (fun h => ?_) | with_reducible refine gdK_dec (fun h => ?_) (fun h => ?_) | with_reducible refine GuardK_dec (fun h => ?_) (fun h => ?_) | with_reducible refine WP_draw ?_ | with_reducible refine WP_drw_end (by kernel_rfl) ?_ | simp (disch := first | omega | (simp only [List.length_append, List.length_cons, List.length_nil, List.length_set, List.length_map, List.length_replicate, List.length_drop, List.length_take] <;> omega) | assumption) only [go_sem, Nat.reduceBEq, Nat.reduceAdd, Nat.reduceSub, Nat.reduceMul, Nat.reduceLT, Nat.reduceLeDiff, Nat.reduceEqDiff, Int.reduceAdd, Int.reduceSub, Int.reduceMul, Int.reduceLT, Int.reduceLE, Int.reduceNeg, Int.reduceToNat, Int.reduceEq, Int.reduceNe, Nat.reducePow, Int.reducePow, Int.reduceDiv, Int.reduceMod, e1, e2, e3, hv, ey.eq, n1, hp, hi0, hi1, hi2, (Shape_ok _ _).eq, (width_ok _ _).eq, (set_110 _ _ _ _ _ _ _ _ _ _).eq, (set_103 _ _ _ _ _ _ _ _ _ _).eq, (set_116 _ _ _ _ _ _ _ _ _ _).eq, (set_97 _ _ _ _ _ _ _ _ _ _).eq, (set_117 _ _ _ _ _ _ _ _ _ _).eq, WP_lp, bsz, t_0.eq, t_1.eq, t_2.eq]
      rw [WP_unroll, WP_lp]
      repeat' first | with_reducible refine CondK_split (fun h => ?_) (fun h => ?_) | with_reducible refine gdK_dec (fun h => ?_) (fun h => ?_) | with_reducible refine GuardK_dec (fun h => ?_) (fun h => ?_) | with_reducible refine WP_draw ?_ | with_reducible refine WP_drw_end (by kernel_rfl) ?_ | simp (disch := first | omega | (simp only [List.length_append, List.length_cons, List.length_nil, List.length_set, List.length_map, List.length_replicate, List.length_drop, List.length_take] <;> omega) | assumption) only [go_sem, Nat.reduceBEq, Nat.reduceAdd, Nat.reduceSub, Nat.reduceMul, Nat.reduceLT, Nat.reduceLeDiff, Nat.reduceEqDiff, Int.reduceAdd, Int.reduceSub, Int.reduceMul, Int.reduceLT, Int.reduceLE, Int.reduceNeg, Int.reduceToNat, Int.reduceEq, Int.reduceNe, Nat.reducePow, Int.reducePow, Int.reduceDiv, Int.reduceMod, n1, hp, hi0, hi1, hi2, (Shape_ok _ _).eq, (width_ok _ _).eq, (set_110 _ _ _ _ _ _ _ _ _ _).eq, (set_103 _ _ _ _ _ _ _ _ _ _).eq, (set_116 _ _ _ _ _ _ _ _ _ _).eq, (set_97 _ _ _ _ _ _ _ _ _ _).eq, (set_117 _ _ _ _ _ _ _ _ _ _).eq, WP_lp, bsz, t_0.eq, t_1.eq, t_2.eq]
      refine times_ok (x0 := .v v) (x2 := .lp 0 0) (x5 := .lp 1 0) (x6 := .lp 2 0) (x7 := .v (I 13)) (x9 := .v (I ((a : Int) + 1 + 1 + 4 + 1 + 4))) (x16 := .v (.sc (.string ⟨#[116, 97, 117]⟩))) (x17 := .v (B true)) (x18 := .v (I 3)) (A := some none13) (Bq := some none13) (C := some ((cfgL bs 13).map I)) (σ := σ) (e := ((((invE (bs.getD (a + 1) 0) (1)).set 5 (le ((bs.drop (a + 2)).take 4))).set 6 (le (((bs.drop (a + 2)).drop 4).take 1))).set 7 (le ((((bs.drop (a + 2)).drop 4).drop 1).take 4))).map I) (m := 1) (ei := tail.length) (tail := tail ++ [some (((((invE (bs.getD (a + 1) 0) (1)).set 5 (le ((bs.drop (a + 2)).take 4))).set 6 (le (((bs.drop (a + 2)).drop 4).take 1))).set 7 (le ((((bs.drop (a + 2)).drop 4).drop 1).take 4))).map I)]) (len := es.length) (cs := ents es) (t := t) (by rfl) (by rfl) (by omega) ?_ (by simp) (ho.more _) ho.fresh (by omega) ?_
      · rw [k11]; rfl
      intro t' tail' xa xb xc ho2 hE2
      have e5 := ho2.sl
      rw [show [(((invE (bs.getD (a + 1) 0) (1)).set 5 (le ((bs.drop (a + 2)).take 4))).set 6 (le (((bs.drop (a + 2)).drop 4).take 1))).set 7 (le ((((bs.drop (a + 2)).drop 4).drop 1).take 4))].length = 1 from rfl, hbx] at hdec
      by_cases hfull : 20000 < es.length + (1)
      · rw [if_pos hfull] at hdec
        rw [← hdec]
        repeat' first | with_reducible refine CondK_split (fun h => ?_) (fun h => ?_) | with_reducible refine gdK_dec (fun h => ?_) (fun h => ?_) | with_reducible refine GuardK_dec (fun h => ?_) (fun h => ?_) | with_reducible refine WP_draw ?_ | with_reducible refine WP_drw_end (by kernel_rfl) ?_ | simp (disch := first | omega | (simp only [List.length_append, List.length_cons, List.length_nil, List.length_set, List.length_map, List.length_replicate, List.length_drop, List.length_take] <;> omega) | assumption) only [go_sem, Nat.reduceBEq, Nat.reduceAdd, Nat.reduceSub, Nat.reduceMul, Nat.reduceLT, Nat.reduceLeDiff, Nat.reduceEqDiff, Int.reduceAdd, Int.reduceSub, Int.reduceMul, Int.reduceLT, Int.reduceLE, Int.reduceNeg, Int.reduceToNat, Int.reduceEq, Int.reduceNe, Nat.reducePow, Int.reducePow, Int.reduceDiv, Int.reduceMod, h11, e5, none13]
        exact ⟨⟨[], by simp⟩, rfl⟩
      · rw [if_neg hfull] at hdec
        repeat' first | with_reducible refine CondK_split (fun h => ?_) (fun h => ?_) | with_reducible refine gdK_dec (fun h => ?_) (fun h => ?_) | with_reducible refine GuardK_dec (fun h => ?_) (fun h => ?_) | with_reducible refine WP_draw ?_ | with_reducible refine WP_drw_end (by kernel_rfl) ?_ | simp (disch := first | omega | (simp only [List.length_append, List.length_cons, List.length_nil, List.length_set, List.length_map, List.length_replicate, List.length_drop, List.length_take] <;> omega) | assumption) only [go_sem, Nat.reduceBEq, Nat.reduceAdd, Nat.reduceSub, Nat.reduceMul, Nat.reduceLT, Nat.reduceLeDiff, Nat.reduceEqDiff, Int.reduceAdd, Int.reduceSub, Int.reduceMul, Int.reduceLT, Int.reduceLE, Int.reduceNeg, Int.reduceToNat, Int.reduceEq, Int.reduceNe, Nat.reducePow, Int.reducePow, Int.reduceDiv, Int.reduceMod, h11, e5]
        refine ⟨bs.length - (a + 2 + 4 + 1 + 4), by omega, a + 2 + 4 + 1 + 4, es ++ [(((invE (bs.getD (a + 1) 0) (1)).set 5 (le ((bs.drop (a + 2)).take 4))).set 6 (le (((bs.drop (a + 2)).drop 4).take 1))).set 7 (le ((((bs.drop (a + 2)).drop 4).drop 1).take 4))], t', tail', _, _, _, _, _, _, rfl, by omega, by omega, ?_, ?_, hdec, by simp [Int.add_assoc]; exact ⟨rfl, rfl, rfl, rfl, rfl, rfl⟩⟩
        · rw [List.length_append]
          have : ents (es ++ [(((invE (bs.getD (a + 1) 0) (1)).set 5 (le ((bs.drop (a + 2)).take 4))).set 6 (le (((bs.drop (a + 2)).drop 4).take 1))).set 7 (le ((((bs.drop (a + 2)).drop 4).drop 1).take 4))]) = ents es ++ rep (((((invE (bs.getD (a + 1) 0) (1)).set 5 (le ((bs.drop (a + 2)).take 4))).set 6 (le (((bs.drop (a + 2)).drop 4).take 1))).set 7 (le ((((bs.drop (a + 2)).drop 4).drop 1).take 4))).map I) 1 := by simp [ents, rep]
          rw [this]
          exact ho2
        · rw [List.length_append]; exact Nat.le_of_not_lt hfull
  by_cases n2 : bs.getD a 0 / 4 = 2
  · have hp : shapeV 2 = .sc (.string ⟨#[110, 103]⟩) := rfl
    have hi0 : aindexV Tryz.prog 9 (.sc (.string ⟨#[110, 103]⟩)) 0 = some (U 110) := by kernel_rfl
    have hi1 : aindexV Tryz.prog 9 (.sc (.string ⟨#[110, 103]⟩)) 1 = some (U 103) := by kernel_rfl
    have hq : partsOf 2 = [(3, 2), (4, 4)] := rfl
    rw [n2, hq] at hstep
    by_cases c0 : (bs.drop (a + 2)).length < 2
    · have hT : takeP [(3, 2), (4, 4)] (invE (bs.getD (a + 1) 0) 2) (bs.drop (a + 2)) = none := by
        simp only [takeP]
        rw [if_pos c0]
      rw [hT] at hstep
      rw [dec_stop es hstep] at hdec
      rw [← hdec]
      have hlj : (bs.drop (a + 2)).length = bs.length - (a + 2) := by simp only [List.length_drop] <;> omega
      have s0 := number_short hs ((a : Int) + 1 + 1) 2 (by omega) (by omega) (by omega) (by omega) (by omega) (by omega)
      cases hv : immV v
      all_goals
        repeat' first | with_reducible refine CondK_split (fun h => ?_) (fun h => ?_) | with_reducible refine gdK_dec (fun h => ?_) (fun h => ?_) | with_reducible refine GuardK_dec (fun h => ?_) (fun h => ?_) | with_reducible refine WP_draw ?_ | with_reducible refine WP_drw_end (by kernel_rfl) ?_ | simp (disch := first | omega | (simp only [List.length_append, List.length_cons, List.length_nil, List.length_set, List.length_map, List.length_replicate, List.length_drop, List.length_take] <;> omega) | assumption) only [go_sem, Nat.reduceBEq, Nat.reduceAdd, Nat.reduceSub, Nat.reduceMul, Nat.reduceLT, Nat.reduceLeDiff, Nat.reduceEqDiff, Int.reduceAdd, Int.reduceSub, Int.reduceMul, Int.reduceLT, Int.reduceLE, Int.reduceNeg, Int.reduceToNat, Int.reduceEq, Int.reduceNe, Nat.reducePow, Int.reducePow, Int.reduceDiv, Int.reduceMod, e1, e2, e3, hv, ey.eq, n2, hp, hi0, hi1, (Shape_ok _ _).eq, (width_ok _ _).eq, (set_110 _ _ _ _ _ _ _ _ _ _).eq, (set_103 _ _ _ _ _ _ _ _ _ _).eq, (set_116 _ _ _ _ _ _ _ _ _ _).eq, (set_97 _ _ _ _ _ _ _ _ _ _).eq, (set_117 _ _ _ _ _ _ _ _ _ _).eq, WP_lp, bsz, s0.eq]
        rw [WP_unroll, WP_lp]
        repeat' first | with_reducible refine CondK_split (fun h => ?_) (fun h => ?_) | with_reducible refine gdK_dec (fun h => ?_) (fun h => ?_) | with_reducible refine GuardK_dec (fun h => ?_) (fun h => ?_) | with_reducible refine WP_draw ?_ | with_reducible refine WP_drw_end (by kernel_rfl) ?_ | simp (disch := first | omega | (simp only [List.length_append, List.length_cons, List.length_nil, List.length_set, List.length_map, List.length_replicate, List.length_drop, List.length_take] <;> omega) | assumption) only [go_sem, Nat.reduceBEq, Nat.reduceAdd, Nat.reduceSub, Nat.reduceMul, Nat.reduceLT, Nat.reduceLeDiff, Nat.reduceEqDiff, Int.reduceAdd, Int.reduceSub, Int.reduceMul, Int.reduceLT, Int.reduceLE, Int.reduceNeg, Int.reduceToNat, Int.reduceEq, Int.reduceNe, Nat.reducePow, Int.reducePow, Int.reduceDiv, Int.reduceMod, hf2, frzS_opd, none13, n2, hp, hi0, hi1, (Shape_ok _ _).eq, (width_ok _ _).eq, (set_110 _ _ _ _ _ _ _ _ _ _).eq, (set_103 _ _ _ _ _ _ _ _ _ _).eq, (set_116 _ _ _ _ _ _ _ _ _ _).eq, (set_97 _ _ _ _ _ _ _ _ _ _).eq, (set_117 _ _ _ _ _ _ _ _ _ _).eq, WP_lp, bsz, s0.eq]
        exact ⟨⟨[], by simp⟩, _, rfl, ho.val σ⟩
    have hlj0 : (bs.drop (a + 2)).length = bs.length - (a + 2) := by simp only [List.length_drop] <;> omega
    have t_0 : Ans ES 26 [v, I ((a : Int) + 1 + 1), I 2] σ (Is (.tup [I (le ((bs.drop (a + 2)).take 2)), B true]) σ) := by
      have := number_2 hs hb ((a : Int) + 1 + 1) (by omega) (by omega) (by omega)
      rw [show ((a : Int) + 1 + 1).toNat = a + 2 by omega] at this
      simpa only [List.drop_drop, Nat.add_assoc] using this
    by_cases c1 : ((bs.drop (a + 2)).drop 2).length < 4
    · have hT : takeP [(3, 2), (4, 4)] (invE (bs.getD (a + 1) 0) 2) (bs.drop (a + 2)) = none := by
        simp only [takeP]
        rw [if_neg c0]
        rw [if_pos c1]
      rw [hT] at hstep
      rw [dec_stop es hstep] at hdec
      rw [← hdec]
      have hlj : ((bs.drop (a + 2)).drop 2).length = bs.length - (a + 2 + 2) := by simp only [List.length_drop] <;> omega
      have s1 := number_short hs ((a : Int) + 1 + 1 + 2) 4 (by omega) (by omega) (by omega) (by omega) (by omega) (by omega)
      cases hv : immV v
      all_goals
        repeat' first | with_reducible refine CondK_split (fun h => ?_) (fun h => ?_) | with_reducible refine gdK_dec (fun h => ?_) (fun h => ?_) | with_reducible refine GuardK_dec (fun h => ?_) (fun h => ?_) | with_reducible refine WP_draw ?_ | with_reducible refine WP_drw_end (by kernel_rfl) ?_ | simp (disch := first | omega | (simp only [List.length_append, List.length_cons, List.length_nil, List.length_set, List.length_map, List.length_replicate, List.length_drop, List.length_take] <;> omega) | assumption) only [go_sem, Nat.reduceBEq, Nat.reduceAdd, Nat.reduceSub, Nat.reduceMul, Nat.reduceLT, Nat.reduceLeDiff, Nat.reduceEqDiff, Int.reduceAdd, Int.reduceSub, Int.reduceMul, Int.reduceLT, Int.reduceLE, Int.reduceNeg, Int.reduceToNat, Int.reduceEq, Int.reduceNe, Nat.reducePow, Int.reducePow, Int.reduceDiv, Int.reduceMod, e1, e2, e3, hv, ey.eq, n2, hp, hi0, hi1, (Shape_ok _ _).eq, (width_ok _ _).eq, (set_110 _ _ _ _ _ _ _ _ _ _).eq, (set_103 _ _ _ _ _ _ _ _ _ _).eq, (set_116 _ _ _ _ _ _ _ _ _ _).eq, (set_97 _ _ _ _ _ _ _ _ _ _).eq, (set_117 _ _ _ _ _ _ _ _ _ _).eq, WP_lp, bsz, t_0.eq, s1.eq]
        rw [WP_unroll, WP_lp]
        repeat' first | with_reducible refine CondK_split (fun h => ?_) (fun h => ?_) | with_reducible refine gdK_dec (fun h => ?_) (fun h => ?_) | with_reducible refine GuardK_dec (fun h => ?_) (fun h => ?_) | with_reducible refine WP_draw ?_ | with_reducible refine WP_drw_end (by kernel_rfl) ?_ | simp (disch := first | omega | (simp only [List.length_append, List.length_cons, List.length_nil, List.length_set, List.length_map, List.length_replicate, List.length_drop, List.length_take] <;> omega) | assumption) only [go_sem, Nat.reduceBEq, Nat.reduceAdd, Nat.reduceSub, Nat.reduceMul, Nat.reduceLT, Nat.reduceLeDiff, Nat.reduceEqDiff, Int.reduceAdd, Int.reduceSub, Int.reduceMul, Int.reduceLT, Int.reduceLE, Int.reduceNeg, Int.reduceToNat, Int.reduceEq, Int.reduceNe, Nat.reducePow, Int.reducePow, Int.reduceDiv, Int.reduceMod, hf2, frzS_opd, none13, n2, hp, hi0, hi1, (Shape_ok _ _).eq, (width_ok _ _).eq, (set_110 _ _ _ _ _ _ _ _ _ _).eq, (set_103 _ _ _ _ _ _ _ _ _ _).eq, (set_116 _ _ _ _ _ _ _ _ _ _).eq, (set_97 _ _ _ _ _ _ _ _ _ _).eq, (set_117 _ _ _ _ _ _ _ _ _ _).eq, WP_lp, bsz, t_0.eq, s1.eq]
        exact ⟨⟨[], by simp⟩, _, rfl, ho.val σ⟩
    have hlj1 : ((bs.drop (a + 2)).drop 2).length = bs.length - (a + 2 + 2) := by simp only [List.length_drop] <;> omega
    have t_1 : Ans ES 26 [v, I ((a : Int) + 1 + 1 + 2), I 4] σ (Is (.tup [I (le (((bs.drop (a + 2)).drop 2).take 4)), B true]) σ) := by
      have := number_4 hs hb ((a : Int) + 1 + 1 + 2) (by omega) (by omega) (by omega)
      rw [show ((a : Int) + 1 + 1 + 2).toNat = a + 2 + 2 by omega] at this
      simpa only [List.drop_drop, Nat.add_assoc] using this
    have hT : takeP [(3, 2), (4, 4)] (invE (bs.getD (a + 1) 0) (2)) (bs.drop (a + 2)) = some (((invE (bs.getD (a + 1) 0) (2)).set 3 (le ((bs.drop (a + 2)).take 2))).set 4 (le (((bs.drop (a + 2)).drop 2).take 4)), ((bs.drop (a + 2)).drop 2).drop 4) := by
      simp only [takeP]
      rw [if_neg c0]
      rw [if_neg c1]
    rw [hT] at hstep
    rw [dec_go es hstep] at hdec
    have hdec' := hdec
    have hll : (((bs.drop (a + 2)).drop 2).drop 4).length = bs.length - (a + 2 + 2 + 4) := by simp only [List.length_drop] <;> omega
    have hbx : ((bs.drop (a + 2)).drop 2).drop 4 = bs.drop (a + 2 + 2 + 4) := by simp only [List.drop_drop, Nat.add_assoc]
    cases hv : immV v
    all_goals
      repeat' first | with_reducible refine CondK_split (fun h => ?_) (fun h => ?_) | with_reducible refine gdK_dec (fun h => ?_) (fun h => ?_) | with_reducible refine GuardK_dec (fun h => ?_) (fun h => ?_) | with_reducible refine WP_draw ?_ | with_reducible refine WP_drw_end (by kernel_rfl) ?_ | simp (disch := first | omega | (simp only [List.length_append, List.length_cons, List.length_nil, List.length_set, List.length_map, List.length_replicate, List.length_drop, List.length_take] <;> omega) | assumption) only [go_sem, Nat.reduceBEq, Nat.reduceAdd, Nat.reduceSub, Nat.reduceMul, Nat.reduceLT, Nat.reduceLeDiff, Nat.reduceEqDiff, Int.reduceAdd, Int.reduceSub, Int.reduceMul, Int.reduceLT, Int.reduceLE, Int.reduceNeg, Int.reduceToNat, Int.reduceEq, Int.reduceNe, Nat.reducePow, Int.reducePow, Int.reduceDiv, Int.reduceMod, e1, e2, e3, hv, ey.eq, n2, hp, hi0, hi1, (Shape_ok _ _).eq, (width_ok _ _).eq, (set_110 _ _ _ _ _ _ _ _ _ _).eq, (set_103 _ _ _ _ _ _ _ _ _ _).eq, (set_116 _ _ _ _ _ _ _ _ _ _).eq, (set_97 _ _ _ _ _ _ _ _ _ _).eq, (set_117 _ _ _ _ _ _ _ _ _ _).eq, WP_lp, bsz, t_0.eq, t_1.eq]
      rw [WP_unroll, WP_lp]
      repeat' first | with_reducible refine CondK_split (fun h => ?_) (fun h => ?_) | with_reducible refine gdK_dec (fun h => ?_) (fun h => ?_) | with_reducible refine GuardK_dec (fun h => ?_) (fun h => ?_) | with_reducible refine WP_draw ?_ | with_reducible refine WP_drw_end (by kernel_rfl) ?_ | simp (disch := first | omega | (simp only [List.length_append, List.length_cons, List.length_nil, List.length_set, List.length_map, List.length_replicate, List.length_drop, List.length_take] <;> omega) | assumption) only [go_sem, Nat.reduceBEq, Nat.reduceAdd, Nat.reduceSub, Nat.reduceMul, Nat.reduceLT, Nat.reduceLeDiff, Nat.reduceEqDiff, Int.reduceAdd, Int.reduceSub, Int.reduceMul, Int.reduceLT, Int.reduceLE, Int.reduceNeg, Int.reduceToNat, Int.reduceEq, Int.reduceNe, Nat.reducePow, Int.reducePow, Int.reduceDiv, Int.reduceMod, n2, hp, hi0, hi1, (Shape_ok _ _).eq, (width_ok _ _).eq, (set_110 _ _ _ _ _ _ _ _ _ _).eq, (set_103 _ _ _ _ _ _ _ _ _ _).eq, (set_116 _ _ _ _ _ _ _ _ _ _).eq, (set_97 _ _ _ _ _ _ _ _ _ _).eq, (set_117 _ _ _ _ _ _ _ _ _ _).eq, WP_lp, bsz, t_0.eq, t_1.eq]
      refine times_ok (x0 := .v v) (x2 := .lp 0 0) (x5 := .lp 1 0) (x6 := .lp 2 0) (x7 := .v (I 13)) (x9 := .v (I ((a : Int) + 1 + 1 + 2 + 4))) (x16 := .v (.sc (.string ⟨#[110, 103]⟩))) (x17 := .v (B true)) (x18 := .v (I 2)) (A := some none13) (Bq := some none13) (C := some ((cfgL bs 13).map I)) (σ := σ) (e := (((invE (bs.getD (a + 1) 0) (2)).set 3 (le ((bs.drop (a + 2)).take 2))).set 4 (le (((bs.drop (a + 2)).drop 2).take 4))).map I) (m := 1) (ei := tail.length) (tail := tail ++ [some ((((invE (bs.getD (a + 1) 0) (2)).set 3 (le ((bs.drop (a + 2)).take 2))).set 4 (le (((bs.drop (a + 2)).drop 2).take 4))).map I)]) (len := es.length) (cs := ents es) (t := t) (by rfl) (by rfl) (by omega) ?_ (by simp) (ho.more _) ho.fresh (by omega) ?_
      · rw [k11]; rfl
      intro t' tail' xa xb xc ho2 hE2
      have e5 := ho2.sl
      rw [show [((invE (bs.getD (a + 1) 0) (2)).set 3 (le ((bs.drop (a + 2)).take 2))).set 4 (le (((bs.drop (a + 2)).drop 2).take 4))].length = 1 from rfl, hbx] at hdec
      by_cases hfull : 20000 < es.length + (1)
      · rw [if_pos hfull] at hdec
        rw [← hdec]
        repeat' first | with_reducible refine CondK_split (fun h => ?_) (fun h => ?_) | with_reducible refine gdK_dec (fun h => ?_) (fun h => ?_) | with_reducible refine GuardK_dec (fun h => ?_) (fun h => ?_) | with_reducible refine WP_draw ?_ | with_reducible refine WP_drw_end (by kernel_rfl) ?_ | simp (disch := first | omega | (simp only [List.length_append, List.length_cons, List.length_nil, List.length_set, List.length_map, List.length_replicate, List.length_drop, List.length_take] <;> omega) | assumption) only [go_sem, Nat.reduceBEq, Nat.reduceAdd, Nat.reduceSub, Nat.reduceMul, Nat.reduceLT, Nat.reduceLeDiff, Nat.reduceEqDiff, Int.reduceAdd, Int.reduceSub, Int.reduceMul, Int.reduceLT, Int.reduceLE, Int.reduceNeg, Int.reduceToNat, Int.reduceEq, Int.reduceNe, Nat.reducePow, Int.reducePow, Int.reduceDiv, Int.reduceMod, h11, e5, none13]
        exact ⟨⟨[], by simp⟩, rfl⟩
      · rw [if_neg hfull] at hdec
        repeat' first | with_reducible refine CondK_split (fun h => ?_) (fun h => ?_) | with_reducible refine gdK_dec (fun h => ?_) (fun h => ?_) | with_reducible refine GuardK_dec (fun h => ?_) (fun h => ?_) | with_reducible refine WP_draw ?_ | with_reducible refine WP_drw_end (by kernel_rfl) ?_ | simp (disch := first | omega | (simp only [List.length_append, List.length_cons, List.length_nil, List.length_set, List.length_map, List.length_replicate, List.length_drop, List.length_take] <;> omega) | assumption) only [go_sem, Nat.reduceBEq, Nat.reduceAdd, Nat.reduceSub, Nat.reduceMul, Nat.reduceLT, Nat.reduceLeDiff, Nat.reduceEqDiff, Int.reduceAdd, Int.reduceSub, Int.reduceMul, Int.reduceLT, Int.reduceLE, Int.reduceNeg, Int.reduceToNat, Int.reduceEq, Int.reduceNe, Nat.reducePow, Int.reducePow, Int.reduceDiv, Int.reduceMod, h11, e5]
        refine ⟨bs.length - (a + 2 + 2 + 4), by omega, a + 2 + 2 + 4, es ++ [((invE (bs.getD (a + 1) 0) (2)).set 3 (le ((bs.drop (a + 2)).take 2))).set 4 (le (((bs.drop (a + 2)).drop 2).take 4))], t', tail', _, _, _, _, _, _, rfl, by omega, by omega, ?_, ?_, hdec, by simp [Int.add_assoc]; exact ⟨rfl, rfl, rfl, rfl, rfl, rfl⟩⟩
        · rw [List.length_append]
          have : ents (es ++ [((invE (bs.getD (a + 1) 0) (2)).set 3 (le ((bs.drop (a + 2)).take 2))).set 4 (le (((bs.drop (a + 2)).drop 2).take 4))]) = ents es ++ rep ((((invE (bs.getD (a + 1) 0) (2)).set 3 (le ((bs.drop (a + 2)).take 2))).set 4 (le (((bs.drop (a + 2)).drop 2).take 4))).map I) 1 := by simp [ents, rep]
          rw [this]
          exact ho2
        · rw [List.length_append]; exact Nat.le_of_not_lt hfull
  by_cases n3 : bs.getD a 0 / 4 = 3
  · have hp : shapeV 3 = .sc (.string ⟨#[110, 103, 116]⟩) := rfl
    have hi0 : aindexV Tryz.prog 9 (.sc (.string ⟨#[110, 103, 116]⟩)) 0 = some (U 110) := by kernel_rfl
    have hi1 : aindexV Tryz.prog 9 (.sc (.string ⟨#[110, 103, 116]⟩)) 1 = some (U 103) := by kernel_rfl
    have hi2 : aindexV Tryz.prog 9 (.sc (.string ⟨#[110, 103, 116]⟩)) 2 = some (U 116) := by kernel_rfl
    have hq : partsOf 3 = [(3, 2), (4, 4), (5, 4)] := rfl
    rw [n3, hq] at hstep
    by_cases c0 : (bs.drop (a + 2)).length < 2
    · have hT : takeP [(3, 2), (4, 4), (5, 4)] (invE (bs.getD (a + 1) 0) 3) (bs.drop (a + 2)) = none := by
        simp only [takeP]
        rw [if_pos c0]
      rw [hT] at hstep
      rw [dec_stop es hstep] at hdec
      rw [← hdec]
      have hlj : (bs.drop (a + 2)).length = bs.length - (a + 2) := by simp only [List.length_drop] <;> omega
      have s0 := number_short hs ((a : Int) + 1 + 1) 2 (by omega) (by omega) (by omega) (by omega) (by omega) (by omega)
      cases hv : immV v
      all_goals
        repeat' first | with_reducible refine CondK_split (fun h => ?_) (fun h => ?_) | with_reducible refine gdK_dec (fun h => ?_) (fun h => ?_) | with_reducible refine GuardK_dec (fun h => ?_) (fun h => ?_) | with_reducible refine WP_draw ?_ | with_reducible refine WP_drw_end (by kernel_rfl) ?_ | simp (disch := first | omega | (simp only [List.length_append, List.length_cons, List.length_nil, List.length_set, List.length_map, List.length_replicate, List.length_drop, List.length_take] <;> omega) | assumption) only [go_sem, Nat.reduceBEq, Nat.reduceAdd, Nat.reduceSub, Nat.reduceMul, Nat.reduceLT, Nat.reduceLeDiff, Nat.reduceEqDiff, Int.reduceAdd, Int.reduceSub, Int.reduceMul, Int.reduceLT, Int.reduceLE, Int.reduceNeg, Int.reduceToNat, Int.reduceEq, Int.reduceNe, Nat.reducePow, Int.reducePow, Int.reduceDiv, Int.reduceMod, e1, e2, e3, hv, ey.eq, n3, hp, hi0, hi1, hi2, (Shape_ok _ _).eq, (width_ok _ _).eq, (set_110 _ _ _ _ _ _ _ _ _ _).eq, (set_103 _ _ _ _ _ _ _ _ _ _).eq, (set_116 _ _ _ _ _ _ _ _ _ _).eq, (set_97 _ _ _ _ _ _ _ _ _ _).eq, (set_117 _ _ _ _ _ _ _ _ _ _).eq, WP_lp, bsz, s0.eq]
        rw [WP_unroll, WP_lp]
        repeat' first | with_reducible refine CondK_split (fun h => ?_) (fun h => ?_) | with_reducible refine gdK_dec (fun h => ?_) (fun h => ?_) | with_reducible refine GuardK_dec (fun h => ?_) (fun h => ?_) | with_reducible refine WP_draw ?_ | with_reducible refine WP_drw_end (by kernel_rfl) ?_ | simp (disch := first | omega | (simp only [List.length_append, List.length_cons, List.length_nil, List.length_set, List.length_map, List.length_replicate, List.length_drop, List.length_take] <;> omega) | assumption) only [go_sem, Nat.reduceBEq, Nat.reduceAdd, Nat.reduceSub, Nat.reduceMul, Nat.reduceLT, Nat.reduceLeDiff, Nat.reduceEqDiff, Int.reduceAdd, Int.reduceSub, Int.reduceMul, Int.reduceLT, Int.reduceLE, Int.reduceNeg, Int.reduceToNat, Int.reduceEq, Int.reduceNe, Nat.reducePow, Int.reducePow, Int.reduceDiv, Int.reduceMod, hf2, frzS_opd, none13, n3, hp, hi0, hi1, hi2, (Shape_ok _ _).eq, (width_ok _ _).eq, (set_110 _ _ _ _ _ _ _ _ _ _).eq, (set_103 _ _ _ _ _ _ _ _ _ _).eq, (set_116 _ _ _ _ _ _ _ _ _ _).eq, (set_97 _ _ _ _ _ _ _ _ _ _).eq, (set_117 _ _ _ _ _ _ _ _ _ _).eq, WP_lp, bsz, s0.eq]
        exact ⟨⟨[], by simp⟩, _, rfl, ho.val σ⟩
    have hlj0 : (bs.drop (a + 2)).length = bs.length - (a + 2) := by simp only [List.length_drop] <;> omega
    have t_0 : Ans ES 26 [v, I ((a : Int) + 1 + 1), I 2] σ (Is (.tup [I (le ((bs.drop (a + 2)).take 2)), B true]) σ) := by
      have := number_2 hs hb ((a : Int) + 1 + 1) (by omega) (by omega) (by omega)
      rw [show ((a : Int) + 1 + 1).toNat = a + 2 by omega] at this
      simpa only [List.drop_drop, Nat.add_assoc] using this
    by_cases c1 : ((bs.drop (a + 2)).drop 2).length < 4
    · have hT : takeP [(3, 2), (4, 4), (5, 4)] (invE (bs.getD (a + 1) 0) 3) (bs.drop (a + 2)) = none := by
        simp only [takeP]
        rw [if_neg c0]
        rw [if_pos c1]
      rw [hT] at hstep
      rw [dec_stop es hstep] at hdec
      rw [← hdec]
      have hlj : ((bs.drop (a + 2)).drop 2).length = bs.length - (a + 2 + 2) := by simp only [List.length_drop] <;> omega
      have s1 := number_short hs ((a : Int) + 1 + 1 + 2) 4 (by omega) (by omega) (by omega) (by omega) (by omega) (by omega)
      cases hv : immV v
      all_goals
        repeat' first | with_reducible refine CondK_split (fun h => ?_) (fun h => ?_) | with_reducible refine gdK_dec (fun h => ?_) (fun h => ?_) | with_reducible refine GuardK_dec (fun h => ?_) (fun h => ?_) | with_reducible refine WP_draw ?_ | with_reducible refine WP_drw_end (by kernel_rfl) ?_ | simp (disch := first | omega | (simp only [List.length_append, List.length_cons, List.length_nil, List.length_set, List.length_map, List.length_replicate, List.length_drop, List.length_take] <;> omega) | assumption) only [go_sem, Nat.reduceBEq, Nat.reduceAdd, Nat.reduceSub, Nat.reduceMul, Nat.reduceLT, Nat.reduceLeDiff, Nat.reduceEqDiff, Int.reduceAdd, Int.reduceSub, Int.reduceMul, Int.reduceLT, Int.reduceLE, Int.reduceNeg, Int.reduceToNat, Int.reduceEq, Int.reduceNe, Nat.reducePow, Int.reducePow, Int.reduceDiv, Int.reduceMod, e1, e2, e3, hv, ey.eq, n3, hp, hi0, hi1, hi2, (Shape_ok _ _).eq, (width_ok _ _).eq, (set_110 _ _ _ _ _ _ _ _ _ _).eq, (set_103 _ _ _ _ _ _ _ _ _ _).eq, (set_116 _ _ _ _ _ _ _ _ _ _).eq, (set_97 _ _ _ _ _ _ _ _ _ _).eq, (set_117 _ _ _ _ _ _ _ _ _ _).eq, WP_lp, bsz, t_0.eq, s1.eq]
        rw [WP_unroll, WP_lp]
        repeat' first | with_reducible refine CondK_split (fun h => ?_) (fun h => ?_) | with_reducible refine gdK_dec (fun h => ?_) (fun h => ?_) | with_reducible refine GuardK_dec (fun h => ?_) (fun h => ?_) | with_reducible refine WP_draw ?_ | with_reducible refine WP_drw_end (by kernel_rfl) ?_ | simp (disch := first | omega | (simp only [List.length_append, List.length_cons, List.length_nil, List.length_set, List.length_map, List.length_replicate, List.length_drop, List.length_take] <;> omega) | assumption) only [go_sem, Nat.reduceBEq, Nat.reduceAdd, Nat.reduceSub, Nat.reduceMul, Nat.reduceLT, Nat.reduceLeDiff, Nat.reduceEqDiff, Int.reduceAdd, Int.reduceSub, Int.reduceMul, Int.reduceLT, Int.reduceLE, Int.reduceNeg, Int.reduceToNat, Int.reduceEq, Int.reduceNe, Nat.reducePow, Int.reducePow, Int.reduceDiv, Int.reduceMod, hf2, frzS_opd, none13, n3, hp, hi0, hi1, hi2, (Shape_ok _ _).eq, (width_ok _ _).eq, (set_110 _ _ _ _ _ _ _ _ _ _).eq, (set_103 _ _ _ _ _ _ _ _ _ _).eq, (set_116 _ _ _ _ _ _ _ _ _ _).eq, (set_97 _ _ _ _ _ _ _ _ _ _).eq, (set_117 _ _ _ _ _ _ _ _ _ _).eq, WP_lp, bsz, t_0.eq, s1.eq]
        exact ⟨⟨[], by simp⟩, _, rfl, ho.val σ⟩
    have hlj1 : ((bs.drop (a + 2)).drop 2).length = bs.length - (a + 2 + 2) := by simp only [List.length_drop] <;> omega
    have t_1 : Ans ES 26 [v, I ((a : Int) + 1 + 1 + 2), I 4] σ (Is (.tup [I (le (((bs.drop (a + 2)).drop 2).take 4)), B true]) σ) := by
      have := number_4 hs hb ((a : Int) + 1 + 1 + 2) (by omega) (by omega) (by omega)
      rw [show ((a : Int) + 1 + 1 + 2).toNat = a + 2 + 2 by omega] at this
      simpa only [List.drop_drop, Nat.add_assoc] using this
    by_cases c2 : (((bs.drop (a + 2)).drop 2).drop 4).length < 4
    · have hT : takeP [(3, 2), (4, 4), (5, 4)] (invE (bs.getD (a + 1) 0) 3) (bs.drop (a + 2)) = none := by
        simp only [takeP]
        rw [if_neg c0]
        rw [if_neg c1]
        rw [if_pos c2]
      rw [hT] at hstep
      rw [dec_stop es hstep] at hdec
      rw [← hdec]
      have hlj : (((bs.drop (a + 2)).drop 2).drop 4).length = bs.length - (a + 2 + 2 + 4) := by simp only [List.length_drop] <;> omega
      have s2 := number_short hs ((a : Int) + 1 + 1 + 2 + 4) 4 (by omega) (by omega) (by omega) (by omega) (by omega) (by omega)
      cases hv : immV v
      all_goals
        repeat' first | with_reducible refine CondK_split (fun h => ?_) (fun h => ?_) | with_reducible refine gdK_dec (fun h => ?_) (fun h => ?_) | with_reducible refine GuardK_dec (fun h => ?_) (fun h => ?_) | with_reducible refine WP_draw ?_ | with_reducible refine WP_drw_end (by kernel_rfl) ?_ | simp (disch := first | omega | (simp only [List.length_append, List.length_cons, List.length_nil, List.length_set, List.length_map, List.length_replicate, List.length_drop, List.length_take] <;> omega) | assumption) only [go_sem, Nat.reduceBEq, Nat.reduceAdd, Nat.reduceSub, Nat.reduceMul, Nat.reduceLT, Nat.reduceLeDiff, Nat.reduceEqDiff, Int.reduceAdd, Int.reduceSub, Int.reduceMul, Int.reduceLT, Int.reduceLE, Int.reduceNeg, Int.reduceToNat, Int.reduceEq, Int.reduceNe, Nat.reducePow, Int.reducePow, Int.reduceDiv, Int.reduceMod, e1, e2, e3, hv, ey.eq, n3, hp, hi0, hi1, hi2, (Shape_ok _ _).eq, (width_ok _ _).eq, (set_110 _ _ _ _ _ _ _ _ _ _).eq, (set_103 _ _ _ _ _ _ _ _ _ _).eq, (set_116 _ _ _ _ _ _ _ _ _ _).eq, (set_97 _ _ _ _ _ _ _ _ _ _).eq, (set_117 _ _ _ _ _ _ _ _ _ _).eq, WP_lp, bsz, t_0.eq, t_1.eq, s2.eq]
        rw [WP_unroll, WP_lp]
        repeat' first | with_reducible refine CondK_split (fun h => ?_) (fun h => ?_) | with_reducible refine gdK_dec (fun h => ?_) (fun h => ?_) | with_reducible refine GuardK_dec (fun h => ?_) (fun h => ?_) | with_reducible refine WP_draw ?_ | with_reducible refine WP_drw_end (by kernel_rfl) ?_ | simp (disch := first | omega | (simp only [List.length_append, List.length_cons, List.length_nil, List.length_set, List.length_map, List.length_replicate, List.length_drop, List.length_take] <;> omega) | assumption) only [go_sem, Nat.reduceBEq, Nat.reduceAdd, Nat.reduceSub, Nat.reduceMul, Nat.reduceLT, Nat.reduceLeDiff, Nat.reduceEqDiff, Int.reduceAdd, Int.reduceSub, Int.reduceMul, Int.reduceLT, Int.reduceLE, Int.reduceNeg, Int.reduceToNat, Int.reduceEq, Int.reduceNe, Nat.reducePow, Int.reducePow, Int.reduceDiv, Int.reduceMod, hf2, frzS_opd, none13, n3, hp, hi0, hi1, hi2, (Shape_ok _ _).eq, (width_ok _ _).eq, (set_110 _ _ _ _ _ _ _ _ _ _).eq, (set_103 _ _ _ _ _ _ _ _ _ _).eq, (set_116 _ _ _ _ _ _ _ _ _ _).eq, (set_97 _ _ _ _ _ _ _ _ _ _).eq, (set_117 _ _ _ _ _ _ _ _ _ _).eq, WP_lp, bsz, t_0.eq, t_1.eq, s2.eq]
        exact ⟨⟨[], by simp⟩, _, rfl, ho.val σ⟩
    have hlj2 : (((bs.drop (a + 2)).drop 2).drop 4).length = bs.length - (a + 2 + 2 + 4) := by simp only [List.length_drop] <;> omega
    have t_2 : Ans ES 26 [v, I ((a : Int) + 1 + 1 + 2 + 4), I 4] σ (Is (.tup [I (le ((((bs.drop (a + 2)).drop 2).drop 4).take 4)), B true]) σ) := by
      have := number_4 hs hb ((a : Int) + 1 + 1 + 2 + 4) (by omega) (by omega) (by omega)
      rw [show ((a : Int) + 1 + 1 + 2 + 4).toNat = a + 2 + 2 + 4 by omega] at this
      simpa only [List.drop_drop, Nat.add_assoc] using this
    have hT : takeP [(3, 2), (4, 4), (5, 4)] (invE (bs.getD (a + 1) 0) (3)) (bs.drop (a + 2)) = some ((((invE (bs.getD (a + 1) 0) (3)).set 3 (le ((bs.drop (a + 2)).take 2))).set 4 (le (((bs.drop (a + 2)).drop 2).take 4))).set 5 (le ((((bs.drop (a + 2)).drop 2).drop 4).take 4)), (((bs.drop (a + 2)).drop 2).drop 4).drop 4) := by
      simp only [takeP]
      rw [if_neg c0]
      rw [if_neg c1]
      rw [if_neg c2]
    rw [hT] at hstep
    rw [dec_go es hstep] at hdec
    have hdec' := hdec
    have hll : ((((bs.drop (a + 2)).drop 2).drop 4).drop 4).length = bs.length - (a + 2 + 2 + 4 + 4) := by simp only [List.length_drop] <;> omega
    have hbx : (((bs.drop (a + 2)).drop 2).drop 4).drop 4 = bs.drop (a + 2 + 2 + 4 + 4) := by simp only [List.drop_drop, Nat.add_assoc]
    cases hv : immV v
    all_goals
      repeat' first | with_reducible refine CondK_split (fun h => ?_) (fun h => ?_) | with_reducible refine gdK_dec (fun h => ?_) (fun h => ?_) | with_reducible refine GuardK_dec (fun h => ?_) (fun h => ?_) | with_reducible refine WP_draw ?_ | with_reducible refine WP_drw_end (by kernel_rfl) ?_ | simp (disch := first | omega | (simp only [List.length_append, List.length_cons, List.length_nil, List.length_set, List.length_map, List.length_replicate, List.length_drop, List.length_take] <;> omega) | assumption) only [go_sem, Nat.reduceBEq, Nat.reduceAdd, Nat.reduceSub, Nat.reduceMul, Nat.reduceLT, Nat.reduceLeDiff, Nat.reduceEqDiff, Int.reduceAdd, Int.reduceSub, Int.reduceMul, Int.reduceLT, Int.reduceLE, Int.reduceNeg, Int.reduceToNat, Int.reduceEq, Int.reduceNe, Nat.reducePow, Int.reducePow, Int.reduceDiv, Int.reduceMod, e1, e2, e3, hv, ey.eq, n3, hp, hi0, hi1, hi2, (Shape_ok _ _).eq, (width_ok _ _).eq, (set_110 _ _ _ _ _ _ _ _ _ _).eq, (set_103 _ _ _ _ _ _ _ _ _ _).eq, (set_116 _ _ _ _ _ _ _ _ _ _).eq, (set_97 _ _ _ _ _ _ _ _ _ _).eq, (set_117 _ _ _ _ _ _ _ _ _ _).eq, WP_lp, bsz, t_0.eq, t_1.eq, t_2.eq]
      rw [WP_unroll, WP_lp]
      repeat' first | with_reducible refine CondK_split (fun h => ?_) (fun h => ?_) | with_reducible refine gdK_dec (fun h => ?_) (fun h => ?_) | with_reducible refine GuardK_dec (fun h => ?_) (fun h => ?_) | with_reducible refine WP_draw ?_ | with_reducible refine WP_drw_end (by kernel_rfl) ?_ | simp (disch := first | omega | (simp only [List.length_append, List.length_cons, List.length_nil, List.length_set, List.length_map, List.length_replicate, List.length_drop, List.length_take] <;> omega) | assumption) only [go_sem, Nat.reduceBEq, Nat.reduceAdd, Nat.reduceSub, Nat.reduceMul, Nat.reduceLT, Nat.reduceLeDiff, Nat.reduceEqDiff, Int.reduceAdd, Int.reduceSub, Int.reduceMul, Int.reduceLT, Int.reduceLE, Int.reduceNeg, Int.reduceToNat, Int.reduceEq, Int.reduceNe, Nat.reducePow, Int.reducePow, Int.reduceDiv, Int.reduceMod, n3, hp, hi0, hi1, hi2, (Shape_ok _ _).eq, (width_ok _ _).eq, (set_110 _ _ _ _ _ _ _ _ _ _).eq, (set_103 _ _ _ _ _ _ _ _ _ _).eq, (set_116 _ _ _ _ _ _ _ _ _ _).eq, (set_97 _ _ _ _ _ _ _ _ _ _).eq, (set_117 _ _ _ _ _ _ _ _ _ _).eq, WP_lp, bsz, t_0.eq, t_1.eq, t_2.eq]
      refine times_ok (x0 := .v v) (x2 := .lp 0 0) (x5 := .lp 1 0) (x6 := .lp 2 0) (x7 := .v (I 13)) (x9 := .v (I ((a : Int) + 1 + 1 + 2 + 4 + 4))) (x16 := .v (.sc (.string ⟨#[110, 103, 116]⟩))) (x17 := .v (B true)) (x18 := .v (I 3)) (A := some none13) (Bq := some none13) (C := some ((cfgL bs 13).map I)) (σ := σ) (e := ((((invE (bs.getD (a + 1) 0) (3)).set 3 (le ((bs.drop (a + 2)).take 2))).set 4 (le (((bs.drop (a + 2)).drop 2).take 4))).set 5 (le ((((bs.drop (a + 2)).drop 2).drop 4).take 4))).map I) (m := 1) (ei := tail.length) (tail := tail ++ [some (((((invE (bs.getD (a + 1) 0) (3)).set 3 (le ((bs.drop (a + 2)).take 2))).set 4 (le (((bs.drop (a + 2)).drop 2).take 4))).set 5 (le ((((bs.drop (a + 2)).drop 2).drop 4).take 4))).map I)]) (len := es.length) (cs := ents es) (t := t) (by rfl) (by rfl) (by omega) ?_ (by simp) (ho.more _) ho.fresh (by omega) ?_
      · rw [k11]; rfl
      intro t' tail' xa xb xc ho2 hE2
      have e5 := ho2.sl
      rw [show [(((invE (bs.getD (a + 1) 0) (3)).set 3 (le ((bs.drop (a + 2)).take 2))).set 4 (le (((bs.drop (a + 2)).drop 2).take 4))).set 5 (le ((((bs.drop (a + 2)).drop 2).drop 4).take 4))].length = 1 from rfl, hbx] at hdec
      by_cases hfull : 20000 < es.length + (1)
      · rw [if_pos hfull] at hdec
        rw [← hdec]
        repeat' first | with_reducible refine CondK_split (fun h => ?_) (fun h => ?_) | with_reducible refine gdK_dec (fun h => ?_) (fun h => ?_) | with_reducible refine GuardK_dec (fun h => ?_) (fun h => ?_) | with_reducible refine WP_draw ?_ | with_reducible refine WP_drw_end (by kernel_rfl) ?_ | simp (disch := first | omega | (simp only [List.length_append, List.length_cons, List.length_nil, List.length_set, List.length_map, List.length_replicate, List.length_drop, List.length_take] <;> omega) | assumption) only [go_sem, Nat.reduceBEq, Nat.reduceAdd, Nat.reduceSub, Nat.reduceMul, Nat.reduceLT, Nat.reduceLeDiff, Nat.reduceEqDiff, Int.reduceAdd, Int.reduceSub, Int.reduceMul, Int.reduceLT, Int.reduceLE, Int.reduceNeg, Int.reduceToNat, Int.reduceEq, Int.reduceNe, Nat.reducePow, Int.reducePow, Int.reduceDiv, Int.reduceMod, h11, e5, none13]
        exact ⟨⟨[], by simp⟩, rfl⟩
      · rw [if_neg hfull] at hdec
        repeat' first | with_reducible refine CondK_split (fun h => ?_) (fun h => ?_) | with_reducible refine gdK_dec (fun h => ?_) (fun h => ?_) | with_reducible refine GuardK_dec (fun h => ?_) (fun h => ?_) | with_reducible refine WP_draw ?_ | with_reducible refine WP_drw_end (by kernel_rfl) ?_ | simp (disch := first | omega | (simp only [List.length_append, List.length_cons, List.length_nil, List.length_set, List.length_map, List.length_replicate, List.length_drop, List.length_take] <;> omega) | assumption) only [go_sem, Nat.reduceBEq, Nat.reduceAdd, Nat.reduceSub, Nat.reduceMul, Nat.reduceLT, Nat.reduceLeDiff, Nat.reduceEqDiff, Int.reduceAdd, Int.reduceSub, Int.reduceMul, Int.reduceLT, Int.reduceLE, Int.reduceNeg, Int.reduceToNat, Int.reduceEq, Int.reduceNe, Nat.reducePow, Int.reducePow, Int.reduceDiv, Int.reduceMod, h11, e5]
        refine ⟨bs.length - (a + 2 + 2 + 4 + 4), by omega, a + 2 + 2 + 4 + 4, es ++ [(((invE (bs.getD (a + 1) 0) (3)).set 3 (le ((bs.drop (a + 2)).take 2))).set 4 (le (((bs.drop (a + 2)).drop 2).take 4))).set 5 (le ((((bs.drop (a + 2)).drop 2).drop 4).take 4))], t', tail', _, _, _, _, _, _, rfl, by omega, by omega, ?_, ?_, hdec, by simp [Int.add_assoc]; exact ⟨rfl, rfl, rfl, rfl, rfl, rfl⟩⟩
        · rw [List.length_append]
          have : ents (es ++ [(((invE (bs.getD (a + 1) 0) (3)).set 3 (le ((bs.drop (a + 2)).take 2))).set 4 (le (((bs.drop (a + 2)).drop 2).take 4))).set 5 (le ((((bs.drop (a + 2)).drop 2).drop 4).take 4))]) = ents es ++ rep (((((invE (bs.getD (a + 1) 0) (3)).set 3 (le ((bs.drop (a + 2)).take 2))).set 4 (le (((bs.drop (a + 2)).drop 2).take 4))).set 5 (le ((((bs.drop (a + 2)).drop 2).drop 4).take 4))).map I) 1 := by simp [ents, rep]
          rw [this]
          exact ho2
        · rw [List.length_append]; exact Nat.le_of_not_lt hfull
  by_cases n4 : bs.getD a 0 / 4 = 4
  · have hp : shapeV 4 = .sc (.string ⟨#[110, 103, 97]⟩) := rfl
    have hi0 : aindexV Tryz.prog 9 (.sc (.string ⟨#[110, 103, 97]⟩)) 0 = some (U 110) := by kernel_rfl
    have hi1 : aindexV Tryz.prog 9 (.sc (.string ⟨#[110, 103, 97]⟩)) 1 = some (U 103) := by kernel_rfl
    have hi2 : aindexV Tryz.prog 9 (.sc (.string ⟨#[110, 103, 97]⟩)) 2 = some (U 97) := by kernel_rfl
    have hq : partsOf 4 = [(3, 2), (4, 4), (6, 1)] := rfl
    rw [n4, hq] at hstep
    by_cases c0 : (bs.drop (a + 2)).length < 2
    · have hT : takeP [(3, 2), (4, 4), (6, 1)] (invE (bs.getD (a + 1) 0) 4) (bs.drop (a + 2)) = none := by
        simp only [takeP]
        rw [if_pos c0]
      rw [hT] at hstep
      rw [dec_stop es hstep] at hdec
      rw [← hdec]
      have hlj : (bs.drop (a + 2)).length = bs.length - (a + 2) := by simp only [List.length_drop] <;> omega
      have s0 := number_short hs ((a : Int) + 1 + 1) 2 (by omega) (by omega) (by omega) (by omega) (by omega) (by omega)
      cases hv : immV v
      all_goals
        repeat' first | with_reducible refine CondK_split (fun h => ?_) (fun h => ?_) | with_reducible refine gdK_dec (fun h => ?_) (fun h => ?_) | with_reducible refine GuardK_dec (fun h => ?_) (fun h => ?_) | with_reducible refine WP_draw ?_ | with_reducible refine WP_drw_end (by kernel_rfl) ?_ | simp (disch := first | omega | (simp only [List.length_append, List.length_cons, List.length_nil, List.length_set, List.length_map, List.length_replicate, List.length_drop, List.length_take] <;> omega) | assumption) only [go_sem, Nat.reduceBEq, Nat.reduceAdd, Nat.reduceSub, Nat.reduceMul, Nat.reduceLT, Nat.reduceLeDiff, Nat.reduceEqDiff, Int.reduceAdd, Int.reduceSub, Int.reduceMul, Int.reduceLT, Int.reduceLE, Int.reduceNeg, Int.reduceToNat, Int.reduceEq, Int.reduceNe, Nat.reducePow, Int.reducePow, Int.reduceDiv, Int.reduceMod, e1, e2, e3, hv, ey.eq, n4, hp, hi0, hi1, hi2, (Shape_ok _ _).eq, (width_ok _ _).eq, (set_110 _ _ _ _ _ _ _ _ _ _).eq, (set_103 _ _ _ _ _ _ _ _ _ _).eq, (set_116 _ _ _ _ _ _ _ _ _ _).eq, (set_97 _ _ _ _ _ _ _ _ _ _).eq, (set_117 _ _ _ _ _ _ _ _ _ _).eq, WP_lp, bsz, s0.eq]
        rw [WP_unroll, WP_lp]
        repeat' first | with_reducible refine CondK_split (fun h => ?_) (fun h => ?_) | with_reducible refine gdK_dec (fun h => ?_) (fun h => ?_) | with_reducible refine GuardK_dec (fun h => ?_) (fun h => ?_) | with_reducible refine WP_draw ?_ | with_reducible refine WP_drw_end (by kernel_rfl) ?_ | simp (disch := first | omega | (simp only [List.length_append, List.length_cons, List.length_nil, List.length_set, List.length_map, List.length_replicate, List.length_drop, List.length_take] <;> omega) | assumption) only [go_sem, Nat.reduceBEq, Nat.reduceAdd, Nat.reduceSub, Nat.reduceMul, Nat.reduceLT, Nat.reduceLeDiff, Nat.reduceEqDiff, Int.reduceAdd, Int.reduceSub, Int.reduceMul, Int.reduceLT, Int.reduceLE, Int.reduceNeg, Int.reduceToNat, Int.reduceEq, Int.reduceNe, Nat.reducePow, Int.reducePow, Int.reduceDiv, Int.reduceMod, hf2, frzS_opd, none13, n4, hp, hi0, hi1, hi2, (Shape_ok _ _).eq, (width_ok _ _).eq, (set_110 _ _ _ _ _ _ _ _ _ _).eq, (set_103 _ _ _ _ _ _ _ _ _ _).eq, (set_116 _ _ _ _ _ _ _ _ _ _).eq, (set_97 _ _ _ _ _ _ _ _ _ _).eq, (set_117 _ _ _ _ _ _ _ _ _ _).eq, WP_lp, bsz, s0.eq]
        exact ⟨⟨[], by simp⟩, _, rfl, ho.val σ⟩
    have hlj0 : (bs.drop (a + 2)).length = bs.length - (a + 2) := by simp only [List.length_drop] <;> omega
    have t_0 : Ans ES 26 [v, I ((a : Int) + 1 + 1), I 2] σ (Is (.tup [I (le ((bs.drop (a + 2)).take 2)), B true]) σ) := by
      have := number_2 hs hb ((a : Int) + 1 + 1) (by omega) (by omega) (by omega)
      rw [show ((a : Int) + 1 + 1).toNat = a + 2 by omega] at this
      simpa only [List.drop_drop, Nat.add_assoc] using this
    by_cases c1 : ((bs.drop (a + 2)).drop 2).length < 4
    · have hT : takeP [(3, 2), (4, 4), (6, 1)] (invE (bs.getD (a + 1) 0) 4) (bs.drop (a + 2)) = none := by
        simp only [takeP]
        rw [if_neg c0]
        rw [if_pos c1]
      rw [hT] at hstep
      rw [dec_stop es hstep] at hdec
      rw [← hdec]
      have hlj : ((bs.drop (a + 2)).drop 2).length = bs.length - (a + 2 + 2) := by simp only [List.length_drop] <;> omega
      have s1 := number_short hs ((a : Int) + 1 + 1 + 2) 4 (by omega) (by omega) (by omega) (by omega) (by omega) (by omega)
      cases hv : immV v
      all_goals
        repeat' first | with_reducible refine CondK_split (fun h => ?_) (fun h => ?_) | with_reducible refine gdK_dec (fun h => ?_) (fun h => ?_) | with_reducible refine GuardK_dec (fun h => ?_) (fun h => ?_) | with_reducible refine WP_draw ?_ | with_reducible refine WP_drw_end (by kernel_rfl) ?_ | simp (disch := first | omega | (simp only [List.length_append, List.length_cons, List.length_nil, List.length_set, List.length_map, List.length_replicate, List.length_drop, List.length_take] <;> omega) | assumption) only [go_sem, Nat.reduceBEq, Nat.reduceAdd, Nat.reduceSub, Nat.reduceMul, Nat.reduceLT, Nat.reduceLeDiff, Nat.reduceEqDiff, Int.reduceAdd, Int.reduceSub, Int.reduceMul, Int.reduceLT, Int.reduceLE, Int.reduceNeg, Int.reduceToNat, Int.reduceEq, Int.reduceNe, Nat.reducePow, Int.reducePow, Int.reduceDiv, Int.reduceMod, e1, e2, e3, hv, ey.eq, n4, hp, hi0, hi1, hi2, (Shape_ok _ _).eq, (width_ok _ _).eq, (set_110 _ _ _ _ _ _ _ _ _ _).eq, (set_103 _ _ _ _ _ _ _ _ _ _).eq, (set_116 _ _ _ _ _ _ _ _ _ _).eq, (set_97 _ _ _ _ _ _ _ _ _ _).eq, (set_117 _ _ _ _ _ _ _ _ _ _).eq, WP_lp, bsz, t_0.eq, s1.eq]
        rw [WP_unroll, WP_lp]
        repeat' first | with_reducible refine CondK_split (fun h => ?_) (fun h => ?_) | with_reducible refine gdK_dec (fun h => ?_) (fun h => ?_) | with_reducible refine GuardK_dec (fun h => ?_) (fun h => ?_) | with_reducible refine WP_draw ?_ | with_reducible refine WP_drw_end (by kernel_rfl) ?_ | simp (disch := first | omega | (simp only [List.length_append, List.length_cons, List.length_nil, List.length_set, List.length_map, List.length_replicate, List.length_drop, List.length_take] <;> omega) | assumption) only [go_sem, Nat.reduceBEq, Nat.reduceAdd, Nat.reduceSub, Nat.reduceMul, Nat.reduceLT, Nat.reduceLeDiff, Nat.reduceEqDiff, Int.reduceAdd, Int.reduceSub, Int.reduceMul, Int.reduceLT, Int.reduceLE, Int.reduceNeg, Int.reduceToNat, Int.reduceEq, Int.reduceNe, Nat.reducePow, Int.reducePow, Int.reduceDiv, Int.reduceMod, hf2, frzS_opd, none13, n4, hp, hi0, hi1, hi2, (Shape_ok _ _).eq, (width_ok _ _).eq, (set_110 _ _ _ _ _ _ _ _ _ _).eq, (set_103 _ _ _ _ _ _ _ _ _ _).eq, (set_116 _ _ _ _ _ _ _ _ _ _).eq, (set_97 _ _ _ _ _ _ _ _ _ _).eq, (set_117 _ _ _ _ _ _ _ _ _ _).eq, WP_lp, bsz, t_0.eq, s1.eq]
        exact ⟨⟨[], by simp⟩, _, rfl, ho.val σ⟩
    have hlj1 : ((bs.drop (a + 2)).drop 2).length = bs.length - (a + 2 + 2) := by simp only [List.length_drop] <;> omega
    have t_1 : Ans ES 26 [v, I ((a : Int) + 1 + 1 + 2), I 4] σ (Is (.tup [I (le (((bs.drop (a + 2)).drop 2).take 4)), B true]) σ) := by
      have := number_4 hs hb ((a : Int) + 1 + 1 + 2) (by omega) (by omega) (by omega)
      rw [show ((a : Int) + 1 + 1 + 2).toNat = a + 2 + 2 by omega] at this
      simpa only [List.drop_drop, Nat.add_assoc] using this
    by_cases c2 : (((bs.drop (a + 2)).drop 2).drop 4).length < 1
    · have hT : takeP [(3, 2), (4, 4), (6, 1)] (invE (bs.getD (a + 1) 0) 4) (bs.drop (a + 2)) = none := by
        simp only [takeP]
        rw [if_neg c0]
        rw [if_neg c1]
        rw [if_pos c2]
      rw [hT] at hstep
      rw [dec_stop es hstep] at hdec
      rw [← hdec]
      have hlj : (((bs.drop (a + 2)).drop 2).drop 4).length = bs.length - (a + 2 + 2 + 4) := by simp only [List.length_drop] <;> omega
      have s2 := number_short hs ((a : Int) + 1 + 1 + 2 + 4) 1 (by omega) (by omega) (by omega) (by omega) (by omega) (by omega)
      cases hv : immV v
      all_goals
        repeat' first | with_reducible refine CondK_split (fun h => ?_) (fun h => ?_) | with_reducible refine gdK_dec (fun h => ?_) (fun h => ?_) | with_reducible refine GuardK_dec (fun h => ?_) (fun h => ?_) | with_reducible refine WP_draw ?_ | with_reducible refine WP_drw_end (by kernel_rfl) ?_ | simp (disch := first | omega | (simp only [List.length_append, List.length_cons, List.length_nil, List.length_set, List.length_map, List.length_replicate, List.length_drop, List.length_take] <;> omega) | assumption) only [go_sem, Nat.reduceBEq, Nat.reduceAdd, Nat.reduceSub, Nat.reduceMul, Nat.reduceLT, Nat.reduceLeDiff, Nat.reduceEqDiff, Int.reduceAdd, Int.reduceSub, Int.reduceMul, Int.reduceLT, Int.reduceLE, Int.reduceNeg, Int.reduceToNat, Int.reduceEq, Int.reduceNe, Nat.reducePow, Int.reducePow, Int.reduceDiv, Int.reduceMod, e1, e2, e3, hv, ey.eq, n4, hp, hi0, hi1, hi2, (Shape_ok _ _).eq, (width_ok _ _).eq, (set_110 _ _ _ _ _ _ _ _ _ _).eq, (set_103 _ _ _ _ _ _ _ _ _ _).eq, (set_116 _ _ _ _ _ _ _ _ _ _).eq, (set_97 _ _ _ _ _ _ _ _ _ _).eq, (set_117 _ _ _ _ _ _ _ _ _ _).eq, WP_lp, bsz, t_0.eq, t_1.eq, s2.eq]
        rw [WP_unroll, WP_lp]
        repeat' first | with_reducible refine CondK_split (fun h => ?_) (fun h => ?_) | with_reducible refine gdK_dec (fun h => ?_) (fun h => ?_) | with_reducible refine GuardK_dec (fun h => ?_) (fun h => ?_) | with_reducible refine WP_draw ?_ | with_reducible refine WP_drw_end (by kernel_rfl) ?_ | simp (disch := first | omega | (simp only [List.length_append, List.length_cons, List.length_nil, List.length_set, List.length_map, List.length_replicate, List.length_drop, List.length_take] <;> omega) | assumption) only [go_sem, Nat.reduceBEq, Nat.reduceAdd, Nat.reduceSub, Nat.reduceMul, Nat.reduceLT, Nat.reduceLeDiff, Nat.reduceEqDiff, Int.reduceAdd, Int.reduceSub, Int.reduceMul, Int.reduceLT, Int.reduceLE, Int.reduceNeg, Int.reduceToNat, Int.reduceEq, Int.reduceNe, Nat.reducePow, Int.reducePow, Int.reduceDiv, Int.reduceMod, hf2, frzS_opd, none13, n4, hp, hi0, hi1, hi2, (Shape_ok _ _).eq, (width_ok _ _).eq, (set_110 _ _ _ _ _ _ _ _ _ _).eq, (set_103 _ _ _ _ _ _ _ _ _ _).eq, (set_116 _ _ _ _ _ _ _ _ _ _).eq, (set_97 _ _ _ _ _ _ _ _ _ _).eq, (set_117 _ _ _ _ _ _ _ _ _ _).eq, WP_lp, bsz, t_0.eq, t_1.eq, s2.eq]
        exact ⟨⟨[], by simp⟩, _, rfl, ho.val σ⟩
    have hlj2 : (((bs.drop (a + 2)).drop 2).drop 4).length = bs.length - (a + 2 + 2 + 4) := by simp only [List.length_drop] <;> omega
    have t_2 : Ans ES 26 [v, I ((a : Int) + 1 + 1 + 2 + 4), I 1] σ (Is (.tup [I (le ((((bs.drop (a + 2)).drop 2).drop 4).take 1)), B true]) σ) := by
      have := number_1 hs hb ((a : Int) + 1 + 1 + 2 + 4) (by omega) (by omega) (by omega)
      rw [show ((a : Int) + 1 + 1 + 2 + 4).toNat = a + 2 + 2 + 4 by omega] at this
      simpa only [List.drop_drop, Nat.add_assoc] using this
    have hT : takeP [(3, 2), (4, 4), (6, 1)] (invE (bs.getD (a + 1) 0) (4)) (bs.drop (a + 2)) = some ((((invE (bs.getD (a + 1) 0) (4)).set 3 (le ((bs.drop (a + 2)).take 2))).set 4 (le (((bs.drop (a + 2)).drop 2).take 4))).set 6 (le ((((bs.drop (a + 2)).drop 2).drop 4).take 1)), (((bs.drop (a + 2)).drop 2).drop 4).drop 1) := by
      simp only [takeP]
      rw [if_neg c0]
      rw [if_neg c1]
      rw [if_neg c2]
    rw [hT] at hstep
    rw [dec_go es hstep] at hdec
    have hdec' := hdec
    have hll : ((((bs.drop (a + 2)).drop 2).drop 4).drop 1).length = bs.length - (a + 2 + 2 + 4 + 1) := by simp only [List.length_drop] <;> omega
    have hbx : (((bs.drop (a + 2)).drop 2).drop 4).drop 1 = bs.drop (a + 2 + 2 + 4 + 1) := by simp only [List.drop_drop, Nat.add_assoc]
    cases hv : immV v
    all_goals
      repeat' first | with_reducible refine CondK_split (fun h => ?_) (fun h => ?_) | with_reducible refine gdK_dec (fun h => ?_) (fun h => ?_) | with_reducible refine GuardK_dec (fun h => ?_) (fun h => ?_) | with_reducible refine WP_draw ?_ | with_reducible refine WP_drw_end (by kernel_rfl) ?_ | simp (disch := first | omega | (simp only [List.length_append, List.length_cons, List.length_nil, List.length_set, List.length_map, List.length_replicate, List.length_drop, List.length_take] <;> omega) | assumption) only [go_sem, Nat.reduceBEq, Nat.reduceAdd, Nat.reduceSub, Nat.reduceMul, Nat.reduceLT, Nat.reduceLeDiff, Nat.reduceEqDiff, Int.reduceAdd, Int.reduceSub, Int.reduceMul, Int.reduceLT, Int.reduceLE, Int.reduceNeg, Int.reduceToNat, Int.reduceEq, Int.reduceNe, Nat.reducePow, Int.reducePow, Int.reduceDiv, Int.reduceMod, e1, e2, e3, hv, ey.eq, n4, hp, hi0, hi1, hi2, (Shape_ok _ _).eq, (width_ok _ _).eq, (set_110 _ _ _ _ _ _ _ _ _ _).eq, (set_103 _ _ _ _ _ _ _ _ _ _).eq, (set_116 _ _ _ _ _ _ _ _ _ _).eq, (set_97 _ _ _ _ _ _ _ _ _ _).eq, (set_117 _ _ _ _ _ _ _ _ _ _).eq, WP_lp, bsz, t_0.eq, t_1.eq, t_2.eq]
      rw [WP_unroll, WP_lp]
      repeat' first | with_reducible refine CondK_split (fun h => ?_) (fun h => ?_) | with_reducible refine gdK_dec (fun h => ?_) (fun h => ?_) | with_reducible refine GuardK_dec (fun h => ?_) (fun h => ?_) | with_reducible refine WP_draw ?_ | with_reducible refine WP_drw_end (by kernel_rfl) ?_ | simp (disch := first | omega | (simp only [List.length_append, List.length_cons, List.length_nil, List.length_set, List.length_map, List.length_replicate, List.length_drop, List.length_take] <;> omega) | assumption) only [go_sem, Nat.reduceBEq, Nat.reduceAdd, Nat.reduceSub, Nat.reduceMul, Nat.reduceLT, Nat.reduceLeDiff, Nat.reduceEqDiff, Int.reduceAdd, Int.reduceSub, Int.reduceMul, Int.reduceLT, Int.reduceLE, Int.reduceNeg, Int.reduceToNat, Int.reduceEq, Int.reduceNe, Nat.reducePow, Int.reducePow, Int.reduceDiv, Int.reduceMod, n4, hp, hi0, hi1, hi2, (Shape_ok _ _).eq, (width_ok _ _).eq, (set_110 _ _ _ _ _ _ _ _ _ _).eq, (set_103 _ _ _ _ _ _ _ _ _ _).eq, (set_116 _ _ _ _ _ _ _ _ _ _).eq, (set_97 _ _ _ _ _ _ _ _ _ _).eq, (set_117 _ _ _ _ _ _ _ _ _ _).eq, WP_lp, bsz, t_0.eq, t_1.eq, t_2.eq]
      refine times_ok (x0 := .v v) (x2 := .lp 0 0) (x5 := .lp 1 0) (x6 := .lp 2 0) (x7 := .v (I 13)) (x9 := .v (I ((a : Int) + 1 + 1 + 2 + 4 + 1))) (x16 := .v (.sc (.string ⟨#[110, 103, 97]⟩))) (x17 := .v (B true)) (x18 := .v (I 3)) (A := some none13) (Bq := some none13) (C := some ((cfgL bs 13).map I)) (σ := σ) (e := ((((invE (bs.getD (a + 1) 0) (4)).set 3 (le ((bs.drop (a + 2)).take 2))).set 4 (le (((bs.drop (a + 2)).drop 2).take 4))).set 6 (le ((((bs.drop (a + 2)).drop 2).drop 4).take 1))).map I) (m := 1) (ei := tail.length) (tail := tail ++ [some (((((invE (bs.getD (a + 1) 0) (4)).set 3 (le ((bs.drop (a + 2)).take 2))).set 4 (le (((bs.drop (a + 2)).drop 2).take 4))).set 6 (le ((((bs.drop (a + 2)).drop 2).drop 4).take 1))).map I)]) (len := es.length) (cs := ents es) (t := t) (by rfl) (by rfl) (by omega) ?_ (by simp) (ho.more _) ho.fresh (by omega) ?_
      · rw [k11]; rfl
      intro t' tail' xa xb xc ho2 hE2
      have e5 := ho2.sl
      rw [show [(((invE (bs.getD (a + 1) 0) (4)).set 3 (le ((bs.drop (a + 2)).take 2))).set 4 (le (((bs.drop (a + 2)).drop 2).take 4))).set 6 (le ((((bs.drop (a + 2)).drop 2).drop 4).take 1))].length = 1 from rfl, hbx] at hdec
      by_cases hfull : 20000 < es.length + (1)
      · rw [if_pos hfull] at hdec
        rw [← hdec]
        repeat' first | with_reducible refine CondK_split (fun h => ?_) (fun h => ?_) | with_reducible refine gdK_dec (fun h => ?_) (fun h => ?_) | with_reducible refine GuardK_dec (fun h => ?_) (fun h => ?_) | with_reducible refine WP_draw ?_ | with_reducible refine WP_drw_end (by kernel_rfl) ?_ | simp (disch := first | omega | (simp only [List.length_append, List.length_cons, List.length_nil, List.length_set, List.length_map, List.length_replicate, List.length_drop, List.length_take] <;> omega) | assumption) only [go_sem, Nat.reduceBEq, Nat.reduceAdd, Nat.reduceSub, Nat.reduceMul, Nat.reduceLT, Nat.reduceLeDiff, Nat.reduceEqDiff, Int.reduceAdd, Int.reduceSub, Int.reduceMul, Int.reduceLT, Int.reduceLE, Int.reduceNeg, Int.reduceToNat, Int.reduceEq, Int.reduceNe, Nat.reducePow, Int.reducePow, Int.reduceDiv, Int.reduceMod, h11, e5, none13]
        exact ⟨⟨[], by simp⟩, rfl⟩
      · rw [if_neg hfull] at hdec
        repeat' first | with_reducible refine CondK_split (fun h => ?_) (fun h => ?_) | with_reducible refine gdK_dec (fun h => ?_) (fun h => ?_) | with_reducible refine GuardK_dec (fun h => ?_) (fun h => ?_) | with_reducible refine WP_draw ?_ | with_reducible refine WP_drw_end (by kernel_rfl) ?_ | simp (disch := first | omega | (simp only [List.length_append, List.length_cons, List.length_nil, List.length_set, List.length_map, List.length_replicate, List.length_drop, List.length_take] <;> omega) | assumption) only [go_sem, Nat.reduceBEq, Nat.reduceAdd, Nat.reduceSub, Nat.reduceMul, Nat.reduceLT, Nat.reduceLeDiff, Nat.reduceEqDiff, Int.reduceAdd, Int.reduceSub, Int.reduceMul, Int.reduceLT, Int.reduceLE, Int.reduceNeg, Int.reduceToNat, Int.reduceEq, Int.reduceNe, Nat.reducePow, Int.reducePow, Int.reduceDiv, Int.reduceMod, h11, e5]
        refine ⟨bs.length - (a + 2 + 2 + 4 + 1), by omega, a + 2 + 2 + 4 + 1, es ++ [(((invE (bs.getD (a + 1) 0) (4)).set 3 (le ((bs.drop (a + 2)).take 2))).set 4 (le (((bs.drop (a + 2)).drop 2).take 4))).set 6 (le ((((bs.drop (a + 2)).drop 2).drop 4).take 1))], t', tail', _, _, _, _, _, _, rfl, by omega, by omega, ?_, ?_, hdec, by simp [Int.add_assoc]; exact ⟨rfl, rfl, rfl, rfl, rfl, rfl⟩⟩
        · rw [List.length_append]
          have : ents (es ++ [(((invE (bs.getD (a + 1) 0) (4)).set 3 (le ((bs.drop (a + 2)).take 2))).set 4 (le (((bs.drop (a + 2)).drop 2).take 4))).set 6 (le ((((bs.drop (a + 2)).drop 2).drop 4).take 1))]) = ents es ++ rep (((((invE (bs.getD (a + 1) 0) (4)).set 3 (le ((bs.drop (a + 2)).take 2))).set 4 (le (((bs.drop (a + 2)).drop 2).take 4))).set 6 (le ((((bs.drop (a + 2)).drop 2).drop 4).take 1))).map I) 1 := by simp [ents, rep]
          rw [this]
          exact ho2
        · rw [List.length_append]; exact Nat.le_of_not_lt hfull
  have hp : shapeV (bs.getD a 0 / 4) = strV [] := by unfold shapeV; rw [if_neg n1, if_neg n2, if_neg n3, if_neg n4]
  have hq : partsOf (bs.getD a 0 / 4) = [] := by unfold partsOf; rw [if_neg n1, if_neg n2, if_neg n3, if_neg n4]
  rw [hq] at hstep
  have hT : takeP [] (invE (bs.getD (a + 1) 0) (bs.getD a 0 / 4)) (bs.drop (a + 2)) = some (invE (bs.getD (a + 1) 0) (bs.getD a 0 / 4), bs.drop (a + 2)) := by
    simp only [takeP]
  rw [hT] at hstep
  rw [dec_go es hstep] at hdec
  have hdec' := hdec
  cases hv : immV v
  all_goals
    repeat' first | with_reducible refine CondK_split (fun h => ?_) (fun h => ?_) | with_reducible refine gdK_dec (fun h => ?_) (fun h => ?_) | with_reducible refine GuardK_dec (fun h => ?_) (fun h => ?_) | with_reducible refine WP_draw ?_ | with_reducible refine WP_drw_end (by kernel_rfl) ?_ | simp (disch := first | omega | (simp only [List.length_append, List.length_cons, List.length_nil, List.length_set, List.length_map, List.length_replicate, List.length_drop, List.length_take] <;> omega) | assumption) only [go_sem, Nat.reduceBEq, Nat.reduceAdd, Nat.reduceSub, Nat.reduceMul, Nat.reduceLT, Nat.reduceLeDiff, Nat.reduceEqDiff, Int.reduceAdd, Int.reduceSub, Int.reduceMul, Int.reduceLT, Int.reduceLE, Int.reduceNeg, Int.reduceToNat, Int.reduceEq, Int.reduceNe, Nat.reducePow, Int.reducePow, Int.reduceDiv, Int.reduceMod, e1, e2, e3, hv, ey.eq, hp, strV, (Shape_ok _ _).eq, (width_ok _ _).eq, (set_110 _ _ _ _ _ _ _ _ _ _).eq, (set_103 _ _ _ _ _ _ _ _ _ _).eq, (set_116 _ _ _ _ _ _ _ _ _ _).eq, (set_97 _ _ _ _ _ _ _ _ _ _).eq, (set_117 _ _ _ _ _ _ _ _ _ _).eq, WP_lp, bsz]
    rw [WP_unroll, WP_lp]
    repeat' first | with_reducible refine CondK_split (fun h => ?_) (fun h => ?_) | with_reducible refine gdK_dec (fun h => ?_) (fun h => ?_) | with_reducible refine GuardK_dec (fun h => ?_) (fun h => ?_) | with_reducible refine WP_draw ?_ | with_reducible refine WP_drw_end (by kernel_rfl) ?_ | simp (disch := first | omega | (simp only [List.length_append, List.length_cons, List.length_nil, List.length_set, List.length_map, List.length_replicate, List.length_drop, List.length_take] <;> omega) | assumption) only [go_sem, Nat.reduceBEq, Nat.reduceAdd, Nat.reduceSub, Nat.reduceMul, Nat.reduceLT, Nat.reduceLeDiff, Nat.reduceEqDiff, Int.reduceAdd, Int.reduceSub, Int.reduceMul, Int.reduceLT, Int.reduceLE, Int.reduceNeg, Int.reduceToNat, Int.reduceEq, Int.reduceNe, Nat.reducePow, Int.reducePow, Int.reduceDiv, Int.reduceMod, hp, strV, (Shape_ok _ _).eq, (width_ok _ _).eq, (set_110 _ _ _ _ _ _ _ _ _ _).eq, (set_103 _ _ _ _ _ _ _ _ _ _).eq, (set_116 _ _ _ _ _ _ _ _ _ _).eq, (set_97 _ _ _ _ _ _ _ _ _ _).eq, (set_117 _ _ _ _ _ _ _ _ _ _).eq, WP_lp, bsz]
    refine times_ok (x0 := .v v) (x2 := .lp 0 0) (x5 := .lp 1 0) (x6 := .lp 2 0) (x7 := .v (I 13)) (x9 := .v (I ((a : Int) + 1 + 1))) (x16 := .v (strV [])) (x17 := .v (B true)) (x18 := .v (I 0)) (A := some none13) (Bq := some none13) (C := some ((cfgL bs 13).map I)) (σ := σ) (e := (invE (bs.getD (a + 1) 0) (bs.getD a 0 / 4)).map I) (m := 1) (ei := tail.length) (tail := tail ++ [some ((invE (bs.getD (a + 1) 0) (bs.getD a 0 / 4)).map I)]) (len := es.length) (cs := ents es) (t := t) (by rfl) (by rfl) (by omega) ?_ (by simp) (ho.more _) ho.fresh (by omega) ?_
    · rw [k11]; rfl
    intro t' tail' xa xb xc ho2 hE2
    have e5 := ho2.sl
    rw [show [invE (bs.getD (a + 1) 0) (bs.getD a 0 / 4)].length = 1 from rfl] at hdec
    by_cases hfull : 20000 < es.length + (1)
    · rw [if_pos hfull] at hdec
      rw [← hdec]
      repeat' first | with_reducible refine CondK_split (fun h => ?_) (fun h => ?_) | with_reducible refine gdK_dec (fun h => ?_) (fun h => ?_) | with_reducible refine GuardK_dec (fun h => ?_) (fun h => ?_) | with_reducible refine WP_draw ?_ | with_reducible refine WP_drw_end (by kernel_rfl) ?_ | simp (disch := first | omega | (simp only [List.length_append, List.length_cons, List.length_nil, List.length_set, List.length_map, List.length_replicate, List.length_drop, List.length_take] <;> omega) | assumption) only [go_sem, Nat.reduceBEq, Nat.reduceAdd, Nat.reduceSub, Nat.reduceMul, Nat.reduceLT, Nat.reduceLeDiff, Nat.reduceEqDiff, Int.reduceAdd, Int.reduceSub, Int.reduceMul, Int.reduceLT, Int.reduceLE, Int.reduceNeg, Int.reduceToNat, Int.reduceEq, Int.reduceNe, Nat.reducePow, Int.reducePow, Int.reduceDiv, Int.reduceMod, h11, e5, none13]
      exact ⟨⟨[], by simp⟩, rfl⟩
    · rw [if_neg hfull] at hdec
      repeat' first | with_reducible refine CondK_split (fun h => ?_) (fun h => ?_) | with_reducible refine gdK_dec (fun h => ?_) (fun h => ?_) | with_reducible refine GuardK_dec (fun h => ?_) (fun h => ?_) | with_reducible refine WP_draw ?_ | with_reducible refine WP_drw_end (by kernel_rfl) ?_ | simp (disch := first | omega | (simp only [List.length_append, List.length_cons, List.length_nil, List.length_set, List.length_map, List.length_replicate, List.length_drop, List.length_take] <;> omega) | assumption) only [go_sem, Nat.reduceBEq, Nat.reduceAdd, Nat.reduceSub, Nat.reduceMul, Nat.reduceLT, Nat.reduceLeDiff, Nat.reduceEqDiff, Int.reduceAdd, Int.reduceSub, Int.reduceMul, Int.reduceLT, Int.reduceLE, Int.reduceNeg, Int.reduceToNat, Int.reduceEq, Int.reduceNe, Nat.reducePow, Int.reducePow, Int.reduceDiv, Int.reduceMod, h11, e5]
      refine ⟨bs.length - (a + 2), by omega, a + 2, es ++ [invE (bs.getD (a + 1) 0) (bs.getD a 0 / 4)], t', tail', _, _, _, _, _, _, rfl, by omega, by omega, ?_, ?_, hdec, by simp [Int.add_assoc]; exact ⟨rfl, rfl, rfl, rfl, rfl, rfl⟩⟩
      · rw [List.length_append]
        have : ents (es ++ [invE (bs.getD (a + 1) 0) (bs.getD a 0 / 4)]) = ents es ++ rep ((invE (bs.getD (a + 1) 0) (bs.getD a 0 / 4)).map I) 1 := by simp [ents, rep]
        rw [this]
        exact ho2
      · rw [List.length_append]; exact Nat.le_of_not_lt hfull
end Go.Abs
