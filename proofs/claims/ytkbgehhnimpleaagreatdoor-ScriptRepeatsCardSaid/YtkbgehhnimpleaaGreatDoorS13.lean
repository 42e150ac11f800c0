/- An abstract reading of the program, and what it answers. By an AI agent. -/
import Derived.Test.YtkbgehhnimpleaaGreatDoorS11
set_option linter.all false
set_option maxRecDepth 10000
namespace Go.Abs
open Go.Proofs Go.Script
attribute [local go_sem] WP_nil WP_seq WP_skip WP_ret WP_exit WP_label WP_scope WP_code_ret WP_code_exit WP_blk_normal WP_blk_ret WP_blk_ex
attribute [local go_sem] blkK_t blkK_f WP_lp_ret WP_lp_exit WP_block WP_cond CondK_t CondK_f CondK_dt CondK_df WP_region WP_ops_nil
attribute [local go_sem] WP_op WP_guard GuardK_t GuardK_f arK_val arK_skip arK_call After_eq AfterD_eq dvK_some LoopQ_normal LoopQ_ret
attribute [local go_sem] LoopQ_exit Fin_normal Fin_ret FinK_some Is_self put_some put_none opd_tmp opd_const opd_func ofV_int ofV_bool
attribute [local go_sem] ofV_str ofV_nilp ofV_nils ofV_nilf ofV_agg ofV_tup avOf_v avOf_lp avOf_ls tg0 tg1 tg2
attribute [local go_sem] tg3 tg4 tg5 tg6 tg7 tg8 ts0 ts1 ts2 ts3 ts4 ts5
attribute [local go_sem] ts6 ts7 ts8 aop_move aop_assign aop_pick pickB_t pickB_f pickB_dt pickB_df aop_alloc aop_box
attribute [local go_sem] aop_build aop_buildSlice aop_load aop_store storeR_some aop_nilCheck aop_binOp aop_unOp aop_convert aop_makeFunc aop_slice aop_fieldAddr
attribute [local go_sem] aop_field aop_indexAddr aop_index aop_extract aop_makeSlice aop_builtin aop_call callR_fn mkP_glob mkP_dt mkP_df mkP_loc
attribute [local go_sem] mkS_glob mkS_dflt mkS_loc mkA_glob mkA_dflt mkA_loc cellAt_some rangeAt_some cellAt_none cellAt_dead rangeAt_none rangeAt_dead
attribute [local go_sem] ld_ip ld_gp ld_lp ldV_f ldV_t spliceAt_some wr_gp wr_lp bin_add bin_sub bin_mul bin_quo
attribute [local go_sem] bin_rem bin_andK bin_orK bin_xorK bin_andNotK bin_shl bin_shr bin_eql bin_neq bin_lss bin_leq bin_gtr
attribute [local go_sem] bin_geq aun_not aun_neg not_decide' acvt intOpd avOpd optIdx frzO frzL frzT_v frzT_lp
attribute [local go_sem] frzT_ls frzL1_some frzL2_some freeze_mk sub_v sub_top sub_undef sub_lp sub_ls frzS_σ awanted ares
attribute [local go_sem] aresL acall abuiltin alen slen_nil slen_is slen_gs slen_ls aindex_eq ixU_s ixU_a ixE_some
attribute [local go_sem] ixA_some ixS_is ixS_gs ixS_ls aindexV_agg axU_a axE_some bsz List.size_toArray all_I all_U apart
attribute [local go_sem] aslice_eq slU_s slE_some addP_ip addP_gp addP_lp rdS_nil rdS_is rdS_gs rdS_ls sure aextract
attribute [local go_sem] wrap_i64 wrap_u8 wrap_u64 List.map_cons List.map_nil List.length_cons List.length_nil List.cons_append List.nil_append List.append_nil Option.map_some Option.map_none
attribute [local go_sem] Option.bind_some Option.bind_none mapM_c mapM_n if_true if_false decide_true decide_false Bool.false_eq_true Bool.true_eq_false Bool.not_true Bool.not_false
attribute [local go_sem] ES_P WP_drw_n WP_drw_g gdK_t gdK_f gdK_dt gdK_df GuardK_dt GuardK_df DT_move DT_assign DT_pick
attribute [local go_sem] DT_build DT_nilCheck DT_binOp DT_unOp DT_convert DT_makeFunc DT_slice DT_fieldAddr DT_field DT_indexAddr DT_index DT_extract
attribute [local go_sem] DT_len DT_load DT_boxK boxK_d DT_bslK bslK_d DT_alcK alcK_d DT_stK stK_v stS_some DT_apK
attribute [local go_sem] apK_some apS_some DT_makeSlice DT_call qK_some ldK_some frK_some alK_some arD_val arD_skip arD_call dcK_some
attribute [local go_sem] dcK_none acq_fn acq_none prefrz frzAll lkT_v lkT_lp beq_t beq_f bits_i64 bits_u64 bits_u8
attribute [local go_sem] fdiv_pos tdiv_pos tmod_pos toNat_add' orK_low andK3_u8 andK63 Nat.min_eq_left Nat.min_eq_right aappend_eq appE_some appS_some
attribute [local go_sem] get_app_l get_app_r set_app_l set_app_r Nat.sub_self window_all win_z win_s win_o ite_t ite_f splice_eq
attribute [local go_sem] spliceC_one spliceC_all List.all_cons List.all_nil ok_int ok_bool ok_str ok_nilf ok_nilp ok_nils ok_fn ok_ip
attribute [local go_sem] ok_is ok_gp ok_gs co_int co_bool co_str co_nilf co_nilp co_nils co_agg co_fn co_ip
attribute [local go_sem] co_is co_gp co_gs vs0 vs1 ss0 ss1 some_eq List.zip_cons_cons List.zip_nil_left List.zip_nil_right afill
attribute [local go_sem] List.take_succ_cons List.take_zero List.take_nil List.drop_succ_cons List.drop_zero List.drop_nil eq_self I U B nilS arr_get
attribute [local go_sem] List.getElem?_toArray og0 og1 vg0 vg1 vgn sg0 sg1 sgn List.getElem?_drop List.getElem?_map getq
attribute [local go_sem] Option.isNone_none Option.isNone_some Bool.and_true Bool.true_and Bool.and_self Nat.add_zero Nat.zero_add Nat.mul_one Int.toNat_natCast bodyOf Option.getD_some n3
attribute [local go_sem] t3 c3 m3_3 c8 u24 m3_19 s23 g23 c9 u3 a24_24 m3_35
attribute [local go_sem] c10 z29 m3_9 s29 c11 z23 m3_12 g29 c12 q29 hh29 s3
attribute [local go_sem] g3 c14 c13 t8 t9 t10 t11 t12 t13 t14 n4 t4
attribute [local go_sem] c4 m4_15 m4_3 c15 m4_8 u31 u41 m4_48 u30 m4_53 bb29_ t15
attribute [local go_sem] n5 t5 c5 m5_3 m5_20 c16 m5_36 m5_10 u45 m5_50 s5 z5
attribute [local go_sem] g5 m5_13 m5_73 m5_75 m5_83 s56 z56 g56 t16 n6 t6 c6
attribute [local go_sem] m6_4 m6_30 m6_43 bs24_0_ m6_45 m6_52 bs24_3_0_1_2 m6_53 m6_54 m6_56 u5 m6_66
attribute [local go_sem] sl24 m6_67 m6_75 m6_76 m6_15 m6_18 m6_98 h6 k6 n8 c19 m8_12
attribute [local go_sem] m8_13 m8_21 s9 z9 g9 u9 t19 n9 m9_2 u34 m9_15 m9_17
attribute [local go_sem] u23 z3 c20 m9_27 m9_30 s53 z53 g53 c21 m9_46 h9 k9
attribute [local go_sem] t20 t21 n10 m10_2 m10_15 z22 m10_5 c22 u22 s22 g22 c23
attribute [local go_sem] m10_7 c24 m10_42 c25 m10_55 m10_57 a30_30 m10_64 h10 k10 t22 t23
attribute [local go_sem] t24 t25 n11 m11_2 bb23_ m11_5 m11_23 m11_6 c26 m11_44 bs34_0_ m11_47
attribute [local go_sem] bb53_0 m11_12 bb53_0_1 bb53_0_1_2 c27 m11_96 c28 c29 m11_134 sl34 a34_34 m11_135
attribute [local go_sem] m11_137 h11 k11 t26 t27 t28 t29 n12 m12_1 m12_2 bb29_0_1_2_3_4_5_6_7_8_9_10_11_12 n13
attribute [local go_sem] m13_7 m13_9 m13_13 q53 hh53 q51 hh51 s51 g51 h13 k13 n14
attribute [local go_sem] m14_6 m14_8 m14_5 c30 m14_16 m14_17 h14 k14 t30 n15 m15_4 c31
attribute [local go_sem] c32 c33 u82 m15_33 s85 z85 g85 m15_10 c34 m15_41 sl41 a41_41
attribute [local go_sem] m15_42 c36 c35 m15_49 m15_50 h15 k15 t31 t32 t33 t34 t35
attribute [local go_sem] t36 n16 m16_1 c37 t37 n19 m19_0 bb23_0_1_2_3_4_5_6_7_8_9_10_11_12 n20 m20_7 m20_17 m20_18
attribute [local go_sem] h20 k20 n22 m22_10 h22 k22 n23 m23_1 m23_2 n24 m24_1 bb98_0_1
attribute [local go_sem] bb99_0_1_2_3_4_5_6_7_8_9_10_11_12 z99 m24_4 s99 c39 u99 s98 z98 g98 f98_0 f98_1 h24
attribute [local go_sem] k24 t39 n25 bb56_0 c45 bb56_0_1 bb56_0_1_2 m25_9 c46 u101 m25_58 s105
attribute [local go_sem] z105 g105 m25_11 f105_0 s103 g103 f105_1 m25_80 sl30 h25 k25 t45
attribute [local go_sem] t46 n26 m26_14 h26 k26 n27 n28 n29 m29_3 m29_6 f53_3 f51_0
attribute [local go_sem] f51_1 f53_4 f53_5 f53_6 n30 m30_1 m30_2 f56_0 f56_1 f56_2 f56_3 f54_0
attribute [local go_sem] f54_1 bb51_0_1 f56_4 f56_5 f56_6 bb53_0_1_2_3_4_5_6 n37 m37_1 c55 c56 h37 k37
attribute [local go_sem] t55 t56 n39 m39_1 m39_2 f29_0 f29_1 f29_2 f29_3 f29_4 f29_5 f29_6
attribute [local go_sem] f29_7 f29_8 f29_9 f29_10 f29_11 f29_12 bb22_0_1_2_3_4_5_6_7_8_9_10_11_12 n45 m45_2 m45_11 m45_12 h45
attribute [local go_sem] k45 n46 bb105_0_1 m46_3 m46_4 m46_5 m46_6 m46_7 m46_19 bs101_3_0_1_2 m46_24 bs101_2_0_1
attribute [local go_sem] m46_30 m46_36 n55 n56 n57 t57 c57 n58 t58 c58 n59 t59
attribute [local go_sem] c59 n60 t60 c60 n61 t61 c61

def bytesOf : Nat → Int → List Int
  | 0, _ => []
  | w + 1, n => n % 256 :: bytesOf w (n / 256)
theorem bytesOf_len : ∀ (w : Nat) (n : Int), (bytesOf w n).length = w
  | 0, _ => rfl
  | w + 1, n => by simp [bytesOf, bytesOf_len w]
theorem bytesOf_byt : ∀ (w : Nat) (n : Int), ∀ x ∈ bytesOf w n, 0 ≤ x ∧ x < 256
  | 0, _, x, h => by simp [bytesOf] at h
  | w + 1, n, x, h => by
    simp only [bytesOf, List.mem_cons] at h
    rcases h with rfl | h
    · omega
    · exact bytesOf_byt w _ x h

theorem Bytes_ok (n : Int) (w : Nat) (h0 : 0 ≤ n) (h1 : n < 2 ^ 40) (hw : w < 100) (σ : Store) : Ans ES 20 [I n, I w] σ (fun r σ' => σ' = σ ∧ Sl σ 1 r ((bytesOf w n).map U) w) := by
  refine w20 1000 ?_
  repeat' first | with_reducible refine CondK_split (fun h => ?_) (fun h => ?_) | with_reducible refine gdK_dec (fun h => ?_) (fun h => ?_) | with_reducible refine GuardK_dec (fun h => ?_) (fun h => ?_) | with_reducible refine WP_draw ?_ | with_reducible refine WP_drw_end (by kernel_rfl) ?_ | simp (disch := first | omega | (simp only [List.length_append, List.length_cons, List.length_nil, List.length_set, List.length_map, List.length_replicate, List.length_drop, List.length_take] <;> omega) | assumption) only [go_sem, Nat.reduceBEq, Nat.reduceAdd, Nat.reduceSub, Nat.reduceMul, Nat.reduceLT, Nat.reduceLeDiff, Nat.reduceEqDiff, Int.reduceAdd, Int.reduceSub, Int.reduceMul, Int.reduceLT, Int.reduceLE, Int.reduceNeg, Int.reduceToNat, Int.reduceEq, Int.reduceNe, Nat.reducePow, Int.reducePow, Int.reduceDiv, Int.reduceMod, Tryz.f20]
  refine WP_loop (fun j s => ∃ (k : Nat) (m : Int) (t : TV) (tail : Store) (l : List Int), j = w - k ∧ k ≤ w ∧ 0 ≤ m ∧ m < 2 ^ 40 ∧ l ++ bytesOf (w - k) m = bytesOf w n ∧ OutL tail 0 1 t (l.map U) k ∧ s = h20 σ tail (.v (I m)) (.v (I w)) t (.v (I k))) w ?_ (by omega) ?_
  · exact ⟨0, n, _, [], [], rfl, by omega, h0, h1, rfl, .emp, by simp [k20]⟩
  rintro j s hj ⟨k, m, t, tail, l, rfl, hk, hm0, hm1, hl, ho, rfl⟩
  obtain ⟨t', tail', ho', ha⟩ := ho.app (pre := []) [U (m % 256)] 1 rfl rfl (by omega)
  simp only [List.nil_append] at ha
  have hf := ho.frz (pre := [])
  simp only [List.nil_append] at hf
  repeat' first | with_reducible refine CondK_split (fun h => ?_) (fun h => ?_) | with_reducible refine gdK_dec (fun h => ?_) (fun h => ?_) | with_reducible refine GuardK_dec (fun h => ?_) (fun h => ?_) | with_reducible refine WP_draw ?_ | with_reducible refine WP_drw_end (by kernel_rfl) ?_ | simp (disch := first | omega | (simp only [List.length_append, List.length_cons, List.length_nil, List.length_set, List.length_map, List.length_replicate, List.length_drop, List.length_take] <;> omega) | assumption) only [go_sem, Nat.reduceBEq, Nat.reduceAdd, Nat.reduceSub, Nat.reduceMul, Nat.reduceLT, Nat.reduceLeDiff, Nat.reduceEqDiff, Int.reduceAdd, Int.reduceSub, Int.reduceMul, Int.reduceLT, Int.reduceLE, Int.reduceNeg, Int.reduceToNat, Int.reduceEq, Int.reduceNe, Nat.reducePow, Int.reducePow, Int.reduceDiv, Int.reduceMod, ha, hf]
  · refine ⟨w - (k + 1), by omega, k + 1, m / 256, t', tail', l ++ [m % 256], rfl, by omega, by omega, by omega, ?_, by simpa using ho', by simp [k20]⟩
    rw [← hl, show w - k = (w - (k + 1)) + 1 by omega]
    simp [bytesOf]
  · obtain rfl : k = w := by omega
    have : l = bytesOf k n := by simpa [bytesOf] using hl
    subst this
    exact ⟨trivial, ho.val σ⟩

/-- What grows in a block of the store, made behind σ0. -/
def OutG (σ0 σ : Store) (sz : Nat) (t : TV) (cs : List AV) (len : Nat) : Prop :=
  (∃ g, σ = σ0 ++ g) ∧ cs.length = len * sz ∧
    ((t = .v (.sc (.slice none 0 0)) ∧ len = 0) ∨ (t = .v (.is [] 0 true) ∧ len = 0) ∨ ∃ i, σ0.length ≤ i ∧ σ[i]? = some (some cs) ∧ t = .v (.gs i 0 len sz none))

theorem OutG.sl {σ0 σ : Store} {sz : Nat} {v : AV} {cs : List AV} {len : Nat} (h : OutG σ0 σ sz (.v v) cs len) : Sl σ sz v cs len := by
  obtain ⟨_, hl, ⟨ht, h0⟩ | ⟨ht, h0⟩ | ⟨i, _, hi, ht⟩⟩ := h <;> cases ht
  · subst h0
    obtain rfl : cs = [] := by simpa using hl
    exact .nil
  · subst h0
    obtain rfl : cs = [] := by simpa using hl
    exact .imm (by simp)
  · exact .glob hi (by simp [window, hl]; rw [← hl, List.take_length])
theorem OutG.val {σ0 σ : Store} {sz : Nat} {t : TV} {cs : List AV} {len : Nat} (h : OutG σ0 σ sz t cs len) : ∃ v, t = .v v := by
  obtain ⟨_, _, ⟨ht, _⟩ | ⟨ht, _⟩ | ⟨i, _, _, ht⟩⟩ := h <;> exact ⟨_, ht⟩
theorem OutG.base {σ0 σ : Store} {sz : Nat} {t : TV} {cs : List AV} {len : Nat} (h : OutG σ0 σ sz t cs len) {σ1 : Store} (h1 : ∃ g, σ0 = σ1 ++ g) : OutG σ1 σ sz t cs len := by
  obtain ⟨⟨g, rfl⟩, hl, h⟩ := h
  obtain ⟨g1, rfl⟩ := h1
  refine ⟨⟨g1 ++ g, by simp⟩, hl, ?_⟩
  rcases h with h | h | ⟨i, hi, h⟩
  · exact .inl h
  · exact .inr (.inl h)
  · exact .inr (.inr ⟨i, by simp at hi; omega, h⟩)

theorem OutG.app {σ0 σ : Store} {sz : Nat} {t : TV} {cs : List AV} {len : Nat} (h : OutG σ0 σ sz t cs len) (ys : List AV) (n : Nat) (hy : ys.length = n * sz) (hall : ys.all cellOk = true) (hlim : len + n ≤ 2 ^ 31) :
    ∃ v' σ', OutG σ0 σ' sz (.v v') (cs ++ ys) (len + n) ∧ ∀ loc ts, appR .glob ⟨σ, loc, ts⟩ sz t ys n = some (.v v', ⟨σ', loc, ts⟩) := by
  obtain ⟨⟨g, rfl⟩, hl, h⟩ := h
  have hlast : ∀ (l : Store) (x : Option (List AV)), (l ++ [x])[l.length]? = some x := fun l x => by simp
  have hlen : (cs ++ ys).length = (len + n) * sz := by rw [List.length_append, hl, hy, Nat.add_mul]
  have fresh : ∀ (l : Store) (xs : List AV), σ0.length ≤ l.length → (∃ g, l = σ0 ++ g) → xs = cs ++ ys → OutG σ0 (l ++ [some xs]) sz (.v (.gs l.length 0 (len + n) sz none)) (cs ++ ys) (len + n) := by
    rintro l xs h1 ⟨g', rfl⟩ rfl
    exact ⟨⟨g' ++ [some (cs ++ ys)], by simp⟩, hlen, .inr (.inr ⟨_, h1, hlast _ _, rfl⟩)⟩
  rcases h with ⟨rfl, rfl⟩ | ⟨rfl, rfl⟩ | ⟨i, hi, hr, rfl⟩
  · obtain rfl : cs = [] := by simpa using hl
    by_cases h0 : n = 0
    · subst h0
      obtain rfl : ys = [] := by simpa using hy
      exact ⟨_, _, ⟨⟨g, rfl⟩, by simp, .inl ⟨rfl, rfl⟩⟩, fun loc ts => by rw [appR_nil, if_pos rfl]⟩
    · refine ⟨_, _, fresh (σ0 ++ g) _ (by simp) ⟨g, rfl⟩ rfl, fun loc ts => ?_⟩
      rw [appR_nil, if_neg h0, if_pos (by omega), mkA_glob]
      simp
  · obtain rfl : cs = [] := by simpa using hl
    by_cases h0 : n = 0
    · subst h0
      obtain rfl : ys = [] := by simpa using hy
      exact ⟨_, _, ⟨⟨g, rfl⟩, by simp, .inr (.inl ⟨rfl, rfl⟩)⟩, fun loc ts => by rw [appR_is, if_pos (by simp), if_pos rfl]⟩
    · refine ⟨_, _, fresh (σ0 ++ g) _ (by simp) ⟨g, rfl⟩ rfl, fun loc ts => ?_⟩
      rw [appR_is, if_pos (by simp), if_neg h0, if_pos (by omega), mkA_glob]
  · have hset : (σ0 ++ g).set i none = σ0 ++ g.set (i - σ0.length) none := by rw [List.set_append_right _ _ hi]
    refine ⟨_, _, fresh (σ0 ++ g.set (i - σ0.length) none) _ (by simp) ⟨_, rfl⟩ rfl, fun loc ts => ?_⟩
    rw [appR_gs, hr, appG_some, if_pos ⟨hl, rfl, hlim⟩, if_pos ⟨rfl, hall⟩, mkA_glob, hset]

theorem okC_in {cs : List Int} (h : okC cs) (i : Nat) (hi : i < 13) : 0 ≤ cs.getD i 0 ∧ cs.getD i 0 < 4294967296 := by
  have := h i hi
  unfold okAt leastF mostF at this
  repeat' split at this
  all_goals omega
theorem u_ok (l : List Int) : (l.map U).all cellOk = true := by
  rw [List.all_eq_true]
  intro x hx
  obtain ⟨n, _, rfl⟩ := List.mem_map.1 hx
  rfl

/-- A configuration's bytes. -/
def headOf (cs : List Int) : List Int := (cs.map (bytesOf 4)).flatten
theorem headN_len (cs : List Int) : (headOf cs).length = cs.length * 4 := by
  induction cs with
  | nil => rfl
  | cons x cs ih => simp only [headOf, List.map_cons, List.flatten_cons, List.length_append, List.length_cons, bytesOf_len] at ih ⊢; omega
theorem headOf_take {cs : List Int} {i : Nat} (h : i < cs.length) : headOf (cs.take i) ++ bytesOf 4 (cs.getD i 0) = headOf (cs.take (i + 1)) := by
  unfold headOf
  rw [List.take_add_one, List.getElem?_eq_getElem h, List.map_append, List.flatten_append]
  congr 1
  simp [List.getD, h]

theorem Encode_bad (cs : List Int) (hl : cs.length = 13) (hc : ¬ okC cs) (l : AV) (σ : Store) : Ans ES 9 [.agg (cs.map I), l] σ (Is (.tup [nilS, I 7]) σ) := by
  refine w9 1000 ?_
  repeat' first | with_reducible refine CondK_split (fun h => ?_) (fun h => ?_) | with_reducible refine gdK_dec (fun h => ?_) (fun h => ?_) | with_reducible refine GuardK_dec (fun h => ?_) (fun h => ?_) | with_reducible refine WP_draw ?_ | with_reducible refine WP_drw_end (by kernel_rfl) ?_ | simp (disch := first | omega | (simp only [List.length_append, List.length_cons, List.length_nil, List.length_set, List.length_map, List.length_replicate, List.length_drop, List.length_take] <;> omega) | assumption) only [go_sem, Nat.reduceBEq, Nat.reduceAdd, Nat.reduceSub, Nat.reduceMul, Nat.reduceLT, Nat.reduceLeDiff, Nat.reduceEqDiff, Int.reduceAdd, Int.reduceSub, Int.reduceMul, Int.reduceLT, Int.reduceLE, Int.reduceNeg, Int.reduceToNat, Int.reduceEq, Int.reduceNe, Nat.reducePow, Int.reducePow, Int.reduceDiv, Int.reduceMod, Tryz.f9]
  refine (Right_ok cs hl σ).mono ?_
  rintro r σ' ⟨rfl, rfl⟩
  repeat' first | with_reducible refine CondK_split (fun h => ?_) (fun h => ?_) | with_reducible refine gdK_dec (fun h => ?_) (fun h => ?_) | with_reducible refine GuardK_dec (fun h => ?_) (fun h => ?_) | with_reducible refine WP_draw ?_ | with_reducible refine WP_drw_end (by kernel_rfl) ?_ | simp (disch := first | omega | (simp only [List.length_append, List.length_cons, List.length_nil, List.length_set, List.length_map, List.length_replicate, List.length_drop, List.length_take] <;> omega) | assumption) only [go_sem, Nat.reduceBEq, Nat.reduceAdd, Nat.reduceSub, Nat.reduceMul, Nat.reduceLT, Nat.reduceLeDiff, Nat.reduceEqDiff, Int.reduceAdd, Int.reduceSub, Int.reduceMul, Int.reduceLT, Int.reduceLE, Int.reduceNeg, Int.reduceToNat, Int.reduceEq, Int.reduceNe, Nat.reducePow, Int.reducePow, Int.reduceDiv, Int.reduceMod, hc]

theorem Encode_nil (cs : List Int) (hl : cs.length = 13) (hc : okC cs) (σ : Store) : Ans ES 9 [.agg (cs.map I), nilS] σ (fun r σ' => ∃ v, r = .tup [v, I 0] ∧ OutG σ σ' 1 (.v v) ((headOf cs).map U) 52) := by
  refine w9 1000 ?_
  repeat' first | with_reducible refine CondK_split (fun h => ?_) (fun h => ?_) | with_reducible refine gdK_dec (fun h => ?_) (fun h => ?_) | with_reducible refine GuardK_dec (fun h => ?_) (fun h => ?_) | with_reducible refine WP_draw ?_ | with_reducible refine WP_drw_end (by kernel_rfl) ?_ | simp (disch := first | omega | (simp only [List.length_append, List.length_cons, List.length_nil, List.length_set, List.length_map, List.length_replicate, List.length_drop, List.length_take] <;> omega) | assumption) only [go_sem, Nat.reduceBEq, Nat.reduceAdd, Nat.reduceSub, Nat.reduceMul, Nat.reduceLT, Nat.reduceLeDiff, Nat.reduceEqDiff, Int.reduceAdd, Int.reduceSub, Int.reduceMul, Int.reduceLT, Int.reduceLE, Int.reduceNeg, Int.reduceToNat, Int.reduceEq, Int.reduceNe, Nat.reducePow, Int.reducePow, Int.reduceDiv, Int.reduceMod, Tryz.f9]
  refine (Right_ok cs hl σ).mono ?_
  rintro r σ ⟨rfl, rfl⟩
  repeat' first | with_reducible refine CondK_split (fun h => ?_) (fun h => ?_) | with_reducible refine gdK_dec (fun h => ?_) (fun h => ?_) | with_reducible refine GuardK_dec (fun h => ?_) (fun h => ?_) | with_reducible refine WP_draw ?_ | with_reducible refine WP_drw_end (by kernel_rfl) ?_ | simp (disch := first | omega | (simp only [List.length_append, List.length_cons, List.length_nil, List.length_set, List.length_map, List.length_replicate, List.length_drop, List.length_take] <;> omega) | assumption) only [go_sem, Nat.reduceBEq, Nat.reduceAdd, Nat.reduceSub, Nat.reduceMul, Nat.reduceLT, Nat.reduceLeDiff, Nat.reduceEqDiff, Int.reduceAdd, Int.reduceSub, Int.reduceMul, Int.reduceLT, Int.reduceLE, Int.reduceNeg, Int.reduceToNat, Int.reduceEq, Int.reduceNe, Nat.reducePow, Int.reducePow, Int.reduceDiv, Int.reduceMod, hc]
  refine WP_loop (fun j s => ∃ (i : Nat) (v : AV) (σ' : Store), j = 13 - i ∧ i ≤ 13 ∧ OutG σ σ' 1 (.v v) ((headOf (cs.take i)).map U) (4 * i) ∧ s = h9 σ' [] (.v nilS) (.v (.ip (cs.map I))) (.v v) (.v (I i)) undefT) 13 ?_ (by omega) ?_
  · exact ⟨0, _, σ, rfl, by omega, ⟨⟨[], by simp⟩, by simp [headOf], .inr (.inl ⟨rfl, rfl⟩)⟩, by simp [k9]⟩
  rintro j s hj ⟨i, v, σ', rfl, hi, ho, rfl⟩
  by_cases hi13 : i < 13
  · have hci := okC_in hc i hi13
    repeat' first | with_reducible refine CondK_split (fun h => ?_) (fun h => ?_) | with_reducible refine gdK_dec (fun h => ?_) (fun h => ?_) | with_reducible refine GuardK_dec (fun h => ?_) (fun h => ?_) | with_reducible refine WP_draw ?_ | with_reducible refine WP_drw_end (by kernel_rfl) ?_ | simp (disch := first | omega | (simp only [List.length_append, List.length_cons, List.length_nil, List.length_set, List.length_map, List.length_replicate, List.length_drop, List.length_take] <;> omega) | assumption) only [go_sem, Nat.reduceBEq, Nat.reduceAdd, Nat.reduceSub, Nat.reduceMul, Nat.reduceLT, Nat.reduceLeDiff, Nat.reduceEqDiff, Int.reduceAdd, Int.reduceSub, Int.reduceMul, Int.reduceLT, Int.reduceLE, Int.reduceNeg, Int.reduceToNat, Int.reduceEq, Int.reduceNe, Nat.reducePow, Int.reducePow, Int.reduceDiv, Int.reduceMod]
    refine (Bytes_ok (cs.getD i 0) 4 (by omega) (by omega) (by omega) σ').mono ?_
    rintro r σ2 ⟨rfl, hr⟩
    obtain ⟨v', σ3, ho', ha⟩ := ho.app ((bytesOf 4 (cs.getD i 0)).map U) 4 (by simp [bytesOf_len]) (u_ok _) (by omega)
    have e6 := fun loc ts => hr.rdS (loc := loc) (ts := ts)
    repeat' first | with_reducible refine CondK_split (fun h => ?_) (fun h => ?_) | with_reducible refine gdK_dec (fun h => ?_) (fun h => ?_) | with_reducible refine GuardK_dec (fun h => ?_) (fun h => ?_) | with_reducible refine WP_draw ?_ | with_reducible refine WP_drw_end (by kernel_rfl) ?_ | simp (disch := first | omega | (simp only [List.length_append, List.length_cons, List.length_nil, List.length_set, List.length_map, List.length_replicate, List.length_drop, List.length_take] <;> omega) | assumption) only [go_sem, Nat.reduceBEq, Nat.reduceAdd, Nat.reduceSub, Nat.reduceMul, Nat.reduceLT, Nat.reduceLeDiff, Nat.reduceEqDiff, Int.reduceAdd, Int.reduceSub, Int.reduceMul, Int.reduceLT, Int.reduceLE, Int.reduceNeg, Int.reduceToNat, Int.reduceEq, Int.reduceNe, Nat.reducePow, Int.reducePow, Int.reduceDiv, Int.reduceMod, ha, e6]
    refine ⟨13 - (i + 1), by omega, i + 1, v', σ3, rfl, by omega, ?_, by simp [k9]⟩
    rw [← List.map_append, headOf_take (by omega)] at ho'
    exact ho'
  · obtain rfl : i = 13 := by omega
    repeat' first | with_reducible refine CondK_split (fun h => ?_) (fun h => ?_) | with_reducible refine gdK_dec (fun h => ?_) (fun h => ?_) | with_reducible refine GuardK_dec (fun h => ?_) (fun h => ?_) | with_reducible refine WP_draw ?_ | with_reducible refine WP_drw_end (by kernel_rfl) ?_ | simp (disch := first | omega | (simp only [List.length_append, List.length_cons, List.length_nil, List.length_set, List.length_map, List.length_replicate, List.length_drop, List.length_take] <;> omega) | assumption) only [go_sem, Nat.reduceBEq, Nat.reduceAdd, Nat.reduceSub, Nat.reduceMul, Nat.reduceLT, Nat.reduceLeDiff, Nat.reduceEqDiff, Int.reduceAdd, Int.reduceSub, Int.reduceMul, Int.reduceLT, Int.reduceLE, Int.reduceNeg, Int.reduceToNat, Int.reduceEq, Int.reduceNe, Nat.reducePow, Int.reducePow, Int.reduceDiv, Int.reduceMod, WP_unroll, WP_lp]
    have ht : cs.take 13 = cs := by rw [← hl, List.take_length]
    rw [ht] at ho
    exact ⟨_, rfl, ho⟩
end Go.Abs
