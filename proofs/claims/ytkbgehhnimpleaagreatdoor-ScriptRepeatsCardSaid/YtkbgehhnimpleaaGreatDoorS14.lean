/- An abstract reading of the program, and what it answers. By an AI agent. -/
import Derived.Test.YtkbgehhnimpleaaGreatDoorS13
set_option linter.all false
set_option maxRecDepth 10000
namespace Go.Abs
open Go.Proofs Go.Script
attribute [local go_sem] WP_nil WP_seq WP_skip WP_ret WP_exit WP_label WP_scope WP_code_ret WP_code_exit WP_blk_normal WP_blk_ret WP_blk_ex
attribute [local go_sem] blkK_t blkK_f WP_lp_ret WP_lp_exit WP_block WP_cond CondK_t CondK_f CondK_dt CondK_df WP_region WP_ops_nil
attribute [local go_sem] WP_op WP_guard GuardK_t GuardK_f arK_val arK_skip arK_call After_eq AfterD_eq dvK_some LoopQ_normal LoopQ_ret
attribute [local go_sem] LoopQ_exit Fin_normal Fin_ret FinK_some Is_self put_some put_none opd_tmp opd_const opd_func ofV_int ofV_bool
attribute [local go_sem] ofV_str ofV_nilp ofV_nils ofV_nilf ofV_agg ofV_tup avOf_v avOf_lp avOf_ls tg0 tg1 tg2
attribute [local go_sem] tg3 tg4 tg5 tg6 tg7 tg8 ts0 ts1 ts2 ts3 ts4 ts5
attribute [local go_sem] ts6 ts7 ts8 aop_move aop_assign aop_pick pickB_t pickB_f pickB_dt pickB_df aop_alloc aop_box
attribute [local go_sem] aop_build aop_buildSlice aop_load aop_store storeR_some aop_nilCheck aop_binOp aop_unOp aop_convert aop_makeFunc aop_slice aop_fieldAddr
attribute [local go_sem] aop_field aop_indexAddr aop_index aop_extract aop_makeSlice aop_builtin aop_call callR_fn mkP_glob mkP_dt mkP_df mkP_loc
attribute [local go_sem] mkS_glob mkS_dflt mkS_loc mkA_glob mkA_dflt mkA_loc cellAt_some rangeAt_some cellAt_none cellAt_dead rangeAt_none rangeAt_dead
attribute [local go_sem] ld_ip ld_gp ld_lp ldV_f ldV_t spliceAt_some wr_gp wr_lp bin_add bin_sub bin_mul bin_quo
attribute [local go_sem] bin_rem bin_andK bin_orK bin_xorK bin_andNotK bin_shl bin_shr bin_eql bin_neq bin_lss bin_leq bin_gtr
attribute [local go_sem] bin_geq aun_not aun_neg not_decide' acvt intOpd avOpd optIdx frzO frzL frzT_v frzT_lp
attribute [local go_sem] frzT_ls frzL1_some frzL2_some freeze_mk sub_v sub_top sub_undef sub_lp sub_ls frzS_σ awanted ares
attribute [local go_sem] aresL acall abuiltin alen slen_nil slen_is slen_gs slen_ls aindex_eq ixU_s ixU_a ixE_some
attribute [local go_sem] ixA_some ixS_is ixS_gs ixS_ls aindexV_agg axU_a axE_some bsz List.size_toArray all_I all_U apart
attribute [local go_sem] aslice_eq slU_s slE_some addP_ip addP_gp addP_lp rdS_nil rdS_is rdS_gs rdS_ls sure aextract
attribute [local go_sem] wrap_i64 wrap_u8 wrap_u64 List.map_cons List.map_nil List.length_cons List.length_nil List.cons_append List.nil_append List.append_nil Option.map_some Option.map_none
attribute [local go_sem] Option.bind_some Option.bind_none mapM_c mapM_n if_true if_false decide_true decide_false Bool.false_eq_true Bool.true_eq_false Bool.not_true Bool.not_false
attribute [local go_sem] ES_P WP_drw_n WP_drw_g gdK_t gdK_f gdK_dt gdK_df GuardK_dt GuardK_df DT_move DT_assign DT_pick
attribute [local go_sem] DT_build DT_nilCheck DT_binOp DT_unOp DT_convert DT_makeFunc DT_slice DT_fieldAddr DT_field DT_indexAddr DT_index DT_extract
attribute [local go_sem] DT_len DT_load DT_boxK boxK_d DT_bslK bslK_d DT_alcK alcK_d DT_stK stK_v stS_some DT_apK
attribute [local go_sem] apK_some apS_some DT_makeSlice DT_call qK_some ldK_some frK_some alK_some arD_val arD_skip arD_call dcK_some
attribute [local go_sem] dcK_none acq_fn acq_none prefrz frzAll lkT_v lkT_lp beq_t beq_f bits_i64 bits_u64 bits_u8
attribute [local go_sem] fdiv_pos tdiv_pos tmod_pos toNat_add' orK_low andK3_u8 andK63 Nat.min_eq_left Nat.min_eq_right aappend_eq appE_some appS_some
attribute [local go_sem] get_app_l get_app_r set_app_l set_app_r Nat.sub_self window_all win_z win_s win_o ite_t ite_f splice_eq
attribute [local go_sem] spliceC_one spliceC_all List.all_cons List.all_nil ok_int ok_bool ok_str ok_nilf ok_nilp ok_nils ok_fn ok_ip
attribute [local go_sem] ok_is ok_gp ok_gs co_int co_bool co_str co_nilf co_nilp co_nils co_agg co_fn co_ip
attribute [local go_sem] co_is co_gp co_gs vs0 vs1 ss0 ss1 some_eq List.zip_cons_cons List.zip_nil_left List.zip_nil_right afill
attribute [local go_sem] List.take_succ_cons List.take_zero List.take_nil List.drop_succ_cons List.drop_zero List.drop_nil eq_self I U B nilS arr_get
attribute [local go_sem] List.getElem?_toArray og0 og1 vg0 vg1 vgn sg0 sg1 sgn List.getElem?_drop List.getElem?_map getq
attribute [local go_sem] Option.isNone_none Option.isNone_some Bool.and_true Bool.true_and Bool.and_self Nat.add_zero Nat.zero_add Nat.mul_one Int.toNat_natCast bodyOf Option.getD_some n3
attribute [local go_sem] t3 c3 m3_3 c8 u24 m3_19 s23 g23 c9 u3 a24_24 m3_35
attribute [local go_sem] c10 z29 m3_9 s29 c11 z23 m3_12 g29 c12 q29 hh29 s3
attribute [local go_sem] g3 c14 c13 t8 t9 t10 t11 t12 t13 t14 n4 t4
attribute [local go_sem] c4 m4_15 m4_3 c15 m4_8 u31 u41 m4_48 u30 m4_53 bb29_ t15
attribute [local go_sem] n5 t5 c5 m5_3 m5_20 c16 m5_36 m5_10 u45 m5_50 s5 z5
attribute [local go_sem] g5 m5_13 m5_73 m5_75 m5_83 s56 z56 g56 t16 n6 t6 c6
attribute [local go_sem] m6_4 m6_30 m6_43 bs24_0_ m6_45 m6_52 bs24_3_0_1_2 m6_53 m6_54 m6_56 u5 m6_66
attribute [local go_sem] sl24 m6_67 m6_75 m6_76 m6_15 m6_18 m6_98 h6 k6 n8 c19 m8_12
attribute [local go_sem] m8_13 m8_21 s9 z9 g9 u9 t19 n9 m9_2 u34 m9_15 m9_17
attribute [local go_sem] u23 z3 c20 m9_27 m9_30 s53 z53 g53 c21 m9_46 h9 k9
attribute [local go_sem] t20 t21 n10 m10_2 m10_15 z22 m10_5 c22 u22 s22 g22 c23
attribute [local go_sem] m10_7 c24 m10_42 c25 m10_55 m10_57 a30_30 m10_64 h10 k10 t22 t23
attribute [local go_sem] t24 t25 n11 m11_2 bb23_ m11_5 m11_23 m11_6 c26 m11_44 bs34_0_ m11_47
attribute [local go_sem] bb53_0 m11_12 bb53_0_1 bb53_0_1_2 c27 m11_96 c28 c29 m11_134 sl34 a34_34 m11_135
attribute [local go_sem] m11_137 h11 k11 t26 t27 t28 t29 n12 m12_1 m12_2 bb29_0_1_2_3_4_5_6_7_8_9_10_11_12 n13
attribute [local go_sem] m13_7 m13_9 m13_13 q53 hh53 q51 hh51 s51 g51 h13 k13 n14
attribute [local go_sem] m14_6 m14_8 m14_5 c30 m14_16 m14_17 h14 k14 t30 n15 m15_4 c31
attribute [local go_sem] c32 c33 u82 m15_33 s85 z85 g85 m15_10 c34 m15_41 sl41 a41_41
attribute [local go_sem] m15_42 c36 c35 m15_49 m15_50 h15 k15 t31 t32 t33 t34 t35
attribute [local go_sem] t36 n16 m16_1 c37 t37 n19 m19_0 bb23_0_1_2_3_4_5_6_7_8_9_10_11_12 n20 m20_7 m20_17 m20_18
attribute [local go_sem] h20 k20 n22 m22_10 h22 k22 n23 m23_1 m23_2 n24 m24_1 bb98_0_1
attribute [local go_sem] bb99_0_1_2_3_4_5_6_7_8_9_10_11_12 z99 m24_4 s99 c39 u99 s98 z98 g98 f98_0 f98_1 h24
attribute [local go_sem] k24 t39 n25 bb56_0 c45 bb56_0_1 bb56_0_1_2 m25_9 c46 u101 m25_58 s105
attribute [local go_sem] z105 g105 m25_11 f105_0 s103 g103 f105_1 m25_80 sl30 h25 k25 t45
attribute [local go_sem] t46 n26 m26_14 h26 k26 n27 n28 n29 m29_3 m29_6 f53_3 f51_0
attribute [local go_sem] f51_1 f53_4 f53_5 f53_6 n30 m30_1 m30_2 f56_0 f56_1 f56_2 f56_3 f54_0
attribute [local go_sem] f54_1 bb51_0_1 f56_4 f56_5 f56_6 bb53_0_1_2_3_4_5_6 n37 m37_1 c55 c56 h37 k37
attribute [local go_sem] t55 t56 n39 m39_1 m39_2 f29_0 f29_1 f29_2 f29_3 f29_4 f29_5 f29_6
attribute [local go_sem] f29_7 f29_8 f29_9 f29_10 f29_11 f29_12 bb22_0_1_2_3_4_5_6_7_8_9_10_11_12 n45 m45_2 m45_11 m45_12 h45
attribute [local go_sem] k45 n46 bb105_0_1 m46_3 m46_4 m46_5 m46_6 m46_7 m46_19 bs101_3_0_1_2 m46_24 bs101_2_0_1
attribute [local go_sem] m46_30 m46_36 n55 n56 n57 t57 c57 n58 t58 c58 n59 t59
attribute [local go_sem] c59 n60 t60 c60 n61 t61 c61

/-! Whole numbers all through: what is compared with itself is equal. -/
def isIntT (P : Program) (T : TypeId) : Bool := match P.underlying T with
  | some (.int _) => true
  | _ => false
def flat (P : Program) : Nat → TypeId → Nat → Bool
  | 0, _, _ => false
  | d + 1, T, n => match P.underlying T with
    | some (.struct fs) => !P.stoodInHeld T && fs.toList.all fun f => match isAggB P f.type with
      | some true => (match szOf P f.type with
        | some m => decide (f.offset + m ≤ n) && flat P d f.type m
        | none => false)
      | some false => decide (f.offset < n) && isIntT P f.type
      | none => false
    | _ => false

theorem int_self {P : Program} {T : TypeId} (h : isIntT P T = true) (d : Nat) (a : Int) : aeq P (d + 1) T (I a) (I a) = some true := by
  unfold isIntT at h
  simp only [aeq]
  split at h
  · rename_i hu
    rw [hu]
    simp [intEq]
  · cases h

theorem flat_self {P : Program} : ∀ (d : Nat) (T : TypeId) (n : Nat) (l : List Int), flat P d T n = true → l.length = n → 0 < d → aeq P (d + 1) T (.agg (l.map I)) (.agg (l.map I)) = some true
  | 0, T, n, l, h, hl, h0 => by omega
  | d + 1, T, n, l, h, hl, _ => by
    simp only [flat] at h
    rw [aeq]
    split at h
    · rename_i fs hu
      rw [hu]
      simp only [Bool.and_eq_true, Bool.not_eq_true'] at h
      simp only [h.1, Bool.false_eq_true, if_false, aggEq]
      have hall := h.2
      generalize fs.toList = fl at hall
      induction fl with
      | nil => rfl
      | cons f fl ih =>
        simp only [List.all_cons, Bool.and_eq_true] at hall
        have ih := ih hall.2
        simp only [eqF]
        split
        · have hf := hall.1
          split at hf
          · rename_i hg
            split at hf
            · rename_i m hm
              simp only [Bool.and_eq_true, decide_eq_true_eq] at hf
              simp only [apart, hg, hm]
              rw [← List.map_drop, ← List.map_take]
              cases d with
              | zero => simp [flat] at hf
              | succ d =>
                rw [flat_self (d + 1) f.type m _ hf.2 (by rw [List.length_take, List.length_drop]; omega) (by omega)]
                exact ih
            · cases hf
          · rename_i hg
            simp only [Bool.and_eq_true, decide_eq_true_eq] at hf
            simp only [apart, hg, List.getElem?_map]
            rw [List.getElem?_eq_getElem (by omega)]
            simp only [Option.map_some]
            rw [int_self hf.2]
            exact ih
          · cases hf
        · exact ih
    · cases h

theorem same_neq {P : Program} {T : TypeId} {n : Nat} (hq : ∀ cs, eqKind P T (.agg cs) = true) (hf : flat P 19 T n = true) (l : List Int) (hl : l.length = n) : abin P .neq T (.agg (l.map I)) (.agg (l.map I)) = some (B false) := by
  simp only [abin, aeqOp, hq, if_true, flat_self 19 T n l hf hl (by omega), Bool.not_true]
theorem same_eql {P : Program} {T : TypeId} {n : Nat} (hq : ∀ cs, eqKind P T (.agg cs) = true) (hf : flat P 19 T n = true) (l : List Int) (hl : l.length = n) : abin P .eql T (.agg (l.map I)) (.agg (l.map I)) = some (B true) := by
  simp only [abin, aeqOp, hq, if_true, flat_self 19 T n l hf hl (by omega)]

theorem flat53 : flat Tryz.prog 19 53 8 = true := by kernel_rfl
theorem flat29 : flat Tryz.prog 19 29 13 = true := by kernel_rfl

/-! An entry for an entry. -/
theorem ex8 {e : Ent} (h : e.length = 8) : ∃ a b c d x y z w, e = [a, b, c, d, x, y, z, w] := by
  match e, h with
  | [a, b, c, d, x, y, z, w], _ => exact ⟨a, b, c, d, x, y, z, w, rfl⟩

theorem to_ok (e : Ent) (h : e.length = 8) (σ : Store) : Ans ES 30 [.agg (e.map I)] σ (Is (.agg (e.map I)) σ) := by
  obtain ⟨a, b, c, d, x, y, z, w, rfl⟩ := ex8 h
  clear h
  refine w30 100 ?_
  repeat' first | with_reducible refine CondK_split (fun h => ?_) (fun h => ?_) | with_reducible refine gdK_dec (fun h => ?_) (fun h => ?_) | with_reducible refine GuardK_dec (fun h => ?_) (fun h => ?_) | with_reducible refine WP_draw ?_ | with_reducible refine WP_drw_end (by kernel_rfl) ?_ | simp (disch := first | omega | (simp only [List.length_append, List.length_cons, List.length_nil, List.length_set, List.length_map, List.length_replicate, List.length_drop, List.length_take] <;> omega) | assumption) only [go_sem, Nat.reduceBEq, Nat.reduceAdd, Nat.reduceSub, Nat.reduceMul, Nat.reduceLT, Nat.reduceLeDiff, Nat.reduceEqDiff, Int.reduceAdd, Int.reduceSub, Int.reduceMul, Int.reduceLT, Int.reduceLE, Int.reduceNeg, Int.reduceToNat, Int.reduceEq, Int.reduceNe, Nat.reducePow, Int.reducePow, Int.reduceDiv, Int.reduceMod, Tryz.f30]

def E8 (es : List Ent) : Prop := ∀ e ∈ es, e.length = 8
theorem ents_cons (e : Ent) (es : List Ent) : ents (e :: es) = e.map I ++ ents es := rfl
theorem ents_app (es fs : List Ent) : ents (es ++ fs) = ents es ++ ents fs := by simp [ents]
theorem ents_len {es : List Ent} (h : E8 es) : (ents es).length = es.length * 8 := by
  induction es with
  | nil => rfl
  | cons e es ih =>
    rw [ents_cons, List.length_append, ih (fun x hx => h x (by simp [hx])), List.length_map, h e (by simp), List.length_cons]
    omega
theorem ents_win : ∀ {es : List Ent} (_ : E8 es) {k : Nat} {e : Ent} (_ : es[k]? = some e), window (ents es) (k * 8) 8 = some (e.map I)
  | [], _, k, e, hk => by simp at hk
  | x :: es, h, 0, e, hk => by
    simp at hk
    subst hk
    have hx := h x (by simp)
    simp [window, ents_cons, hx]
  | x :: es, h, k + 1, e, hk => by
    have hx := h x (by simp)
    have h' : E8 es := fun y hy => h y (by simp [hy])
    have := ents_win h' (k := k) (e := e) (by simpa using hk)
    have hl := ents_len h'
    unfold window at this ⊢
    rw [ents_cons, List.length_append, List.length_map, hx]
    split at this
    · rw [if_pos (by omega)]
      rw [show (k + 1) * 8 = (x.map I).length + k * 8 by simp [hx]; omega, List.drop_append, List.drop_eq_nil_of_le (by simp)]
      simpa using this
    · cases this

theorem tos_ok {σ : Store} {v : AV} {es : List Ent} (hs : Sl σ 8 v (ents es) es.length) (h8 : E8 es) (hl : es.length ≤ 20000) : Ans ES 14 [v] σ (fun r σ' => σ' = σ ∧ Sl σ 8 r (ents es) es.length) := by
  have e1 := hs.sl
  have e2 := hs.ix
  refine w14 30000 ?_
  repeat' first | with_reducible refine CondK_split (fun h => ?_) (fun h => ?_) | with_reducible refine gdK_dec (fun h => ?_) (fun h => ?_) | with_reducible refine GuardK_dec (fun h => ?_) (fun h => ?_) | with_reducible refine WP_draw ?_ | with_reducible refine WP_drw_end (by kernel_rfl) ?_ | simp (disch := first | omega | (simp only [List.length_append, List.length_cons, List.length_nil, List.length_set, List.length_map, List.length_replicate, List.length_drop, List.length_take] <;> omega) | assumption) only [go_sem, Nat.reduceBEq, Nat.reduceAdd, Nat.reduceSub, Nat.reduceMul, Nat.reduceLT, Nat.reduceLeDiff, Nat.reduceEqDiff, Int.reduceAdd, Int.reduceSub, Int.reduceMul, Int.reduceLT, Int.reduceLE, Int.reduceNeg, Int.reduceToNat, Int.reduceEq, Int.reduceNe, Nat.reducePow, Int.reducePow, Int.reduceDiv, Int.reduceMod, Tryz.f14, e1]
  refine WP_loop (fun j s => ∃ (k : Nat) (t : TV) (tail : Store), j = es.length - k ∧ k ≤ es.length ∧ OutL tail 0 8 t (ents (es.take k)) k ∧ s = h14 σ tail t (.v v) (.v (I es.length)) (.v (I k))) es.length ?_ (by omega) ?_
  · exact ⟨0, _, [], rfl, by omega, .emp, by simp [k14]⟩
  rintro j s hj ⟨k, t, tail, rfl, hk, ho, rfl⟩
  by_cases hlt : k < es.length
  · have he : es[k]? = some es[k] := List.getElem?_eq_getElem hlt
    have h8k : (es[k]).length = 8 := h8 _ (List.getElem_mem hlt)
    have e3 := fun loc ts => hs.ldn (P := Tryz.prog) (e := 56) (loc := loc) (ts := ts) g56 s56 k hlt
    rw [ents_win h8 he] at e3
    generalize es[k] = e at he h8k e3
    obtain ⟨t', tail', ho', ha⟩ := (ho.more (some (e.map I))).app (pre := []) (e.map I) 1 (by simp [h8k]) (by simp [List.all_eq_true]; intro a _; rfl) (by omega)
    simp only [List.nil_append] at ha
    have et := fun σ => (to_ok e h8k σ).eq
    repeat' first | with_reducible refine CondK_split (fun h => ?_) (fun h => ?_) | with_reducible refine gdK_dec (fun h => ?_) (fun h => ?_) | with_reducible refine GuardK_dec (fun h => ?_) (fun h => ?_) | with_reducible refine WP_draw ?_ | with_reducible refine WP_drw_end (by kernel_rfl) ?_ | simp (disch := first | omega | (simp only [List.length_append, List.length_cons, List.length_nil, List.length_set, List.length_map, List.length_replicate, List.length_drop, List.length_take] <;> omega) | assumption) only [go_sem, Nat.reduceBEq, Nat.reduceAdd, Nat.reduceSub, Nat.reduceMul, Nat.reduceLT, Nat.reduceLeDiff, Nat.reduceEqDiff, Int.reduceAdd, Int.reduceSub, Int.reduceMul, Int.reduceLT, Int.reduceLE, Int.reduceNeg, Int.reduceToNat, Int.reduceEq, Int.reduceNe, Nat.reducePow, Int.reducePow, Int.reduceDiv, Int.reduceMod, e1, e2, e3, h8k, et, ha]
    refine ⟨es.length - (k + 1), by omega, k + 1, t', tail', rfl, by omega, ?_, by simp [k14]⟩
    rw [List.take_add_one, he, ents_app]
    simpa [ents] using ho'
  · obtain rfl : k = es.length := by omega
    have hf := ho.frz (pre := [])
    simp only [List.nil_append] at hf
    repeat' first | with_reducible refine CondK_split (fun h => ?_) (fun h => ?_) | with_reducible refine gdK_dec (fun h => ?_) (fun h => ?_) | with_reducible refine GuardK_dec (fun h => ?_) (fun h => ?_) | with_reducible refine WP_draw ?_ | with_reducible refine WP_drw_end (by kernel_rfl) ?_ | simp (disch := first | omega | (simp only [List.length_append, List.length_cons, List.length_nil, List.length_set, List.length_map, List.length_replicate, List.length_drop, List.length_take] <;> omega) | assumption) only [go_sem, Nat.reduceBEq, Nat.reduceAdd, Nat.reduceSub, Nat.reduceMul, Nat.reduceLT, Nat.reduceLeDiff, Nat.reduceEqDiff, Int.reduceAdd, Int.reduceSub, Int.reduceMul, Int.reduceLT, Int.reduceLE, Int.reduceNeg, Int.reduceToNat, Int.reduceEq, Int.reduceNe, Nat.reducePow, Int.reducePow, Int.reduceDiv, Int.reduceMod, hf]
    rw [List.take_length] at ho
    exact ⟨trivial, by simpa using ho.val σ⟩

theorem Sl.ldkA {E : Env} {f : FuncId} {n : Nat} {all : Array Oper} {o : Oper} {l : List Oper} {cls : List (Cls × Bool)} {k : List Item} {Q : AExit → St → Prop} {σ loc : Store} {ts : List TV} {e : TypeId} {v : AV} {cs : List AV} {len sz : Nat}
    (h : Sl σ sz v cs len) (hg : isAggB E.P e = some true) (hz : szOf E.P e = some sz) (m : Nat) (hm : m < len) (a : List AV) (ha : window cs (m * sz) sz = some a) :
    ldK E f n all o l cls k ⟨σ, loc, ts⟩ Q e (some (.v (elemP sz v m))) = WP E f n (.drw all l (cls ++ [(if immV v = true then .quiet else .load, false)]) :: k) .normal (St.put ⟨σ, loc, ts⟩ o.dst (.v (.agg a))) Q := by
  have hl := h.ldn (P := E.P) (e := e) (loc := loc) (ts := ts) hg hz m hm
  rw [ha] at hl
  rw [ldK_some]
  cases h with
  | nil => omega
  | @imm _ _ ex h =>
    have h2 : ld E.P ⟨[], [], ts⟩ e (.v (elemP sz (.is cs len ex) m)) = some (.agg a) := by
      have := (Sl.imm (σ := []) (sz := sz) (ex := ex) h).ldn (P := E.P) (e := e) (loc := []) (ts := ts) hg hz m hm
      rw [ha] at this
      exact this
    rw [h2]
    rfl
  | @glob id off _ cap all2 _ h2 h3 =>
    have : ld E.P ⟨[], [], ts⟩ e (.v (elemP sz (.gs id off len sz cap) m)) = none := by
      simp only [elemP, ld_gp, hg, hz, ldV_t]
      rfl
    rw [this, hl]
    rfl

theorem Same_ok {σ : Store} {v u : AV} {es : List Ent} (hs : Sl σ 8 v (ents es) es.length) (hu : Sl σ 8 u (ents es) es.length) (h8 : E8 es) (hl : es.length ≤ 20000) : Ans ES 13 [v, u] σ (Is (B true) σ) := by
  have e1 := hs.sl
  have e2 := hs.ix
  have u1 := hu.sl
  have u2 := hu.ix
  refine w13 30000 ?_
  repeat' first | with_reducible refine CondK_split (fun h => ?_) (fun h => ?_) | with_reducible refine gdK_dec (fun h => ?_) (fun h => ?_) | with_reducible refine GuardK_dec (fun h => ?_) (fun h => ?_) | with_reducible refine WP_draw ?_ | with_reducible refine WP_drw_end (by kernel_rfl) ?_ | simp (disch := first | omega | (simp only [List.length_append, List.length_cons, List.length_nil, List.length_set, List.length_map, List.length_replicate, List.length_drop, List.length_take] <;> omega) | assumption) only [go_sem, Nat.reduceBEq, Nat.reduceAdd, Nat.reduceSub, Nat.reduceMul, Nat.reduceLT, Nat.reduceLeDiff, Nat.reduceEqDiff, Int.reduceAdd, Int.reduceSub, Int.reduceMul, Int.reduceLT, Int.reduceLE, Int.reduceNeg, Int.reduceToNat, Int.reduceEq, Int.reduceNe, Nat.reducePow, Int.reducePow, Int.reduceDiv, Int.reduceMod, Tryz.f13, e1, u1]
  refine WP_loop (fun j s => ∃ (k : Nat), j = es.length - k ∧ k ≤ es.length ∧ s = h13 σ [] (.v v) (.v u) (.v (I k))) es.length ?_ (by omega) ?_
  · exact ⟨0, rfl, by omega, by simp [k13]⟩
  rintro j s hj ⟨k, rfl, hk, rfl⟩
  by_cases hlt : k < es.length
  · have he : es[k]? = some es[k] := List.getElem?_eq_getElem hlt
    have h8k : (es[k]).length = 8 := h8 _ (List.getElem_mem hlt)
    have hw := ents_win h8 he
    have e3 := fun f n all (o : Oper) l cls kk Q loc ts => hs.ldkA (E := ES) (f := f) (n := n) (all := all) (o := o) (l := l) (cls := cls) (k := kk) (Q := Q) (loc := loc) (ts := ts) (e := 53) (by rw [ES_P]; exact g53) (by rw [ES_P]; exact s53) k hlt _ hw
    have u3 := fun f n all (o : Oper) l cls kk Q loc ts => hu.ldkA (E := ES) (f := f) (n := n) (all := all) (o := o) (l := l) (cls := cls) (k := kk) (Q := Q) (loc := loc) (ts := ts) (e := 53) (by rw [ES_P]; exact g53) (by rw [ES_P]; exact s53) k hlt _ hw
    have hne := same_neq (P := Tryz.prog) (T := 53) q53 flat53 es[k] h8k
    generalize es[k] = e at he h8k e3 u3 hne
    cases hv : immV v <;> cases hvu : immV u
    all_goals
      repeat' first | with_reducible refine CondK_split (fun h => ?_) (fun h => ?_) | with_reducible refine gdK_dec (fun h => ?_) (fun h => ?_) | with_reducible refine GuardK_dec (fun h => ?_) (fun h => ?_) | with_reducible refine WP_draw ?_ | with_reducible refine WP_drw_end (by kernel_rfl) ?_ | simp (disch := first | omega | (simp only [List.length_append, List.length_cons, List.length_nil, List.length_set, List.length_map, List.length_replicate, List.length_drop, List.length_take] <;> omega) | assumption) only [go_sem, Nat.reduceBEq, Nat.reduceAdd, Nat.reduceSub, Nat.reduceMul, Nat.reduceLT, Nat.reduceLeDiff, Nat.reduceEqDiff, Int.reduceAdd, Int.reduceSub, Int.reduceMul, Int.reduceLT, Int.reduceLE, Int.reduceNeg, Int.reduceToNat, Int.reduceEq, Int.reduceNe, Nat.reducePow, Int.reducePow, Int.reduceDiv, Int.reduceMod, e1, e2, u1, u2, e3, u3, hv, hvu, hne]
      exact ⟨es.length - (k + 1), by omega, k + 1, rfl, by omega, by simp [k13]⟩
  · obtain rfl : k = es.length := by omega
    repeat' first | with_reducible refine CondK_split (fun h => ?_) (fun h => ?_) | with_reducible refine gdK_dec (fun h => ?_) (fun h => ?_) | with_reducible refine GuardK_dec (fun h => ?_) (fun h => ?_) | with_reducible refine WP_draw ?_ | with_reducible refine WP_drw_end (by kernel_rfl) ?_ | simp (disch := first | omega | (simp only [List.length_append, List.length_cons, List.length_nil, List.length_set, List.length_map, List.length_replicate, List.length_drop, List.length_take] <;> omega) | assumption) only [go_sem, Nat.reduceBEq, Nat.reduceAdd, Nat.reduceSub, Nat.reduceMul, Nat.reduceLT, Nat.reduceLeDiff, Nat.reduceEqDiff, Int.reduceAdd, Int.reduceSub, Int.reduceMul, Int.reduceLT, Int.reduceLE, Int.reduceNeg, Int.reduceToNat, Int.reduceEq, Int.reduceNe, Nat.reducePow, Int.reducePow, Int.reduceDiv, Int.reduceMod, e1, u1]
end Go.Abs
