/- An abstract reading of the program, and what it answers. By an AI agent. -/
import Derived.Test.YtkbgehhnimpleaaGreatDoorSFacts
set_option linter.all false
set_option maxRecDepth 10000
set_option maxHeartbeats 2000000
namespace Go.Abs
open Go.Proofs

def leastF (k : Int) : Int := if k = 5 then 0 else if k = 6 then 0 else if k = 7 then 0 else if k = 11 then 0 else if k = 12 then 0 else 1
def mostF (k : Int) : Int := if k = 0 then 64 else if k = 1 then 8 else if k = 2 then 6 else if k = 3 then 4096 else if k = 4 then 8192 else if k = 6 then 4294967295 else if k = 7 then 256 else if k = 12 then 31 else 1073741823

theorem least_ok (k : Int) (σ : Store) : Ans ES 55 [.sc (.int .i64 k)] σ (Is (.sc (.int .i64 (leastF k))) σ) := by
  refine w55 100 ?_
  repeat' first | with_reducible refine CondK_split (fun h => ?_) (fun h => ?_) | with_reducible refine gdK_dec (fun h => ?_) (fun h => ?_) | with_reducible refine GuardK_dec (fun h => ?_) (fun h => ?_) | with_reducible refine WP_draw ?_ | with_reducible refine WP_drw_end (by kernel_rfl) ?_ | simp (disch := first | omega | (simp only [List.length_append, List.length_cons, List.length_nil, List.length_set, List.length_map, List.length_replicate, List.length_drop, List.length_take] <;> omega) | assumption) only [WP_nil, WP_seq, WP_skip, WP_ret, WP_code_ret, WP_blk_normal, WP_blk_ret, WP_block, WP_cond, CondK_dt, WP_region, WP_ops_nil, WP_op, arK_val, Fin_ret, FinK_some, put_some, opd_tmp, opd_const, ofV_int, avOf_v, tg0, tg1, tg2, tg3, tg4, tg5, tg6, tg7, tg8, ts0, ts1, ts2, ts3, ts4, ts5, ts6, ts7, ts8, aop_move, aop_assign, aop_binOp, bin_eql, avOpd, frzO, frzT_v, ares, aresL, Option.map_some, Option.bind_some, ES_P, Option.bind_some, bodyOf, Option.getD_some, Tryz.f55]
  all_goals simp [Is, leastF, *]
theorem most_ok (k : Int) (σ : Store) : Ans ES 56 [.sc (.int .i64 k)] σ (Is (.sc (.int .i64 (mostF k))) σ) := by
  refine w56 100 ?_
  repeat' first | with_reducible refine CondK_split (fun h => ?_) (fun h => ?_) | with_reducible refine gdK_dec (fun h => ?_) (fun h => ?_) | with_reducible refine GuardK_dec (fun h => ?_) (fun h => ?_) | with_reducible refine WP_draw ?_ | with_reducible refine WP_drw_end (by kernel_rfl) ?_ | simp (disch := first | omega | (simp only [List.length_append, List.length_cons, List.length_nil, List.length_set, List.length_map, List.length_replicate, List.length_drop, List.length_take] <;> omega) | assumption) only [WP_nil, WP_seq, WP_skip, WP_ret, WP_code_ret, WP_blk_normal, WP_blk_ret, WP_block, WP_cond, WP_region, WP_ops_nil, WP_op, arK_val, Fin_ret, FinK_some, put_some, opd_tmp, opd_const, ofV_int, avOf_v, tg0, tg1, tg2, tg3, tg4, tg5, tg6, tg7, tg8, ts0, ts1, ts2, ts3, ts4, ts5, ts6, ts7, ts8, aop_move, aop_assign, aop_binOp, bin_eql, avOpd, frzO, frzT_v, ares, aresL, Option.map_some, Option.bind_some, ES_P, Option.bind_some, bodyOf, Option.getD_some, Tryz.f56]
  all_goals simp [Is, mostF, *]

def okAt (cs : List Int) (i : Nat) : Prop := leastF i ≤ cs.getD i 0 ∧ cs.getD i 0 ≤ mostF i
instance (cs : List Int) (i : Nat) : Decidable (okAt cs i) := by unfold okAt; infer_instance
/-- A configuration that may be. -/
def okC (cs : List Int) : Prop := ∀ i, i < 13 → okAt cs i
instance (cs : List Int) : Decidable (okC cs) := by unfold okC; infer_instance

theorem Check_ok (cs : List Int) (hl : cs.length = 13) (σ : Store) : Ans ES 37 [.agg (cs.map I)] σ (fun r σ' => σ' = σ ∧ ∃ i k : Int, r = .tup [I i, I k] ∧ (k = 0 ↔ okC cs)) := by
  refine w37 100 ?_
  repeat' first | with_reducible refine CondK_split (fun h => ?_) (fun h => ?_) | with_reducible refine gdK_dec (fun h => ?_) (fun h => ?_) | with_reducible refine GuardK_dec (fun h => ?_) (fun h => ?_) | with_reducible refine WP_draw ?_ | with_reducible refine WP_drw_end (by kernel_rfl) ?_ | simp (disch := first | omega | (simp only [List.length_append, List.length_cons, List.length_nil, List.length_set, List.length_map, List.length_replicate, List.length_drop, List.length_take] <;> omega) | assumption) only [WP_seq, WP_block, WP_region, WP_ops_nil, WP_op, arK_val, put_some, opd_tmp, opd_const, ofV_int, tg0, ts1, ts2, ts3, ts4, aop_assign, aop_box, mkP_dt, frzO, frzT_v, Option.map_some, Option.bind_some, co_agg, I, Option.bind_some, bodyOf, Option.getD_some, m37_1, Tryz.f37]
  refine WP_loop (fun j s => ∃ i : Nat, j = 13 - i ∧ i ≤ 13 ∧ (∀ m, m < i → okAt cs m) ∧ s = h37 σ [] (.v (.ip (cs.map I))) (.v (I i))) 13 ?_ (by omega) ?_
  · exact ⟨0, rfl, by omega, fun m hm => by omega, rfl⟩
  rintro j s hj ⟨i, rfl, hi, hok, rfl⟩
  repeat' first | with_reducible refine CondK_split (fun h => ?_) (fun h => ?_) | with_reducible refine gdK_dec (fun h => ?_) (fun h => ?_) | with_reducible refine GuardK_dec (fun h => ?_) (fun h => ?_) | with_reducible refine WP_draw ?_ | with_reducible refine WP_drw_end (by kernel_rfl) ?_ | simp (disch := first | omega | (simp only [List.length_append, List.length_cons, List.length_nil, List.length_set, List.length_map, List.length_replicate, List.length_drop, List.length_take] <;> omega) | assumption) only [WP_nil, WP_seq, WP_skip, WP_ret, WP_exit, WP_code_ret, WP_code_exit, WP_blk_normal, WP_blk_ret, WP_blk_ex, blkK_t, Nat.reduceBEq, WP_block, WP_cond, CondK_t, WP_region, WP_ops_nil, WP_op, arK_val, AfterD_eq, LoopQ_normal, LoopQ_ret, LoopQ_exit, Fin_ret, FinK_some, put_some, opd_tmp, opd_const, opd_func, ofV_int, ofV_bool, avOf_v, tg0, tg1, tg2, tg3, tg4, tg5, tg6, tg7, tg8, ts0, ts1, ts2, ts3, ts4, ts5, ts6, ts7, ts8, aop_move, aop_assign, pickB_dt, pickB_df, aop_binOp, ld_ip, ldV_f, bin_add, bin_lss, bin_gtr, not_decide', intOpd, avOpd, frzO, frzT_v, awanted, ares, aresL, aindex_eq, ixU_a, ixA_some, addP_ip, wrap_i64, List.cons_append, List.nil_append, List.append_nil, Option.map_some, Option.bind_some, mapM_c, mapM_n, ES_P, WP_drw_n, WP_drw_g, gdK_dt, gdK_df, DT_move, DT_pick, DT_binOp, DT_indexAddr, DT_load, DT_call, qK_some, ldK_some, dcK_some, acq_fn, prefrz, beq_f, ite_t, ite_f, eq_self, I, arr_get, og0, og1, List.getElem?_drop, List.getElem?_map, getq, Option.isNone_none, Bool.and_self, Nat.add_zero, Nat.mul_one, Int.toNat_natCast, Option.bind_some, s3, g3, u23, c55, c56, h37, k37, t55, t56, (least_ok _ _).eq, (most_ok _ _).eq]
  · refine ⟨trivial, i, 7, rfl, ?_⟩
    simp only [show ¬ (7 : Int) = 0 by decide, false_iff]
    intro hc
    have := hc i (by omega)
    unfold okAt at this
    omega
  · refine ⟨13 - (i + 1), by omega, i + 1, rfl, by omega, ?_, by simp []⟩
    intro m hm
    by_cases hmi : m = i
    · subst hmi; unfold okAt; omega
    · exact hok m (by omega)
  · refine ⟨trivial, i, 7, rfl, ?_⟩
    simp only [show ¬ (7 : Int) = 0 by decide, false_iff]
    intro hc
    have := hc i (by omega)
    unfold okAt at this
    omega
  · refine ⟨trivial, 0, 0, rfl, ?_⟩
    simp only [true_iff]
    exact fun m hm => hok m (by omega)

theorem Right_ok (cs : List Int) (hl : cs.length = 13) (σ : Store) : Ans ES 16 [.agg (cs.map I)] σ (Is (.sc (.bool (decide (okC cs)))) σ) := by
  refine w16 100 ?_
  repeat' first | with_reducible refine CondK_split (fun h => ?_) (fun h => ?_) | with_reducible refine gdK_dec (fun h => ?_) (fun h => ?_) | with_reducible refine GuardK_dec (fun h => ?_) (fun h => ?_) | with_reducible refine WP_draw ?_ | with_reducible refine WP_drw_end (by kernel_rfl) ?_ | simp (disch := first | omega | (simp only [List.length_append, List.length_cons, List.length_nil, List.length_set, List.length_map, List.length_replicate, List.length_drop, List.length_take] <;> omega) | assumption) only [WP_seq, WP_region, WP_ops_nil, WP_op, arK_val, arK_call, put_some, opd_tmp, opd_const, opd_func, ofV_bool, avOf_v, tg0, tg1, tg6, ts1, ts2, ts6, aop_assign, aop_box, aop_load, aop_call, callR_fn, mkP_dt, ld_ip, ldV_t, avOpd, frzO, frzL, frzT_v, acall, List.nil_append, List.append_nil, Option.map_some, Option.bind_some, ES_P, window_all, ite_t, co_agg, eq_self, I, List.getElem?_map, getq, Option.bind_some, bodyOf, Option.getD_some, s23, g23, m16_1, c37, t37, Tryz.f16]
  refine (Check_ok cs hl σ).mono ?_
  rintro r σ' ⟨rfl, i, k, rfl, hk⟩
  repeat' first | with_reducible refine CondK_split (fun h => ?_) (fun h => ?_) | with_reducible refine gdK_dec (fun h => ?_) (fun h => ?_) | with_reducible refine GuardK_dec (fun h => ?_) (fun h => ?_) | with_reducible refine WP_draw ?_ | with_reducible refine WP_drw_end (by kernel_rfl) ?_ | simp (disch := first | omega | (simp only [List.length_append, List.length_cons, List.length_nil, List.length_set, List.length_map, List.length_replicate, List.length_drop, List.length_take] <;> omega) | assumption) only [WP_nil, WP_seq, WP_ret, WP_region, WP_ops_nil, WP_op, arK_val, After_eq, Fin_ret, FinK_some, put_some, opd_tmp, opd_const, ofV_int, avOf_v, tg0, tg1, tg2, tg3, tg4, tg5, tg7, tg8, ts0, ts1, ts2, ts3, ts4, ts5, ts7, ts8, aop_move, aop_assign, aop_binOp, aop_extract, bin_eql, avOpd, frzO, frzT_v, ares, aresL, aextract, Option.map_some, Option.bind_some, ES_P, I, vg0, vg1, Option.bind_some]
  simp [Is, hk]

theorem ex13 {cs : List Int} (hl : cs.length = 13) : ∃ a b c d e f g h i j k l m, cs = [a, b, c, d, e, f, g, h, i, j, k, l, m] := by
  match cs, hl with
  | [a, b, c, d, e, f, g, h, i, j, k, l, m], _ => exact ⟨a, b, c, d, e, f, g, h, i, j, k, l, m, rfl⟩

theorem Of3_ok (cs : List Int) (hl : cs.length = 13) (σ : Store) : Ans ES 12 [.agg (cs.map I)] σ (Is (.agg (cs.map I)) σ) := by
  obtain ⟨a, b, c, d, e, f, g, h, i, j, k, l, m, rfl⟩ := ex13 hl
  clear hl
  refine w12 100 ?_
  repeat' first | with_reducible refine CondK_split (fun h => ?_) (fun h => ?_) | with_reducible refine gdK_dec (fun h => ?_) (fun h => ?_) | with_reducible refine GuardK_dec (fun h => ?_) (fun h => ?_) | with_reducible refine WP_draw ?_ | with_reducible refine WP_drw_end (by kernel_rfl) ?_ | simp (disch := first | omega | (simp only [List.length_append, List.length_cons, List.length_nil, List.length_set, List.length_map, List.length_replicate, List.length_drop, List.length_take] <;> omega) | assumption) only [WP_nil, WP_seq, WP_ret, WP_region, WP_ops_nil, WP_op, arK_val, arK_skip, Fin_ret, FinK_some, Is_self, put_some, put_none, opd_tmp, opd_const, ofV_int, tg0, tg1, tg2, tg3, tg4, tg5, tg6, tg7, tg8, ts0, ts1, ts2, ts3, ts4, ts5, ts6, ts7, ts8, aop_alloc, aop_box, aop_build, aop_load, aop_store, storeR_some, aop_indexAddr, mkP_dt, mkP_df, cellAt_some, rangeAt_some, ld_ip, ld_lp, ldV_f, ldV_t, spliceAt_some, wr_lp, intOpd, frzO, frzL, frzT_v, ares, aresL, aindex_eq, ixU_a, ixA_some, addP_ip, List.map_cons, List.map_nil, List.length_cons, List.length_nil, List.nil_append, Option.map_some, Option.bind_some, Nat.reduceAdd, Nat.reduceLT, Int.reduceLT, Int.reduceToNat, if_false, ES_P, window_all, ite_t, splice_eq, spliceC_all, List.all_cons, List.all_nil, ok_int, co_agg, ss0, List.zip_cons_cons, List.zip_nil_right, List.drop_succ_cons, List.drop_zero, eq_self, I, vg0, sg0, Bool.and_self, Nat.zero_add, Nat.mul_one, Option.bind_some, bodyOf, Option.getD_some, z29, s29, g29, s3, g3, u23, m12_1, m12_2, bb29_0_1_2_3_4_5_6_7_8_9_10_11_12, Tryz.f12]

theorem Of_ok (cs : List Int) (hl : cs.length = 13) (σ : Store) : Ans ES 23 [.agg (cs.map I)] σ (Is (.agg (cs.map I)) σ) := by
  obtain ⟨a, b, c, d, e, f, g, h, i, j, k, l, m, rfl⟩ := ex13 hl
  clear hl
  refine w23 100 ?_
  repeat' first | with_reducible refine CondK_split (fun h => ?_) (fun h => ?_) | with_reducible refine gdK_dec (fun h => ?_) (fun h => ?_) | with_reducible refine GuardK_dec (fun h => ?_) (fun h => ?_) | with_reducible refine WP_draw ?_ | with_reducible refine WP_drw_end (by kernel_rfl) ?_ | simp (disch := first | omega | (simp only [List.length_append, List.length_cons, List.length_nil, List.length_set, List.length_map, List.length_replicate, List.length_drop, List.length_take] <;> omega) | assumption) only [WP_nil, WP_seq, WP_ret, WP_region, WP_ops_nil, WP_op, arK_val, arK_skip, Fin_ret, FinK_some, Is_self, put_some, put_none, opd_tmp, opd_const, ofV_int, tg0, tg1, tg2, tg3, tg4, tg5, tg6, tg7, tg8, ts0, ts1, ts2, ts3, ts4, ts5, ts6, ts7, ts8, aop_alloc, aop_box, aop_build, aop_load, aop_store, storeR_some, aop_indexAddr, mkP_dt, mkP_df, cellAt_some, rangeAt_some, ld_ip, ld_lp, ldV_f, ldV_t, spliceAt_some, wr_lp, intOpd, frzO, frzL, frzT_v, ares, aresL, aindex_eq, ixU_a, ixA_some, addP_ip, List.map_cons, List.map_nil, List.length_cons, List.length_nil, List.nil_append, Option.map_some, Option.bind_some, Nat.reduceAdd, Nat.reduceLT, Int.reduceLT, Int.reduceToNat, if_false, ES_P, window_all, ite_t, splice_eq, spliceC_all, List.all_cons, List.all_nil, ok_int, co_agg, ss0, List.zip_cons_cons, List.zip_nil_right, List.drop_succ_cons, List.drop_zero, eq_self, I, vg0, sg0, Bool.and_self, Nat.zero_add, Nat.mul_one, Option.bind_some, bodyOf, Option.getD_some, z29, s29, g29, s3, g3, u22, bb29_0_1_2_3_4_5_6_7_8_9_10_11_12, m23_1, m23_2, Tryz.f23]

theorem List_ok (cs : List Int) (hl : cs.length = 13) (σ : Store) : Ans ES 39 [.agg (cs.map I)] σ (Is (.agg (cs.map I)) σ) := by
  obtain ⟨a, b, c, d, e, f, g, h, i, j, k, l, m, rfl⟩ := ex13 hl
  clear hl
  refine w39 100 ?_
  repeat' first | with_reducible refine CondK_split (fun h => ?_) (fun h => ?_) | with_reducible refine gdK_dec (fun h => ?_) (fun h => ?_) | with_reducible refine GuardK_dec (fun h => ?_) (fun h => ?_) | with_reducible refine WP_draw ?_ | with_reducible refine WP_drw_end (by kernel_rfl) ?_ | simp (disch := first | omega | (simp only [List.length_append, List.length_cons, List.length_nil, List.length_set, List.length_map, List.length_replicate, List.length_drop, List.length_take] <;> omega) | assumption) only [WP_nil, WP_seq, WP_ret, WP_region, WP_ops_nil, WP_op, arK_val, arK_skip, Fin_ret, FinK_some, Is_self, put_some, put_none, opd_tmp, tg0, tg1, tg2, tg3, tg4, tg5, tg6, tg7, tg8, ts0, ts1, ts2, ts3, ts4, ts5, ts6, ts7, ts8, aop_alloc, aop_box, aop_build, aop_load, aop_store, storeR_some, aop_fieldAddr, mkP_dt, mkP_df, cellAt_some, rangeAt_some, ld_ip, ld_lp, ldV_f, ldV_t, spliceAt_some, wr_lp, frzO, frzL, frzT_v, ares, aresL, addP_ip, List.map_cons, List.map_nil, List.length_cons, List.length_nil, List.nil_append, Option.map_some, Option.bind_some, Nat.reduceAdd, ES_P, window_all, ite_t, splice_eq, spliceC_all, List.all_cons, List.all_nil, ok_int, co_agg, ss0, List.zip_cons_cons, List.zip_nil_right, List.drop_succ_cons, List.drop_zero, eq_self, I, vg0, sg0, Bool.and_self, Nat.zero_add, Option.bind_some, bodyOf, Option.getD_some, s3, g3, z22, s22, g22, m39_1, m39_2, f29_0, f29_1, f29_2, f29_3, f29_4, f29_5, f29_6, f29_7, f29_8, f29_9, f29_10, f29_11, f29_12, bb22_0_1_2_3_4_5_6_7_8_9_10_11_12, Tryz.f39]
end Go.Abs
