/- An abstract reading of the program, and what it answers. By an AI agent. -/
import Derived.Test.YtkbgehhnimpleaaGreatDoorS1
set_option linter.all false
set_option maxRecDepth 10000
namespace Go.Abs
open Go.Proofs

def spansL : List AV := [.sc (.int .i64 1), .sc (.int .i64 64), .sc (.int .i64 1), .sc (.int .i64 8), .sc (.int .i64 1), .sc (.int .i64 6), .sc (.int .i64 1), .sc (.int .i64 4096), .sc (.int .i64 1), .sc (.int .i64 8192), .sc (.int .i64 0), .sc (.int .i64 1073741823), .sc (.int .i64 0), .sc (.int .i64 4294967295), .sc (.int .i64 0), .sc (.int .i64 256), .sc (.int .i64 1), .sc (.int .i64 1073741823), .sc (.int .i64 1), .sc (.int .i64 1073741823), .sc (.int .i64 1), .sc (.int .i64 1073741823), .sc (.int .i64 0), .sc (.int .i64 1073741823), .sc (.int .i64 0), .sc (.int .i64 31)]
theorem spansL_def : [.sc (.int .i64 1), .sc (.int .i64 64), .sc (.int .i64 1), .sc (.int .i64 8), .sc (.int .i64 1), .sc (.int .i64 6), .sc (.int .i64 1), .sc (.int .i64 4096), .sc (.int .i64 1), .sc (.int .i64 8192), .sc (.int .i64 0), .sc (.int .i64 1073741823), .sc (.int .i64 0), .sc (.int .i64 4294967295), .sc (.int .i64 0), .sc (.int .i64 256), .sc (.int .i64 1), .sc (.int .i64 1073741823), .sc (.int .i64 1), .sc (.int .i64 1073741823), .sc (.int .i64 1), .sc (.int .i64 1073741823), .sc (.int .i64 0), .sc (.int .i64 1073741823), .sc (.int .i64 0), .sc (.int .i64 31)] = spansL := rfl
theorem sp_lo (i : Nat) (h : i < 13) : spansL[i * 2]? = some (.sc (.int .i64 (leastF i))) := match i, h with
  | 0, _ => rfl
  | 1, _ => rfl
  | 2, _ => rfl
  | 3, _ => rfl
  | 4, _ => rfl
  | 5, _ => rfl
  | 6, _ => rfl
  | 7, _ => rfl
  | 8, _ => rfl
  | 9, _ => rfl
  | 10, _ => rfl
  | 11, _ => rfl
  | 12, _ => rfl
theorem sp_hi (i : Nat) (h : i < 13) : spansL[i * 2 + 1]? = some (.sc (.int .i64 (mostF i))) := match i, h with
  | 0, _ => rfl
  | 1, _ => rfl
  | 2, _ => rfl
  | 3, _ => rfl
  | 4, _ => rfl
  | 5, _ => rfl
  | 6, _ => rfl
  | 7, _ => rfl
  | 8, _ => rfl
  | 9, _ => rfl
  | 10, _ => rfl
  | 11, _ => rfl
  | 12, _ => rfl

theorem PCheck_ok (cs : List Int) (hl : cs.length = 13) (σ : Store) : Ans ES 24 [.agg (cs.map I)] σ (fun r σ' => σ' = σ ∧ ∃ i k : Int, r = .tup [I i, I k] ∧ k = (if okC cs then 0 else 7)) := by
  refine w24 100 ?_
  repeat' first | with_reducible refine CondK_split (fun h => ?_) (fun h => ?_) | with_reducible refine gdK_dec (fun h => ?_) (fun h => ?_) | with_reducible refine GuardK_dec (fun h => ?_) (fun h => ?_) | with_reducible refine WP_draw ?_ | with_reducible refine WP_drw_end (by kernel_rfl) ?_ | simp (disch := first | omega | (simp only [List.length_append, List.length_cons, List.length_nil, List.length_set, List.length_map, List.length_replicate, List.length_drop, List.length_take] <;> omega) | assumption) only [WP_seq, WP_block, WP_region, WP_ops_nil, WP_op, arK_val, arK_skip, arK_call, After_eq, put_some, put_none, opd_tmp, opd_const, opd_func, ofV_int, avOf_v, tg0, tg1, tg2, tg3, tg4, tg5, tg6, tg7, tg8, ts0, ts1, ts2, ts3, ts4, ts5, ts6, ts7, ts8, aop_move, aop_assign, aop_alloc, aop_box, aop_build, aop_load, aop_store, storeR_some, aop_call, callR_fn, mkP_dt, mkP_df, ld_ip, ldV_t, spliceAt_some, wr_lp, avOpd, frzO, frzL, frzT_v, acall, List.map_cons, List.map_nil, List.length_cons, List.length_nil, List.nil_append, List.append_nil, Option.map_some, Option.bind_some, Nat.reduceAdd, ES_P, window_all, ite_t, splice_eq, spliceC_all, List.all_cons, List.all_nil, ok_int, co_agg, ss0, List.zip_cons_cons, List.zip_nil_right, eq_self, I, sg0, List.getElem?_map, getq, Bool.and_self, Nat.zero_add, Option.bind_some, bodyOf, Option.getD_some, s29, g29, m24_1, bb98_0_1, bb99_0_1_2_3_4_5_6_7_8_9_10_11_12, z99, m24_4, s99, c39, t39, Tryz.f24, (List_ok cs hl _).eq]
  rw [spansL_def]
  refine WP_loop (fun j s => ∃ i : Nat, j = 13 - i ∧ i ≤ 13 ∧ (∀ m, m < i → okAt cs m) ∧ s = h24 σ [some spansL] (.lp 0 0) (.v (.agg (cs.map I))) (.v (I i))) 13 ?_ (by omega) ?_
  · exact ⟨0, rfl, by omega, fun m hm => by omega, rfl⟩
  rintro j s hj ⟨i, rfl, hi, hok, rfl⟩
  repeat' first | with_reducible refine CondK_split (fun h => ?_) (fun h => ?_) | with_reducible refine gdK_dec (fun h => ?_) (fun h => ?_) | with_reducible refine GuardK_dec (fun h => ?_) (fun h => ?_) | with_reducible refine WP_draw ?_ | with_reducible refine WP_drw_end (by kernel_rfl) ?_ | simp (disch := first | omega | (simp only [List.length_append, List.length_cons, List.length_nil, List.length_set, List.length_map, List.length_replicate, List.length_drop, List.length_take] <;> omega) | assumption) only [WP_nil, WP_seq, WP_skip, WP_ret, WP_exit, WP_code_ret, WP_code_exit, WP_blk_normal, WP_blk_ret, WP_blk_ex, blkK_t, Nat.reduceBEq, WP_block, WP_cond, CondK_t, WP_region, WP_ops_nil, WP_op, WP_guard, arK_val, LoopQ_normal, LoopQ_ret, LoopQ_exit, Fin_ret, FinK_some, put_some, opd_tmp, opd_const, ofV_int, ofV_bool, avOf_v, tg0, tg1, tg2, tg3, tg4, tg5, tg6, tg7, tg8, ts0, ts1, ts2, ts3, ts4, ts5, ts6, ts7, ts8, aop_move, aop_assign, aop_pick, pickB_dt, pickB_df, aop_load, aop_binOp, aop_fieldAddr, aop_indexAddr, aop_index, cellAt_some, ld_lp, ldV_f, bin_add, bin_lss, bin_gtr, not_decide', intOpd, avOpd, frzO, frzT_v, awanted, ares, aresL, aindex_eq, ixU_a, ixA_some, aindexV_agg, axU_a, axE_some, apart, addP_lp, wrap_i64, Option.map_some, Option.bind_some, ES_P, GuardK_dt, GuardK_df, beq_f, ite_t, ite_f, eq_self, I, arr_get, og0, og1, sg0, List.getElem?_map, getq, Nat.add_zero, Nat.zero_add, Nat.mul_one, Int.toNat_natCast, Option.bind_some, s3, g3, u22, u99, s98, f98_0, f98_1, h24, k24, sp_lo, sp_hi]
  · refine ⟨trivial, i, 7, rfl, ?_⟩
    rw [if_neg]
    intro hc
    have := hc i (by omega)
    unfold okAt at this
    omega
  · refine ⟨13 - (i + 1), by omega, i + 1, rfl, by omega, ?_, by simp []⟩
    intro m hm
    by_cases hmi : m = i
    · subst hmi; unfold okAt; omega
    · exact hok m (by omega)
  · refine ⟨trivial, i, 7, rfl, ?_⟩
    rw [if_neg]
    intro hc
    have := hc i (by omega)
    unfold okAt at this
    omega
  · refine ⟨trivial, 0, 0, rfl, ?_⟩
    rw [if_pos]
    exact fun m hm => hok m (by omega)
end Go.Abs
