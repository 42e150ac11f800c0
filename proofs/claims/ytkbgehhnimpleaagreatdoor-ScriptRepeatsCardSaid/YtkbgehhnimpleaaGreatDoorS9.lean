/- An abstract reading of the program, and what it answers. By an AI agent. -/
import Derived.Test.YtkbgehhnimpleaaGreatDoorS8
set_option linter.all false
set_option maxRecDepth 10000
namespace Go.Abs
open Go.Proofs Go.Script

def strV (l : List UInt8) : AV := .sc (.string ⟨l.toArray⟩)
def shapeV (op : Int) : AV := if op = 1 then strV [116, 97, 117] else if op = 2 then strV [110, 103] else if op = 3 then strV [110, 103, 116] else if op = 4 then strV [110, 103, 97] else strV []
theorem Shape_ok (k : Int) (σ : Store) : Ans ES 27 [I k] σ (Is (shapeV k) σ) := by
  refine w27 100 ?_
  repeat' first | with_reducible refine CondK_split (fun h => ?_) (fun h => ?_) | with_reducible refine gdK_dec (fun h => ?_) (fun h => ?_) | with_reducible refine GuardK_dec (fun h => ?_) (fun h => ?_) | with_reducible refine WP_draw ?_ | with_reducible refine WP_drw_end (by kernel_rfl) ?_ | simp (disch := first | omega | (simp only [List.length_append, List.length_cons, List.length_nil, List.length_set, List.length_map, List.length_replicate, List.length_drop, List.length_take] <;> omega) | assumption) only [WP_nil, WP_seq, WP_skip, WP_ret, WP_code_ret, WP_blk_normal, WP_blk_ret, WP_block, WP_cond, WP_region, WP_ops_nil, WP_op, arK_val, Fin_ret, FinK_some, put_some, opd_tmp, opd_const, ofV_int, ofV_str, avOf_v, tg0, tg1, tg2, tg3, tg4, tg5, tg6, tg7, tg8, ts0, ts1, ts2, ts3, ts4, ts5, ts6, ts7, ts8, aop_move, aop_assign, aop_binOp, bin_eql, avOpd, frzO, frzT_v, ares, aresL, Option.map_some, Option.bind_some, ES_P, I, Option.bind_some, bodyOf, Option.getD_some, Tryz.f27]
  all_goals simp [Is, shapeV, strV, *]
def slotOf (p : Int) : Nat := if p = 110 then 3 else if p = 103 then 4 else if p = 116 then 5 else if p = 97 then 6 else 7
theorem set_ok (a b c d e f g h : Int) (p n : Int) (σ : Store) : Ans ES 29 [.agg [I a, I b, I c, I d, I e, I f, I g, I h], U p, I n] σ (Is (.agg (List.map I (([a, b, c, d, e, f, g, h] : Ent).set (slotOf p) n))) σ) := by
  refine w29 100 ?_
  repeat' first | with_reducible refine CondK_split (fun h => ?_) (fun h => ?_) | with_reducible refine gdK_dec (fun h => ?_) (fun h => ?_) | with_reducible refine GuardK_dec (fun h => ?_) (fun h => ?_) | with_reducible refine WP_draw ?_ | with_reducible refine WP_drw_end (by kernel_rfl) ?_ | simp (disch := first | omega | (simp only [List.length_append, List.length_cons, List.length_nil, List.length_set, List.length_map, List.length_replicate, List.length_drop, List.length_take] <;> omega) | assumption) only [WP_nil, WP_seq, WP_ret, WP_blk_normal, WP_block, WP_cond, WP_region, WP_ops_nil, WP_op, arK_val, arK_skip, Fin_ret, FinK_some, put_some, put_none, opd_tmp, opd_const, ofV_int, avOf_v, tg0, tg1, tg2, tg3, tg4, tg5, tg6, tg7, tg8, ts0, ts1, ts2, ts3, ts4, ts5, ts6, ts7, ts8, aop_move, aop_assign, aop_alloc, aop_box, aop_load, aop_store, storeR_some, aop_binOp, aop_fieldAddr, mkP_df, mkP_loc, cellAt_some, rangeAt_some, ld_lp, ldV_t, spliceAt_some, wr_lp, bin_eql, avOpd, frzO, frzT_v, ares, aresL, addP_lp, List.length_cons, List.length_nil, List.cons_append, List.nil_append, Option.map_some, Option.bind_some, Nat.reduceAdd, ES_P, window_all, ite_t, splice_eq, spliceC_one, spliceC_all, List.all_cons, List.all_nil, ok_int, co_int, co_agg, vs0, vs1, ss0, ss1, eq_self, I, U, vg0, sg0, sg1, Bool.and_self, Nat.add_zero, Nat.zero_add, Option.bind_some, bodyOf, Option.getD_some, s3, s53, z53, g53, m29_3, m29_6, f53_3, f51_0, f51_1, f53_4, f53_5, f53_6, Tryz.f29]
  all_goals trace_state
  all_goals simp [Is, slotOf, *]
end Go.Abs
