/- An abstract reading of the program, and what it answers. By an AI agent. -/
import Derived.Test.YtkbgehhnimpleaaGreatDoorS2
import Derived.Test.YtkbgehhnimpleaaGreatDoorScSpec
set_option linter.all false
set_option maxRecDepth 10000
namespace Go.Abs
open Go.Proofs Go.Script

/-- Numbers that are bytes. -/
def Byt (bs : List Int) : Prop := ∀ (i : Nat), i < bs.length → 0 ≤ bs.getD i 0 ∧ bs.getD i 0 < 256

theorem getD_lt' {bs : List Int} {k : Nat} (h : k < bs.length) : bs.getD k 0 = bs[k] := by simp [List.getD, h]
theorem le_take4 {bs : List Int} {k : Nat} (h : k + 4 ≤ bs.length) : le ((bs.drop k).take 4) = bs.getD k 0 + 256 * (bs.getD (k + 1) 0 + 256 * (bs.getD (k + 2) 0 + 256 * bs.getD (k + 3) 0)) := by
  rw [List.drop_eq_getElem_cons (by omega), List.drop_eq_getElem_cons (i := k + 1) (by omega), List.drop_eq_getElem_cons (i := k + 1 + 1) (by omega), List.drop_eq_getElem_cons (i := k + 1 + 1 + 1) (by omega)]
  rw [getD_lt' (by omega), getD_lt' (by omega), getD_lt' (by omega), getD_lt' (by omega)]
  simp only [List.take_succ_cons, List.take_zero, le, Int.mul_zero, Int.add_zero]
theorem le_take2 {bs : List Int} {k : Nat} (h : k + 2 ≤ bs.length) : le ((bs.drop k).take 2) = bs.getD k 0 + 256 * bs.getD (k + 1) 0 := by
  rw [List.drop_eq_getElem_cons (by omega), List.drop_eq_getElem_cons (i := k + 1) (by omega)]
  rw [getD_lt' (by omega), getD_lt' (by omega)]
  simp only [List.take_succ_cons, List.take_zero, le, Int.mul_zero, Int.add_zero]
theorem le_take1 {bs : List Int} {k : Nat} (h : k + 1 ≤ bs.length) : le ((bs.drop k).take 1) = bs.getD k 0 := by
  rw [List.drop_eq_getElem_cons (by omega)]
  rw [getD_lt' (by omega)]
  simp only [List.take_succ_cons, List.take_zero, le, Int.mul_zero, Int.add_zero]

theorem number_4 {σ : Store} {v : AV} {bs : List Int} (hs : Sl σ 1 v (bs.map U) bs.length) (hb : Byt bs) (p : Int) (hp : 0 ≤ p) (h : p + 4 ≤ bs.length) (hl : bs.length < 2 ^ 40) :
    Ans ES 26 [v, I p, I 4] σ (Is (.tup [I (le ((bs.drop p.toNat).take 4)), B true]) σ) := by
  have e1 := hs.sl
  have e2 := hs.ix
  have e3 := fun loc ts m hm => hs.ld1 (loc := loc) (ts := ts) g5 m hm
  have b0 := hb p.toNat (by omega)
  have b1 := hb (p.toNat + 1) (by omega)
  have b2 := hb (p.toNat + 2) (by omega)
  have b3 := hb (p.toNat + 3) (by omega)
  rw [le_take4 (by omega)]
  refine w26 100 ?_
  repeat' first | with_reducible refine CondK_split (fun h => ?_) (fun h => ?_) | with_reducible refine gdK_dec (fun h => ?_) (fun h => ?_) | with_reducible refine GuardK_dec (fun h => ?_) (fun h => ?_) | with_reducible refine WP_draw ?_ | with_reducible refine WP_drw_end (by kernel_rfl) ?_ | simp (disch := first | omega | (simp only [List.length_append, List.length_cons, List.length_nil, List.length_set, List.length_map, List.length_replicate, List.length_drop, List.length_take] <;> omega) | assumption) only [WP_nil, WP_seq, WP_skip, WP_ret, WP_exit, WP_code_exit, WP_blk_normal, WP_blk_ex, blkK_t, Nat.reduceBEq, WP_lp_exit, WP_block, WP_cond, CondK_t, CondK_f, CondK_df, WP_region, WP_ops_nil, WP_op, arK_val, Fin_ret, FinK_some, put_some, opd_tmp, opd_const, ofV_int, ofV_bool, avOf_v, tg0, tg1, tg2, tg3, tg4, tg5, tg6, tg7, tg8, ts0, ts1, ts2, ts3, ts4, ts5, ts6, ts7, ts8, aop_move, aop_assign, aop_load, aop_binOp, aop_convert, aop_indexAddr, aop_builtin, bin_add, bin_sub, bin_mul, bin_gtr, bin_geq, acvt, intOpd, avOpd, frzO, frzT_v, ares, aresL, abuiltin, alen, aindex_eq, ixU_s, ixE_some, wrap_i64, Option.map_some, Option.bind_some, Int.reduceSub, Int.reduceMul, Int.reduceLE, Int.reduceNeg, Int.reduceToNat, decide_true, decide_false, ES_P, toNat_add', ite_f, I, U, B, List.getElem?_map, getq, Nat.add_zero, Option.bind_some, bodyOf, Option.getD_some, u24, u3, s5, u5, h26, k26, WP_unroll, WP_lp, Tryz.f26, e1, e2, e3, k26, h26]
  simp only [Is, AV.tup.injEq, AV.sc.injEq, List.cons.injEq, Value.int.injEq, true_and, and_true]
  omega
theorem number_2 {σ : Store} {v : AV} {bs : List Int} (hs : Sl σ 1 v (bs.map U) bs.length) (hb : Byt bs) (p : Int) (hp : 0 ≤ p) (h : p + 2 ≤ bs.length) (hl : bs.length < 2 ^ 40) :
    Ans ES 26 [v, I p, I 2] σ (Is (.tup [I (le ((bs.drop p.toNat).take 2)), B true]) σ) := by
  have e1 := hs.sl
  have e2 := hs.ix
  have e3 := fun loc ts m hm => hs.ld1 (loc := loc) (ts := ts) g5 m hm
  have b0 := hb p.toNat (by omega)
  have b1 := hb (p.toNat + 1) (by omega)
  rw [le_take2 (by omega)]
  refine w26 100 ?_
  repeat' first | with_reducible refine CondK_split (fun h => ?_) (fun h => ?_) | with_reducible refine gdK_dec (fun h => ?_) (fun h => ?_) | with_reducible refine GuardK_dec (fun h => ?_) (fun h => ?_) | with_reducible refine WP_draw ?_ | with_reducible refine WP_drw_end (by kernel_rfl) ?_ | simp (disch := first | omega | (simp only [List.length_append, List.length_cons, List.length_nil, List.length_set, List.length_map, List.length_replicate, List.length_drop, List.length_take] <;> omega) | assumption) only [WP_nil, WP_seq, WP_skip, WP_ret, WP_exit, WP_code_exit, WP_blk_normal, WP_blk_ex, blkK_t, Nat.reduceBEq, WP_lp_exit, WP_block, WP_cond, CondK_t, CondK_f, CondK_df, WP_region, WP_ops_nil, WP_op, arK_val, Fin_ret, FinK_some, put_some, opd_tmp, opd_const, ofV_int, ofV_bool, avOf_v, tg0, tg1, tg2, tg3, tg4, tg5, tg6, tg7, tg8, ts0, ts1, ts2, ts3, ts4, ts5, ts6, ts7, ts8, aop_move, aop_assign, aop_load, aop_binOp, aop_convert, aop_indexAddr, aop_builtin, bin_add, bin_sub, bin_mul, bin_gtr, bin_geq, acvt, intOpd, avOpd, frzO, frzT_v, ares, aresL, abuiltin, alen, aindex_eq, ixU_s, ixE_some, wrap_i64, Option.map_some, Option.bind_some, Int.reduceSub, Int.reduceMul, Int.reduceLE, Int.reduceNeg, Int.reduceToNat, decide_true, decide_false, ES_P, toNat_add', ite_f, I, U, B, List.getElem?_map, getq, Nat.add_zero, Option.bind_some, bodyOf, Option.getD_some, u24, u3, s5, u5, h26, k26, WP_unroll, WP_lp, Tryz.f26, e1, e2, e3, k26, h26]
  simp only [Is, AV.tup.injEq, AV.sc.injEq, List.cons.injEq, Value.int.injEq, true_and, and_true]
  omega
theorem number_1 {σ : Store} {v : AV} {bs : List Int} (hs : Sl σ 1 v (bs.map U) bs.length) (hb : Byt bs) (p : Int) (hp : 0 ≤ p) (h : p + 1 ≤ bs.length) (hl : bs.length < 2 ^ 40) :
    Ans ES 26 [v, I p, I 1] σ (Is (.tup [I (le ((bs.drop p.toNat).take 1)), B true]) σ) := by
  have e1 := hs.sl
  have e2 := hs.ix
  have e3 := fun loc ts m hm => hs.ld1 (loc := loc) (ts := ts) g5 m hm
  have b0 := hb p.toNat (by omega)
  rw [le_take1 (by omega)]
  refine w26 100 ?_
  repeat' first | with_reducible refine CondK_split (fun h => ?_) (fun h => ?_) | with_reducible refine gdK_dec (fun h => ?_) (fun h => ?_) | with_reducible refine GuardK_dec (fun h => ?_) (fun h => ?_) | with_reducible refine WP_draw ?_ | with_reducible refine WP_drw_end (by kernel_rfl) ?_ | simp (disch := first | omega | (simp only [List.length_append, List.length_cons, List.length_nil, List.length_set, List.length_map, List.length_replicate, List.length_drop, List.length_take] <;> omega) | assumption) only [WP_nil, WP_seq, WP_skip, WP_ret, WP_exit, WP_code_exit, WP_blk_normal, WP_blk_ex, blkK_t, Nat.reduceBEq, WP_lp_exit, WP_block, WP_cond, CondK_t, CondK_f, CondK_df, WP_region, WP_ops_nil, WP_op, arK_val, Fin_ret, FinK_some, put_some, opd_tmp, opd_const, ofV_int, ofV_bool, avOf_v, tg0, tg1, tg2, tg3, tg4, tg5, tg6, tg7, tg8, ts0, ts1, ts2, ts3, ts4, ts5, ts6, ts7, ts8, aop_move, aop_assign, aop_load, aop_binOp, aop_convert, aop_indexAddr, aop_builtin, bin_add, bin_sub, bin_mul, bin_gtr, bin_geq, acvt, intOpd, avOpd, frzO, frzT_v, ares, aresL, abuiltin, alen, aindex_eq, ixU_s, ixE_some, wrap_i64, Option.map_some, Option.bind_some, Int.reduceSub, Int.reduceMul, Int.reduceLE, Int.reduceNeg, Int.reduceToNat, decide_true, decide_false, ES_P, toNat_add', ite_f, I, U, B, List.getElem?_map, getq, Nat.add_zero, Option.bind_some, bodyOf, Option.getD_some, u24, u3, s5, u5, h26, k26, WP_unroll, WP_lp, Tryz.f26, e1, e2, e3, k26, h26]
  simp only [Is, AV.tup.injEq, AV.sc.injEq, List.cons.injEq, Value.int.injEq, true_and, and_true]
  omega
theorem number_short {σ : Store} {v : AV} {bs : List Int} (hs : Sl σ 1 v (bs.map U) bs.length) (p w : Int) (hp : 0 ≤ p) (hp2 : p < 2 ^ 40) (hw : 0 ≤ w) (hw2 : w < 10) (h : bs.length < p + w) (hl : bs.length < 2 ^ 40) :
    Ans ES 26 [v, I p, I w] σ (Is (.tup [I 0, B false]) σ) := by
  have e1 := hs.sl
  refine w26 100 ?_
  repeat' first | with_reducible refine CondK_split (fun h => ?_) (fun h => ?_) | with_reducible refine gdK_dec (fun h => ?_) (fun h => ?_) | with_reducible refine GuardK_dec (fun h => ?_) (fun h => ?_) | with_reducible refine WP_draw ?_ | with_reducible refine WP_drw_end (by kernel_rfl) ?_ | simp (disch := first | omega | (simp only [List.length_append, List.length_cons, List.length_nil, List.length_set, List.length_map, List.length_replicate, List.length_drop, List.length_take] <;> omega) | assumption) only [WP_nil, WP_seq, WP_ret, WP_code_ret, WP_cond, CondK_dt, WP_region, WP_ops_nil, WP_op, arK_val, Fin_ret, FinK_some, Is_self, put_some, opd_tmp, opd_const, ofV_int, ofV_bool, avOf_v, tg0, tg1, tg2, tg3, tg4, tg5, tg6, tg7, tg8, ts2, ts3, ts4, ts5, ts6, ts7, ts8, aop_move, aop_assign, aop_binOp, aop_builtin, bin_add, bin_gtr, avOpd, frzO, frzT_v, ares, aresL, abuiltin, alen, wrap_i64, Option.map_some, Option.bind_some, ES_P, I, B, Option.bind_some, bodyOf, Option.getD_some, u24, Tryz.f26, e1]

theorem take_short {σ : Store} {v : AV} {bs : List Int} (hs : Sl σ 1 v (bs.map U) bs.length) (w : Int) (h : bs.length < w) :
    Ans ES 22 [v, I w] σ (Is (.tup [nilS, I 0, B false]) σ) := by
  have e1 := hs.sl
  refine w22 100 ?_
  repeat' first | with_reducible refine CondK_split (fun h => ?_) (fun h => ?_) | with_reducible refine gdK_dec (fun h => ?_) (fun h => ?_) | with_reducible refine GuardK_dec (fun h => ?_) (fun h => ?_) | with_reducible refine WP_draw ?_ | with_reducible refine WP_drw_end (by kernel_rfl) ?_ | simp (disch := first | omega | (simp only [List.length_append, List.length_cons, List.length_nil, List.length_set, List.length_map, List.length_replicate, List.length_drop, List.length_take] <;> omega) | assumption) only [WP_nil, WP_seq, WP_ret, WP_code_ret, WP_cond, CondK_dt, WP_region, WP_ops_nil, WP_op, arK_val, Fin_ret, FinK_some, Is_self, put_some, opd_tmp, opd_const, ofV_int, ofV_bool, ofV_nils, avOf_v, tg0, tg1, tg2, tg3, tg4, tg5, tg6, tg8, ts1, ts2, ts3, ts4, ts5, ts6, ts8, aop_move, aop_assign, aop_binOp, aop_builtin, bin_lss, avOpd, frzO, frzT_v, ares, aresL, abuiltin, alen, Option.map_some, Option.bind_some, ES_P, I, B, nilS, Option.bind_some, bodyOf, Option.getD_some, u24, Tryz.f22, e1]
theorem take_4 {σ : Store} {v : AV} {bs : List Int} (hs : Sl σ 1 v (bs.map U) bs.length) (hb : Byt bs) (h : 4 ≤ bs.length) :
    Ans ES 22 [v, I 4] σ (Is (.tup [subP 1 v 4 bs.length, I (le (bs.take 4)), B true]) σ) := by
  have e1 := hs.sl
  have e2 := hs.ix
  have e3 := fun loc ts m hm => hs.ld1 (loc := loc) (ts := ts) g5 m hm
  have e4 := hs.from
  have b0 := hb 0 (by omega)
  have b1 := hb 1 (by omega)
  have b2 := hb 2 (by omega)
  have b3 := hb 3 (by omega)
  rw [show bs.take 4 = (bs.drop 0).take 4 by simp, le_take4 (by omega)]
  refine w22 100 ?_
  repeat' first | with_reducible refine CondK_split (fun h => ?_) (fun h => ?_) | with_reducible refine gdK_dec (fun h => ?_) (fun h => ?_) | with_reducible refine GuardK_dec (fun h => ?_) (fun h => ?_) | with_reducible refine WP_draw ?_ | with_reducible refine WP_drw_end (by kernel_rfl) ?_ | simp (disch := first | omega | (simp only [List.length_append, List.length_cons, List.length_nil, List.length_set, List.length_map, List.length_replicate, List.length_drop, List.length_take] <;> omega) | assumption) only [WP_nil, WP_seq, WP_skip, WP_ret, WP_exit, WP_code_exit, WP_blk_normal, WP_blk_ex, blkK_t, Nat.reduceBEq, WP_lp_exit, WP_block, WP_cond, CondK_t, CondK_f, CondK_df, WP_region, WP_ops_nil, WP_op, arK_val, Fin_ret, FinK_some, put_some, opd_tmp, opd_const, ofV_int, ofV_bool, ofV_nils, avOf_v, tg0, tg1, tg2, tg3, tg4, tg5, tg6, tg7, tg8, ts0, ts1, ts2, ts3, ts4, ts5, ts6, ts7, ts8, aop_move, aop_assign, aop_load, aop_binOp, aop_convert, aop_slice, aop_indexAddr, aop_builtin, bin_sub, bin_orK, bin_shl, bin_lss, bin_geq, acvt, intOpd, avOpd, optIdx, frzO, frzT_v, ares, aresL, abuiltin, alen, aindex_eq, ixU_s, ixE_some, aslice_eq, slU_s, slE_some, wrap_i64, Option.map_some, Option.bind_some, Int.reduceSub, Int.reduceMul, Int.reduceLT, Int.reduceLE, Int.reduceNeg, Int.reduceToNat, if_false, decide_true, decide_false, ES_P, bits_i64, orK_low, Nat.min_eq_left, Int.reducePow, I, U, B, List.getElem?_map, getq, Nat.zero_add, Option.bind_some, bodyOf, Option.getD_some, u24, u3, s5, u5, h22, k22, WP_unroll, WP_lp, Tryz.f22, e1, e2, e3, e4, k22, h22]
  simp only [Is, AV.tup.injEq, AV.sc.injEq, List.cons.injEq, Value.int.injEq, true_and, and_true]
  omega
theorem take_2 {σ : Store} {v : AV} {bs : List Int} (hs : Sl σ 1 v (bs.map U) bs.length) (hb : Byt bs) (h : 2 ≤ bs.length) :
    Ans ES 22 [v, I 2] σ (Is (.tup [subP 1 v 2 bs.length, I (le (bs.take 2)), B true]) σ) := by
  have e1 := hs.sl
  have e2 := hs.ix
  have e3 := fun loc ts m hm => hs.ld1 (loc := loc) (ts := ts) g5 m hm
  have e4 := hs.from
  have b0 := hb 0 (by omega)
  have b1 := hb 1 (by omega)
  rw [show bs.take 2 = (bs.drop 0).take 2 by simp, le_take2 (by omega)]
  refine w22 100 ?_
  repeat' first | with_reducible refine CondK_split (fun h => ?_) (fun h => ?_) | with_reducible refine gdK_dec (fun h => ?_) (fun h => ?_) | with_reducible refine GuardK_dec (fun h => ?_) (fun h => ?_) | with_reducible refine WP_draw ?_ | with_reducible refine WP_drw_end (by kernel_rfl) ?_ | simp (disch := first | omega | (simp only [List.length_append, List.length_cons, List.length_nil, List.length_set, List.length_map, List.length_replicate, List.length_drop, List.length_take] <;> omega) | assumption) only [WP_nil, WP_seq, WP_skip, WP_ret, WP_exit, WP_code_exit, WP_blk_normal, WP_blk_ex, blkK_t, Nat.reduceBEq, WP_lp_exit, WP_block, WP_cond, CondK_t, CondK_f, CondK_df, WP_region, WP_ops_nil, WP_op, arK_val, Fin_ret, FinK_some, put_some, opd_tmp, opd_const, ofV_int, ofV_bool, ofV_nils, avOf_v, tg0, tg1, tg2, tg3, tg4, tg5, tg6, tg7, tg8, ts0, ts1, ts2, ts3, ts4, ts5, ts6, ts7, ts8, aop_move, aop_assign, aop_load, aop_binOp, aop_convert, aop_slice, aop_indexAddr, aop_builtin, bin_sub, bin_orK, bin_shl, bin_lss, bin_geq, acvt, intOpd, avOpd, optIdx, frzO, frzT_v, ares, aresL, abuiltin, alen, aindex_eq, ixU_s, ixE_some, aslice_eq, slU_s, slE_some, wrap_i64, Option.map_some, Option.bind_some, Int.reduceSub, Int.reduceMul, Int.reduceLT, Int.reduceLE, Int.reduceNeg, Int.reduceToNat, if_false, decide_true, decide_false, ES_P, bits_i64, orK_low, Nat.min_eq_left, Int.reducePow, I, U, B, List.getElem?_map, getq, Nat.zero_add, Option.bind_some, bodyOf, Option.getD_some, u24, u3, s5, u5, h22, k22, WP_unroll, WP_lp, Tryz.f22, e1, e2, e3, e4, k22, h22]
  simp only [Is, AV.tup.injEq, AV.sc.injEq, List.cons.injEq, Value.int.injEq, true_and, and_true]
  omega
theorem take_1 {σ : Store} {v : AV} {bs : List Int} (hs : Sl σ 1 v (bs.map U) bs.length) (hb : Byt bs) (h : 1 ≤ bs.length) :
    Ans ES 22 [v, I 1] σ (Is (.tup [subP 1 v 1 bs.length, I (le (bs.take 1)), B true]) σ) := by
  have e1 := hs.sl
  have e2 := hs.ix
  have e3 := fun loc ts m hm => hs.ld1 (loc := loc) (ts := ts) g5 m hm
  have e4 := hs.from
  have b0 := hb 0 (by omega)
  rw [show bs.take 1 = (bs.drop 0).take 1 by simp, le_take1 (by omega)]
  refine w22 100 ?_
  repeat' first | with_reducible refine CondK_split (fun h => ?_) (fun h => ?_) | with_reducible refine gdK_dec (fun h => ?_) (fun h => ?_) | with_reducible refine GuardK_dec (fun h => ?_) (fun h => ?_) | with_reducible refine WP_draw ?_ | with_reducible refine WP_drw_end (by kernel_rfl) ?_ | simp (disch := first | omega | (simp only [List.length_append, List.length_cons, List.length_nil, List.length_set, List.length_map, List.length_replicate, List.length_drop, List.length_take] <;> omega) | assumption) only [WP_nil, WP_seq, WP_skip, WP_ret, WP_exit, WP_code_exit, WP_blk_normal, WP_blk_ex, blkK_t, Nat.reduceBEq, WP_lp_exit, WP_block, WP_cond, CondK_t, CondK_f, CondK_df, WP_region, WP_ops_nil, WP_op, arK_val, Fin_ret, FinK_some, put_some, opd_tmp, opd_const, ofV_int, ofV_bool, ofV_nils, avOf_v, tg0, tg1, tg2, tg3, tg4, tg5, tg6, tg7, tg8, ts0, ts1, ts2, ts3, ts4, ts5, ts6, ts7, ts8, aop_move, aop_assign, aop_load, aop_binOp, aop_convert, aop_slice, aop_indexAddr, aop_builtin, bin_sub, bin_orK, bin_shl, bin_lss, bin_geq, acvt, intOpd, avOpd, optIdx, frzO, frzT_v, ares, aresL, abuiltin, alen, aindex_eq, ixU_s, ixE_some, aslice_eq, slU_s, slE_some, wrap_i64, Option.map_some, Option.bind_some, Int.reduceSub, Int.reduceMul, Int.reduceLT, Int.reduceLE, Int.reduceNeg, Int.reduceToNat, if_false, decide_true, decide_false, ES_P, bits_i64, orK_low, Nat.min_eq_left, Int.reducePow, I, U, B, List.getElem?_map, getq, Option.bind_some, bodyOf, Option.getD_some, u24, u3, s5, u5, h22, k22, WP_unroll, WP_lp, Tryz.f22, e1, e2, e3, e4, k22, h22]
  simp only [Is, AV.tup.injEq, AV.sc.injEq, List.cons.injEq, Value.int.injEq, true_and, and_true]
  omega
end Go.Abs
