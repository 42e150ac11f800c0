/- An abstract reading of the program, and what it answers. By an AI agent. -/
import Derived.Test.YtkbgehhnimpleaaGreatDoorS5
set_option linter.all false
set_option maxRecDepth 10000
set_option maxHeartbeats 1000000
namespace Go.Abs
open Go.Proofs Go.Script

/-- What an Invoke's bytes give. -/
def InvR (σ : Store) (o : Option (Ent × List Int)) (r : AV) (σ' : Store) : Prop := (∃ g, σ' = σ ++ g) ∧ match o with
  | some (e, rst) => ∃ v' w, r = .tup [v', w, B true] ∧ Sl σ 1 v' (rst.map U) rst.length ∧ Sl σ' 8 w (e.map I) 1
  | none => ∃ a w, r = .tup [a, w, B false] ∧ ∃ cs n, Sl σ' 8 w cs n ∧ n < 1000

section
variable {σ : Store} {v v2 : AV} {bs b2 : List Int} {y : Int}

theorem entry_inv1 (hs : Sl σ 1 v (bs.map U) bs.length) (hb : Byt bs) (h1 : 1 ≤ bs.length) (hx : bs.getD 0 0 % 4 = 3) (hn : bs.getD 0 0 / 4 = 1) (hs2 : Sl σ 1 v2 (b2.map U) b2.length) (hb2 : Byt b2)
    (ey : Ans ES 22 [subP 1 v 1 bs.length, I 1] σ (Is (.tup [v2, I y, B true]) σ)) : Ans ES 25 [v] σ (InvR σ (takeP (partsOf (bs.getD 0 0 / 4)) (invE y (bs.getD 0 0 / 4)) b2)) := by
  have e1 := hs.sl
  have e2 := hs.ix
  have b0 := hb 0 (by omega)
  have e3 := fun f n all (o : Oper) l cls k Q loc ts => hs.ldk (E := ES) (f := f) (n := n) (all := all) (o := o) (l := l) (cls := cls) (k := k) (Q := Q) (loc := loc) (ts := ts) (e := 5) (by rw [ES_P]; exact g5) 0 (U (bs.getD 0 0)) (by rw [List.getElem?_map, getq (by omega)]; rfl)
  have e4 := hs.from
  have hp : partsV (1 : Int) = .is [.fn 59 [] [], I 4, .fn 60 [] [], I 1, .fn 61 [] [], I 4] 3 true := rfl
  have hq : partsOf 1 = [(5, 4), (6, 1), (7, 4)] := rfl
  rw [hn, hq]
  by_cases c0 : (b2).length < 4
  · have s0 := fun E => (take_short (hs2.more [some E]) 4 (by omega)).eq
    have hT : takeP [(5, 4), (6, 1), (7, 4)] (invE y 1) b2 = none := by
      simp only [takeP]
      rw [if_pos c0]
    rw [hT]
    refine w25 100 ?_
    cases hv : immV v
    all_goals
      repeat' first | with_reducible refine CondK_split (fun h => ?_) (fun h => ?_) | with_reducible refine gdK_dec (fun h => ?_) (fun h => ?_) | with_reducible refine GuardK_dec (fun h => ?_) (fun h => ?_) | with_reducible refine WP_draw ?_ | with_reducible refine WP_drw_end (by kernel_rfl) ?_ | simp (disch := first | omega | (simp only [List.length_append, List.length_cons, List.length_nil, List.length_set, List.length_map, List.length_replicate, List.length_drop, List.length_take] <;> omega) | assumption) only [WP_nil, WP_seq, WP_skip, WP_ret, WP_exit, WP_code_exit, WP_blk_normal, WP_blk_ex, blkK_t, blkK_f, Nat.reduceBEq, WP_lp_exit, WP_block, WP_cond, CondK_t, CondK_f, CondK_dt, CondK_df, WP_region, WP_ops_nil, WP_op, arK_val, arK_skip, arK_call, After_eq, AfterD_eq, Fin_ret, FinK_some, put_some, put_none, opd_tmp, opd_const, opd_func, ofV_int, ofV_bool, ofV_nils, avOf_v, tg0, tg1, tg2, tg3, tg4, tg5, tg6, tg7, tg8, ts0, ts1, ts2, ts3, ts4, ts5, ts6, ts7, ts8, aop_move, aop_assign, aop_alloc, aop_build, aop_load, aop_store, storeR_some, aop_binOp, aop_unOp, aop_slice, aop_indexAddr, aop_extract, aop_builtin, aop_call, callR_fn, mkP_glob, mkP_df, cellAt_some, rangeAt_some, cellAt_none, rangeAt_none, ld_ip, ld_gp, ld_lp, ldV_f, ldV_t, spliceAt_some, wr_gp, wr_lp, bin_add, bin_andK, bin_shr, bin_eql, bin_lss, aun_not, acvt, intOpd, avOpd, optIdx, frzO, frzL, frzT_v, ares, aresL, acall, abuiltin, alen, slen_is, aindex_eq, ixU_s, ixE_some, ixS_is, aslice_eq, slU_s, slE_some, addP_lp, sure, aextract, wrap_i64, List.map_cons, List.map_nil, List.length_cons, List.length_nil, List.cons_append, List.nil_append, List.append_nil, Option.map_some, Option.map_none, Option.bind_some, mapM_c, mapM_n, Nat.reduceAdd, Nat.reduceMul, Nat.reduceLT, Int.reduceAdd, Int.reduceLT, Int.reduceToNat, if_false, Bool.false_eq_true, Bool.not_true, Bool.not_false, ES_P, WP_drw_n, DT_move, DT_assign, DT_nilCheck, DT_binOp, DT_convert, DT_fieldAddr, DT_indexAddr, DT_extract, DT_load, DT_bslK, bslK_d, DT_stK, stK_v, stS_some, DT_call, qK_some, ldK_some, frK_some, dcK_some, acq_fn, prefrz, lkT_v, lkT_lp, bits_u8, fdiv_pos, andK3_u8, Nat.min_eq_left, Int.reducePow, get_app_r, set_app_r, Nat.sub_self, window_all, win_z, win_s, ite_t, splice_eq, spliceC_one, spliceC_all, List.all_cons, List.all_nil, ok_int, ok_fn, co_int, co_agg, vs0, vs1, ss0, ss1, List.zip_cons_cons, List.zip_nil_right, List.drop_succ_cons, List.drop_zero, eq_self, I, U, B, nilS, vg0, vg1, sg0, sg1, sgn, Option.isNone_none, Bool.and_self, Nat.add_zero, Nat.zero_add, Option.bind_some, bodyOf, Option.getD_some, u24, u3, s3, g3, s5, s56, z56, g56, u5, c22, t22, bb56_0_1_2, m25_9, c46, u101, s105, z105, g105, m25_11, f105_0, s103, g103, f105_1, m25_80, sl30, h25, k25, t46, t59, c59, WP_unroll, WP_lp, Tryz.f25, e2, e3, e4, hv, hn, ey.eq, (parts_ok _ _).eq, hp, k25, h25, (parts3 _ _).eq, s0]
      exact ⟨⟨_, rfl⟩, _, _, rfl, _, _, .imm rfl, by omega⟩
  have t0 := fun E => (take_4 (hs2.more [some E]) hb2 (by omega)).eq
  have hs3 := hs2.dropB 4 (by omega)
  have hb3 := hb2.drop 4
  by_cases c1 : (b2.drop 4).length < 1
  · have s1 := fun E => (take_short (hs3.more [some E]) 1 (by omega)).eq
    have hT : takeP [(5, 4), (6, 1), (7, 4)] (invE y 1) b2 = none := by
      simp only [takeP]
      rw [if_neg c0]
      rw [if_pos c1]
    rw [hT]
    refine w25 100 ?_
    cases hv : immV v
    all_goals
      repeat' first | with_reducible refine CondK_split (fun h => ?_) (fun h => ?_) | with_reducible refine gdK_dec (fun h => ?_) (fun h => ?_) | with_reducible refine GuardK_dec (fun h => ?_) (fun h => ?_) | with_reducible refine WP_draw ?_ | with_reducible refine WP_drw_end (by kernel_rfl) ?_ | simp (disch := first | omega | (simp only [List.length_append, List.length_cons, List.length_nil, List.length_set, List.length_map, List.length_replicate, List.length_drop, List.length_take] <;> omega) | assumption) only [WP_nil, WP_seq, WP_skip, WP_ret, WP_exit, WP_code_exit, WP_blk_normal, WP_blk_ex, blkK_t, blkK_f, Nat.reduceBEq, WP_lp_exit, WP_block, WP_cond, CondK_t, CondK_f, CondK_dt, CondK_df, WP_region, WP_ops_nil, WP_op, arK_val, arK_skip, arK_call, After_eq, AfterD_eq, Fin_ret, FinK_some, put_some, put_none, opd_tmp, opd_const, opd_func, ofV_int, ofV_bool, ofV_nils, avOf_v, tg0, tg1, tg2, tg3, tg4, tg5, tg6, tg7, tg8, ts0, ts1, ts2, ts3, ts4, ts5, ts6, ts7, ts8, aop_move, aop_assign, aop_alloc, aop_build, aop_load, aop_store, storeR_some, aop_binOp, aop_unOp, aop_slice, aop_indexAddr, aop_extract, aop_builtin, aop_call, callR_fn, mkP_glob, mkP_df, cellAt_some, rangeAt_some, cellAt_none, rangeAt_none, ld_ip, ld_gp, ld_lp, ldV_f, ldV_t, spliceAt_some, wr_gp, wr_lp, bin_add, bin_andK, bin_shr, bin_eql, bin_lss, aun_not, acvt, intOpd, avOpd, optIdx, frzO, frzL, frzT_v, ares, aresL, acall, abuiltin, alen, slen_is, aindex_eq, ixU_s, ixE_some, ixS_is, aslice_eq, slU_s, slE_some, addP_lp, sure, aextract, wrap_i64, List.map_cons, List.map_nil, List.length_cons, List.length_nil, List.cons_append, List.nil_append, List.append_nil, Option.map_some, Option.map_none, Option.bind_some, mapM_c, mapM_n, Nat.reduceAdd, Nat.reduceMul, Nat.reduceLT, Int.reduceAdd, Int.reduceLT, Int.reduceToNat, if_false, Bool.false_eq_true, Bool.not_true, Bool.not_false, ES_P, WP_drw_n, DT_move, DT_assign, DT_nilCheck, DT_binOp, DT_convert, DT_fieldAddr, DT_indexAddr, DT_extract, DT_load, DT_bslK, bslK_d, DT_stK, stK_v, stS_some, DT_call, qK_some, ldK_some, frK_some, dcK_some, acq_fn, prefrz, lkT_v, lkT_lp, bits_u8, fdiv_pos, andK3_u8, Nat.min_eq_left, Int.reducePow, get_app_r, set_app_r, Nat.sub_self, window_all, win_z, win_s, ite_t, splice_eq, spliceC_one, spliceC_all, List.all_cons, List.all_nil, ok_int, ok_fn, co_int, co_agg, vs0, vs1, ss0, ss1, List.zip_cons_cons, List.zip_nil_right, List.drop_succ_cons, List.drop_zero, eq_self, I, U, B, nilS, vg0, vg1, sg0, sg1, sgn, Option.isNone_none, Bool.and_self, Nat.add_zero, Nat.zero_add, Option.bind_some, bodyOf, Option.getD_some, u24, u3, s3, g3, s5, s56, z56, g56, u5, c22, t22, bb56_0_1_2, m25_9, c46, u101, s105, z105, g105, m25_11, f105_0, s103, g103, f105_1, m25_80, sl30, h25, k25, t46, t59, c59, t60, c60, WP_unroll, WP_lp, Tryz.f25, e2, e3, e4, hv, hn, ey.eq, (parts_ok _ _).eq, hp, k25, h25, (parts3 _ _).eq, (parts4 _ _).eq, t0, s1]
      exact ⟨⟨_, rfl⟩, _, _, rfl, _, _, .imm rfl, by omega⟩
  have t1 := fun E => (take_1 (hs3.more [some E]) hb3 (by omega)).eq
  have hs4 := hs3.dropB 1 (by omega)
  have hb4 := hb3.drop 1
  by_cases c2 : ((b2.drop 4).drop 1).length < 4
  · have s2 := fun E => (take_short (hs4.more [some E]) 4 (by omega)).eq
    have hT : takeP [(5, 4), (6, 1), (7, 4)] (invE y 1) b2 = none := by
      simp only [takeP]
      rw [if_neg c0]
      rw [if_neg c1]
      rw [if_pos c2]
    rw [hT]
    refine w25 100 ?_
    cases hv : immV v
    all_goals
      repeat' first | with_reducible refine CondK_split (fun h => ?_) (fun h => ?_) | with_reducible refine gdK_dec (fun h => ?_) (fun h => ?_) | with_reducible refine GuardK_dec (fun h => ?_) (fun h => ?_) | with_reducible refine WP_draw ?_ | with_reducible refine WP_drw_end (by kernel_rfl) ?_ | simp (disch := first | omega | (simp only [List.length_append, List.length_cons, List.length_nil, List.length_set, List.length_map, List.length_replicate, List.length_drop, List.length_take] <;> omega) | assumption) only [WP_nil, WP_seq, WP_skip, WP_ret, WP_exit, WP_code_exit, WP_blk_normal, WP_blk_ex, blkK_t, Nat.reduceBEq, WP_lp_exit, WP_block, WP_cond, CondK_f, CondK_dt, CondK_df, WP_region, WP_ops_nil, WP_op, arK_val, arK_skip, arK_call, After_eq, AfterD_eq, Fin_ret, FinK_some, put_some, put_none, opd_tmp, opd_const, opd_func, ofV_int, ofV_bool, ofV_nils, avOf_v, tg0, tg1, tg2, tg3, tg4, tg5, tg6, tg7, tg8, ts0, ts1, ts2, ts3, ts4, ts5, ts6, ts7, ts8, aop_move, aop_assign, aop_alloc, aop_build, aop_load, aop_store, storeR_some, aop_binOp, aop_unOp, aop_slice, aop_indexAddr, aop_extract, aop_builtin, aop_call, callR_fn, mkP_glob, mkP_df, cellAt_some, rangeAt_some, cellAt_none, rangeAt_none, ld_ip, ld_gp, ld_lp, ldV_f, ldV_t, spliceAt_some, wr_gp, wr_lp, bin_add, bin_andK, bin_shr, bin_eql, bin_lss, aun_not, acvt, intOpd, avOpd, optIdx, frzO, frzL, frzT_v, ares, aresL, acall, abuiltin, alen, slen_is, aindex_eq, ixU_s, ixE_some, ixS_is, aslice_eq, slU_s, slE_some, addP_lp, sure, aextract, wrap_i64, List.map_cons, List.map_nil, List.length_cons, List.length_nil, List.cons_append, List.nil_append, List.append_nil, Option.map_some, Option.map_none, Option.bind_some, mapM_c, mapM_n, Nat.reduceAdd, Nat.reduceMul, Nat.reduceLT, Int.reduceAdd, Int.reduceLT, Int.reduceToNat, if_false, Bool.false_eq_true, Bool.not_true, ES_P, WP_drw_n, DT_move, DT_assign, DT_nilCheck, DT_binOp, DT_convert, DT_fieldAddr, DT_indexAddr, DT_extract, DT_load, DT_bslK, bslK_d, DT_stK, stK_v, stS_some, DT_call, qK_some, ldK_some, frK_some, dcK_some, acq_fn, prefrz, lkT_v, lkT_lp, bits_u8, fdiv_pos, andK3_u8, Nat.min_eq_left, Int.reducePow, get_app_r, set_app_r, Nat.sub_self, window_all, win_z, win_s, ite_t, splice_eq, spliceC_one, spliceC_all, List.all_cons, List.all_nil, ok_int, ok_fn, co_int, co_agg, vs0, vs1, ss0, ss1, List.zip_cons_cons, List.zip_nil_right, List.drop_succ_cons, List.drop_zero, eq_self, I, U, B, nilS, vg0, vg1, sg0, sg1, sgn, Option.isNone_none, Bool.and_self, Nat.add_zero, Nat.zero_add, Option.bind_some, bodyOf, Option.getD_some, u24, u3, s3, g3, s5, s56, z56, g56, u5, c22, t22, bb56_0_1_2, m25_9, c46, u101, s105, z105, g105, m25_11, f105_0, s103, g103, f105_1, m25_80, sl30, h25, k25, t46, t59, c59, t60, c60, t61, c61, WP_unroll, WP_lp, Tryz.f25, e2, e3, e4, hv, hn, ey.eq, (parts_ok _ _).eq, hp, k25, h25, (parts3 _ _).eq, (parts4 _ _).eq, (parts5 _ _).eq, t0, t1, s2]
      exact ⟨⟨_, rfl⟩, _, _, rfl, _, _, .imm rfl, by omega⟩
  have t2 := fun E => (take_4 (hs4.more [some E]) hb4 (by omega)).eq
  have hs5 := hs4.dropB 4 (by omega)
  have hb5 := hb4.drop 4
  simp only [takeP]
  rw [if_neg c0]
  rw [if_neg c1]
  rw [if_neg c2]
  refine w25 100 ?_
  cases hv : immV v
  all_goals
    repeat' first | with_reducible refine CondK_split (fun h => ?_) (fun h => ?_) | with_reducible refine gdK_dec (fun h => ?_) (fun h => ?_) | with_reducible refine GuardK_dec (fun h => ?_) (fun h => ?_) | with_reducible refine WP_draw ?_ | with_reducible refine WP_drw_end (by kernel_rfl) ?_ | simp (disch := first | omega | (simp only [List.length_append, List.length_cons, List.length_nil, List.length_set, List.length_map, List.length_replicate, List.length_drop, List.length_take] <;> omega) | assumption) only [WP_nil, WP_seq, WP_skip, WP_ret, WP_exit, WP_code_exit, WP_blk_normal, WP_blk_ex, blkK_t, Nat.reduceBEq, WP_lp_exit, WP_block, WP_cond, CondK_f, CondK_dt, CondK_df, WP_region, WP_ops_nil, WP_op, arK_val, arK_skip, arK_call, After_eq, AfterD_eq, Fin_ret, FinK_some, put_some, put_none, opd_tmp, opd_const, opd_func, ofV_int, ofV_bool, ofV_nils, avOf_v, tg0, tg1, tg2, tg3, tg4, tg5, tg6, tg7, tg8, ts0, ts1, ts2, ts3, ts4, ts5, ts6, ts7, ts8, aop_move, aop_assign, aop_alloc, aop_build, aop_load, aop_store, storeR_some, aop_binOp, aop_unOp, aop_slice, aop_indexAddr, aop_extract, aop_builtin, aop_call, callR_fn, mkP_glob, mkP_df, cellAt_some, rangeAt_some, cellAt_none, rangeAt_none, ld_ip, ld_gp, ld_lp, ldV_f, ldV_t, spliceAt_some, wr_gp, wr_lp, bin_add, bin_andK, bin_shr, bin_eql, bin_lss, aun_not, acvt, intOpd, avOpd, optIdx, frzO, frzL, frzT_v, ares, aresL, acall, abuiltin, alen, slen_is, aindex_eq, ixU_s, ixE_some, ixS_is, aslice_eq, slU_s, slE_some, addP_lp, sure, aextract, wrap_i64, List.map_cons, List.map_nil, List.length_cons, List.length_nil, List.cons_append, List.nil_append, List.append_nil, Option.map_some, Option.map_none, Option.bind_some, mapM_c, mapM_n, Nat.reduceAdd, Nat.reduceMul, Nat.reduceLT, Int.reduceAdd, Int.reduceLT, Int.reduceToNat, if_false, Bool.false_eq_true, Bool.not_true, ES_P, WP_drw_n, DT_move, DT_assign, DT_nilCheck, DT_binOp, DT_convert, DT_fieldAddr, DT_indexAddr, DT_extract, DT_load, DT_bslK, bslK_d, DT_stK, stK_v, stS_some, DT_call, qK_some, ldK_some, frK_some, dcK_some, acq_fn, prefrz, lkT_v, lkT_lp, bits_u8, fdiv_pos, andK3_u8, Nat.min_eq_left, Int.reducePow, get_app_r, set_app_r, Nat.sub_self, window_all, win_z, win_s, ite_t, splice_eq, spliceC_one, spliceC_all, List.all_cons, List.all_nil, ok_int, ok_fn, co_int, co_agg, vs0, vs1, ss0, ss1, List.zip_cons_cons, List.zip_nil_right, List.drop_succ_cons, List.drop_zero, eq_self, I, U, B, vg0, vg1, sg0, sg1, sgn, Option.isNone_none, Bool.and_self, Nat.add_zero, Nat.zero_add, Option.bind_some, bodyOf, Option.getD_some, u24, u3, s3, g3, s5, s56, z56, g56, u5, c22, t22, bb56_0_1_2, m25_9, c46, u101, s105, z105, g105, m25_11, f105_0, s103, g103, f105_1, m25_80, sl30, h25, k25, t46, t59, c59, t60, c60, t61, c61, WP_unroll, WP_lp, Tryz.f25, e2, e3, e4, hv, hn, ey.eq, (parts_ok _ _).eq, hp, k25, h25, (parts3 _ _).eq, (parts4 _ _).eq, (parts5 _ _).eq, t0, t1, t2]
    exact ⟨⟨_, rfl⟩, _, _, rfl, hs5, .imm rfl⟩

theorem entry_inv2 (hs : Sl σ 1 v (bs.map U) bs.length) (hb : Byt bs) (h1 : 1 ≤ bs.length) (hx : bs.getD 0 0 % 4 = 3) (hn : bs.getD 0 0 / 4 = 2) (hs2 : Sl σ 1 v2 (b2.map U) b2.length) (hb2 : Byt b2)
    (ey : Ans ES 22 [subP 1 v 1 bs.length, I 1] σ (Is (.tup [v2, I y, B true]) σ)) : Ans ES 25 [v] σ (InvR σ (takeP (partsOf (bs.getD 0 0 / 4)) (invE y (bs.getD 0 0 / 4)) b2)) := by
  have e1 := hs.sl
  have e2 := hs.ix
  have b0 := hb 0 (by omega)
  have e3 := fun f n all (o : Oper) l cls k Q loc ts => hs.ldk (E := ES) (f := f) (n := n) (all := all) (o := o) (l := l) (cls := cls) (k := k) (Q := Q) (loc := loc) (ts := ts) (e := 5) (by rw [ES_P]; exact g5) 0 (U (bs.getD 0 0)) (by rw [List.getElem?_map, getq (by omega)]; rfl)
  have e4 := hs.from
  have hp : partsV (2 : Int) = .is [.fn 57 [] [], I 2, .fn 58 [] [], I 4] 2 true := rfl
  have hq : partsOf 2 = [(3, 2), (4, 4)] := rfl
  rw [hn, hq]
  by_cases c0 : (b2).length < 2
  · have s0 := fun E => (take_short (hs2.more [some E]) 2 (by omega)).eq
    have hT : takeP [(3, 2), (4, 4)] (invE y 2) b2 = none := by
      simp only [takeP]
      rw [if_pos c0]
    rw [hT]
    refine w25 100 ?_
    cases hv : immV v
    all_goals
      repeat' first | with_reducible refine CondK_split (fun h => ?_) (fun h => ?_) | with_reducible refine gdK_dec (fun h => ?_) (fun h => ?_) | with_reducible refine GuardK_dec (fun h => ?_) (fun h => ?_) | with_reducible refine WP_draw ?_ | with_reducible refine WP_drw_end (by kernel_rfl) ?_ | simp (disch := first | omega | (simp only [List.length_append, List.length_cons, List.length_nil, List.length_set, List.length_map, List.length_replicate, List.length_drop, List.length_take] <;> omega) | assumption) only [WP_nil, WP_seq, WP_skip, WP_ret, WP_exit, WP_code_exit, WP_blk_normal, WP_blk_ex, blkK_t, blkK_f, Nat.reduceBEq, WP_lp_exit, WP_block, WP_cond, CondK_t, CondK_f, CondK_dt, CondK_df, WP_region, WP_ops_nil, WP_op, arK_val, arK_skip, arK_call, After_eq, AfterD_eq, Fin_ret, FinK_some, put_some, put_none, opd_tmp, opd_const, opd_func, ofV_int, ofV_bool, ofV_nils, avOf_v, tg0, tg1, tg2, tg3, tg4, tg5, tg6, tg7, tg8, ts0, ts1, ts2, ts3, ts4, ts5, ts6, ts7, ts8, aop_move, aop_assign, aop_alloc, aop_build, aop_load, aop_store, storeR_some, aop_binOp, aop_unOp, aop_slice, aop_indexAddr, aop_extract, aop_builtin, aop_call, callR_fn, mkP_glob, mkP_df, cellAt_some, rangeAt_some, cellAt_none, rangeAt_none, ld_ip, ld_gp, ld_lp, ldV_f, ldV_t, spliceAt_some, wr_gp, wr_lp, bin_add, bin_andK, bin_shr, bin_eql, bin_lss, aun_not, acvt, intOpd, avOpd, optIdx, frzO, frzL, frzT_v, ares, aresL, acall, abuiltin, alen, slen_is, aindex_eq, ixU_s, ixE_some, ixS_is, aslice_eq, slU_s, slE_some, addP_lp, sure, aextract, wrap_i64, List.map_cons, List.map_nil, List.length_cons, List.length_nil, List.cons_append, List.nil_append, List.append_nil, Option.map_some, Option.map_none, Option.bind_some, mapM_c, mapM_n, Nat.reduceAdd, Nat.reduceMul, Nat.reduceLT, Int.reduceAdd, Int.reduceLT, Int.reduceToNat, if_false, Bool.false_eq_true, Bool.not_true, Bool.not_false, ES_P, WP_drw_n, DT_move, DT_assign, DT_nilCheck, DT_binOp, DT_convert, DT_fieldAddr, DT_indexAddr, DT_extract, DT_load, DT_bslK, bslK_d, DT_stK, stK_v, stS_some, DT_call, qK_some, ldK_some, frK_some, dcK_some, acq_fn, prefrz, lkT_v, lkT_lp, bits_u8, fdiv_pos, andK3_u8, Nat.min_eq_left, Int.reducePow, get_app_r, set_app_r, Nat.sub_self, window_all, win_z, win_s, ite_t, splice_eq, spliceC_one, spliceC_all, List.all_cons, List.all_nil, ok_int, ok_fn, co_int, co_agg, vs0, vs1, ss0, ss1, List.zip_cons_cons, List.zip_nil_right, List.drop_succ_cons, List.drop_zero, eq_self, I, U, B, nilS, vg0, vg1, sg0, sg1, sgn, Option.isNone_none, Bool.and_self, Nat.add_zero, Nat.zero_add, Option.bind_some, bodyOf, Option.getD_some, u24, u3, s3, g3, s5, s56, z56, g56, u5, c22, t22, bb56_0_1_2, m25_9, c46, u101, s105, z105, g105, m25_11, f105_0, s103, g103, f105_1, m25_80, sl30, h25, k25, t46, t57, c57, WP_unroll, WP_lp, Tryz.f25, e2, e3, e4, hv, hn, ey.eq, (parts_ok _ _).eq, hp, k25, h25, (parts1 _ _).eq, s0]
      exact ⟨⟨_, rfl⟩, _, _, rfl, _, _, .imm rfl, by omega⟩
  have t0 := fun E => (take_2 (hs2.more [some E]) hb2 (by omega)).eq
  have hs3 := hs2.dropB 2 (by omega)
  have hb3 := hb2.drop 2
  by_cases c1 : (b2.drop 2).length < 4
  · have s1 := fun E => (take_short (hs3.more [some E]) 4 (by omega)).eq
    have hT : takeP [(3, 2), (4, 4)] (invE y 2) b2 = none := by
      simp only [takeP]
      rw [if_neg c0]
      rw [if_pos c1]
    rw [hT]
    refine w25 100 ?_
    cases hv : immV v
    all_goals
      repeat' first | with_reducible refine CondK_split (fun h => ?_) (fun h => ?_) | with_reducible refine gdK_dec (fun h => ?_) (fun h => ?_) | with_reducible refine GuardK_dec (fun h => ?_) (fun h => ?_) | with_reducible refine WP_draw ?_ | with_reducible refine WP_drw_end (by kernel_rfl) ?_ | simp (disch := first | omega | (simp only [List.length_append, List.length_cons, List.length_nil, List.length_set, List.length_map, List.length_replicate, List.length_drop, List.length_take] <;> omega) | assumption) only [WP_nil, WP_seq, WP_skip, WP_ret, WP_exit, WP_code_exit, WP_blk_normal, WP_blk_ex, blkK_t, Nat.reduceBEq, WP_lp_exit, WP_block, WP_cond, CondK_f, CondK_dt, CondK_df, WP_region, WP_ops_nil, WP_op, arK_val, arK_skip, arK_call, After_eq, AfterD_eq, Fin_ret, FinK_some, put_some, put_none, opd_tmp, opd_const, opd_func, ofV_int, ofV_bool, ofV_nils, avOf_v, tg0, tg1, tg2, tg3, tg4, tg5, tg6, tg7, tg8, ts0, ts1, ts2, ts3, ts4, ts5, ts6, ts7, ts8, aop_move, aop_assign, aop_alloc, aop_build, aop_load, aop_store, storeR_some, aop_binOp, aop_unOp, aop_slice, aop_indexAddr, aop_extract, aop_builtin, aop_call, callR_fn, mkP_glob, mkP_df, cellAt_some, rangeAt_some, cellAt_none, rangeAt_none, ld_ip, ld_gp, ld_lp, ldV_f, ldV_t, spliceAt_some, wr_gp, wr_lp, bin_add, bin_andK, bin_shr, bin_eql, bin_lss, aun_not, acvt, intOpd, avOpd, optIdx, frzO, frzL, frzT_v, ares, aresL, acall, abuiltin, alen, slen_is, aindex_eq, ixU_s, ixE_some, ixS_is, aslice_eq, slU_s, slE_some, addP_lp, sure, aextract, wrap_i64, List.map_cons, List.map_nil, List.length_cons, List.length_nil, List.cons_append, List.nil_append, List.append_nil, Option.map_some, Option.map_none, Option.bind_some, mapM_c, mapM_n, Nat.reduceAdd, Nat.reduceMul, Nat.reduceLT, Int.reduceAdd, Int.reduceLT, Int.reduceToNat, if_false, Bool.false_eq_true, Bool.not_true, ES_P, WP_drw_n, DT_move, DT_assign, DT_nilCheck, DT_binOp, DT_convert, DT_fieldAddr, DT_indexAddr, DT_extract, DT_load, DT_bslK, bslK_d, DT_stK, stK_v, stS_some, DT_call, qK_some, ldK_some, frK_some, dcK_some, acq_fn, prefrz, lkT_v, lkT_lp, bits_u8, fdiv_pos, andK3_u8, Nat.min_eq_left, Int.reducePow, get_app_r, set_app_r, Nat.sub_self, window_all, win_z, win_s, ite_t, splice_eq, spliceC_one, spliceC_all, List.all_cons, List.all_nil, ok_int, ok_fn, co_int, co_agg, vs0, vs1, ss0, ss1, List.zip_cons_cons, List.zip_nil_right, List.drop_succ_cons, List.drop_zero, eq_self, I, U, B, nilS, vg0, vg1, sg0, sg1, sgn, Option.isNone_none, Bool.and_self, Nat.add_zero, Nat.zero_add, Option.bind_some, bodyOf, Option.getD_some, u24, u3, s3, g3, s5, s56, z56, g56, u5, c22, t22, bb56_0_1_2, m25_9, c46, u101, s105, z105, g105, m25_11, f105_0, s103, g103, f105_1, m25_80, sl30, h25, k25, t46, t57, c57, t58, c58, WP_unroll, WP_lp, Tryz.f25, e2, e3, e4, hv, hn, ey.eq, (parts_ok _ _).eq, hp, k25, h25, (parts1 _ _).eq, (parts2 _ _).eq, t0, s1]
      exact ⟨⟨_, rfl⟩, _, _, rfl, _, _, .imm rfl, by omega⟩
  have t1 := fun E => (take_4 (hs3.more [some E]) hb3 (by omega)).eq
  have hs4 := hs3.dropB 4 (by omega)
  have hb4 := hb3.drop 4
  simp only [takeP]
  rw [if_neg c0]
  rw [if_neg c1]
  refine w25 100 ?_
  cases hv : immV v
  all_goals
    repeat' first | with_reducible refine CondK_split (fun h => ?_) (fun h => ?_) | with_reducible refine gdK_dec (fun h => ?_) (fun h => ?_) | with_reducible refine GuardK_dec (fun h => ?_) (fun h => ?_) | with_reducible refine WP_draw ?_ | with_reducible refine WP_drw_end (by kernel_rfl) ?_ | simp (disch := first | omega | (simp only [List.length_append, List.length_cons, List.length_nil, List.length_set, List.length_map, List.length_replicate, List.length_drop, List.length_take] <;> omega) | assumption) only [WP_nil, WP_seq, WP_skip, WP_ret, WP_exit, WP_code_exit, WP_blk_normal, WP_blk_ex, blkK_t, Nat.reduceBEq, WP_lp_exit, WP_block, WP_cond, CondK_f, CondK_dt, CondK_df, WP_region, WP_ops_nil, WP_op, arK_val, arK_skip, arK_call, After_eq, AfterD_eq, Fin_ret, FinK_some, put_some, put_none, opd_tmp, opd_const, opd_func, ofV_int, ofV_bool, ofV_nils, avOf_v, tg0, tg1, tg2, tg3, tg4, tg5, tg6, tg7, tg8, ts0, ts1, ts2, ts3, ts4, ts5, ts6, ts7, ts8, aop_move, aop_assign, aop_alloc, aop_build, aop_load, aop_store, storeR_some, aop_binOp, aop_unOp, aop_slice, aop_indexAddr, aop_extract, aop_builtin, aop_call, callR_fn, mkP_glob, mkP_df, cellAt_some, rangeAt_some, cellAt_none, rangeAt_none, ld_ip, ld_gp, ld_lp, ldV_f, ldV_t, spliceAt_some, wr_gp, wr_lp, bin_add, bin_andK, bin_shr, bin_eql, bin_lss, aun_not, acvt, intOpd, avOpd, optIdx, frzO, frzL, frzT_v, ares, aresL, acall, abuiltin, alen, slen_is, aindex_eq, ixU_s, ixE_some, ixS_is, aslice_eq, slU_s, slE_some, addP_lp, sure, aextract, wrap_i64, List.map_cons, List.map_nil, List.length_cons, List.length_nil, List.cons_append, List.nil_append, List.append_nil, Option.map_some, Option.map_none, Option.bind_some, mapM_c, mapM_n, Nat.reduceAdd, Nat.reduceMul, Nat.reduceLT, Int.reduceAdd, Int.reduceLT, Int.reduceToNat, if_false, Bool.false_eq_true, Bool.not_true, ES_P, WP_drw_n, DT_move, DT_assign, DT_nilCheck, DT_binOp, DT_convert, DT_fieldAddr, DT_indexAddr, DT_extract, DT_load, DT_bslK, bslK_d, DT_stK, stK_v, stS_some, DT_call, qK_some, ldK_some, frK_some, dcK_some, acq_fn, prefrz, lkT_v, lkT_lp, bits_u8, fdiv_pos, andK3_u8, Nat.min_eq_left, Int.reducePow, get_app_r, set_app_r, Nat.sub_self, window_all, win_z, win_s, ite_t, splice_eq, spliceC_one, spliceC_all, List.all_cons, List.all_nil, ok_int, ok_fn, co_int, co_agg, vs0, vs1, ss0, ss1, List.zip_cons_cons, List.zip_nil_right, List.drop_succ_cons, List.drop_zero, eq_self, I, U, B, vg0, vg1, sg0, sg1, sgn, Option.isNone_none, Bool.and_self, Nat.add_zero, Nat.zero_add, Option.bind_some, bodyOf, Option.getD_some, u24, u3, s3, g3, s5, s56, z56, g56, u5, c22, t22, bb56_0_1_2, m25_9, c46, u101, s105, z105, g105, m25_11, f105_0, s103, g103, f105_1, m25_80, sl30, h25, k25, t46, t57, c57, t58, c58, WP_unroll, WP_lp, Tryz.f25, e2, e3, e4, hv, hn, ey.eq, (parts_ok _ _).eq, hp, k25, h25, (parts1 _ _).eq, (parts2 _ _).eq, t0, t1]
    exact ⟨⟨_, rfl⟩, _, _, rfl, hs4, .imm rfl⟩

theorem entry_inv3 (hs : Sl σ 1 v (bs.map U) bs.length) (hb : Byt bs) (h1 : 1 ≤ bs.length) (hx : bs.getD 0 0 % 4 = 3) (hn : bs.getD 0 0 / 4 = 3) (hs2 : Sl σ 1 v2 (b2.map U) b2.length) (hb2 : Byt b2)
    (ey : Ans ES 22 [subP 1 v 1 bs.length, I 1] σ (Is (.tup [v2, I y, B true]) σ)) : Ans ES 25 [v] σ (InvR σ (takeP (partsOf (bs.getD 0 0 / 4)) (invE y (bs.getD 0 0 / 4)) b2)) := by
  have e1 := hs.sl
  have e2 := hs.ix
  have b0 := hb 0 (by omega)
  have e3 := fun f n all (o : Oper) l cls k Q loc ts => hs.ldk (E := ES) (f := f) (n := n) (all := all) (o := o) (l := l) (cls := cls) (k := k) (Q := Q) (loc := loc) (ts := ts) (e := 5) (by rw [ES_P]; exact g5) 0 (U (bs.getD 0 0)) (by rw [List.getElem?_map, getq (by omega)]; rfl)
  have e4 := hs.from
  have hp : partsV (3 : Int) = .is [.fn 57 [] [], I 2, .fn 58 [] [], I 4, .fn 59 [] [], I 4] 3 true := rfl
  have hq : partsOf 3 = [(3, 2), (4, 4), (5, 4)] := rfl
  rw [hn, hq]
  by_cases c0 : (b2).length < 2
  · have s0 := fun E => (take_short (hs2.more [some E]) 2 (by omega)).eq
    have hT : takeP [(3, 2), (4, 4), (5, 4)] (invE y 3) b2 = none := by
      simp only [takeP]
      rw [if_pos c0]
    rw [hT]
    refine w25 100 ?_
    cases hv : immV v
    all_goals
      repeat' first | with_reducible refine CondK_split (fun h => ?_) (fun h => ?_) | with_reducible refine gdK_dec (fun h => ?_) (fun h => ?_) | with_reducible refine GuardK_dec (fun h => ?_) (fun h => ?_) | with_reducible refine WP_draw ?_ | with_reducible refine WP_drw_end (by kernel_rfl) ?_ | simp (disch := first | omega | (simp only [List.length_append, List.length_cons, List.length_nil, List.length_set, List.length_map, List.length_replicate, List.length_drop, List.length_take] <;> omega) | assumption) only [WP_nil, WP_seq, WP_skip, WP_ret, WP_exit, WP_code_exit, WP_blk_normal, WP_blk_ex, blkK_t, blkK_f, Nat.reduceBEq, WP_lp_exit, WP_block, WP_cond, CondK_t, CondK_f, CondK_dt, CondK_df, WP_region, WP_ops_nil, WP_op, arK_val, arK_skip, arK_call, After_eq, AfterD_eq, Fin_ret, FinK_some, put_some, put_none, opd_tmp, opd_const, opd_func, ofV_int, ofV_bool, ofV_nils, avOf_v, tg0, tg1, tg2, tg3, tg4, tg5, tg6, tg7, tg8, ts0, ts1, ts2, ts3, ts4, ts5, ts6, ts7, ts8, aop_move, aop_assign, aop_alloc, aop_build, aop_load, aop_store, storeR_some, aop_binOp, aop_unOp, aop_slice, aop_indexAddr, aop_extract, aop_builtin, aop_call, callR_fn, mkP_glob, mkP_df, cellAt_some, rangeAt_some, cellAt_none, rangeAt_none, ld_ip, ld_gp, ld_lp, ldV_f, ldV_t, spliceAt_some, wr_gp, wr_lp, bin_add, bin_andK, bin_shr, bin_eql, bin_lss, aun_not, acvt, intOpd, avOpd, optIdx, frzO, frzL, frzT_v, ares, aresL, acall, abuiltin, alen, slen_is, aindex_eq, ixU_s, ixE_some, ixS_is, aslice_eq, slU_s, slE_some, addP_lp, sure, aextract, wrap_i64, List.map_cons, List.map_nil, List.length_cons, List.length_nil, List.cons_append, List.nil_append, List.append_nil, Option.map_some, Option.map_none, Option.bind_some, mapM_c, mapM_n, Nat.reduceAdd, Nat.reduceMul, Nat.reduceLT, Int.reduceAdd, Int.reduceLT, Int.reduceToNat, if_false, Bool.false_eq_true, Bool.not_true, Bool.not_false, ES_P, WP_drw_n, DT_move, DT_assign, DT_nilCheck, DT_binOp, DT_convert, DT_fieldAddr, DT_indexAddr, DT_extract, DT_load, DT_bslK, bslK_d, DT_stK, stK_v, stS_some, DT_call, qK_some, ldK_some, frK_some, dcK_some, acq_fn, prefrz, lkT_v, lkT_lp, bits_u8, fdiv_pos, andK3_u8, Nat.min_eq_left, Int.reducePow, get_app_r, set_app_r, Nat.sub_self, window_all, win_z, win_s, ite_t, splice_eq, spliceC_one, spliceC_all, List.all_cons, List.all_nil, ok_int, ok_fn, co_int, co_agg, vs0, vs1, ss0, ss1, List.zip_cons_cons, List.zip_nil_right, List.drop_succ_cons, List.drop_zero, eq_self, I, U, B, nilS, vg0, vg1, sg0, sg1, sgn, Option.isNone_none, Bool.and_self, Nat.add_zero, Nat.zero_add, Option.bind_some, bodyOf, Option.getD_some, u24, u3, s3, g3, s5, s56, z56, g56, u5, c22, t22, bb56_0_1_2, m25_9, c46, u101, s105, z105, g105, m25_11, f105_0, s103, g103, f105_1, m25_80, sl30, h25, k25, t46, t57, c57, WP_unroll, WP_lp, Tryz.f25, e2, e3, e4, hv, hn, ey.eq, (parts_ok _ _).eq, hp, k25, h25, (parts1 _ _).eq, s0]
      exact ⟨⟨_, rfl⟩, _, _, rfl, _, _, .imm rfl, by omega⟩
  have t0 := fun E => (take_2 (hs2.more [some E]) hb2 (by omega)).eq
  have hs3 := hs2.dropB 2 (by omega)
  have hb3 := hb2.drop 2
  by_cases c1 : (b2.drop 2).length < 4
  · have s1 := fun E => (take_short (hs3.more [some E]) 4 (by omega)).eq
    have hT : takeP [(3, 2), (4, 4), (5, 4)] (invE y 3) b2 = none := by
      simp only [takeP]
      rw [if_neg c0]
      rw [if_pos c1]
    rw [hT]
    refine w25 100 ?_
    cases hv : immV v
    all_goals
      repeat' first | with_reducible refine CondK_split (fun h => ?_) (fun h => ?_) | with_reducible refine gdK_dec (fun h => ?_) (fun h => ?_) | with_reducible refine GuardK_dec (fun h => ?_) (fun h => ?_) | with_reducible refine WP_draw ?_ | with_reducible refine WP_drw_end (by kernel_rfl) ?_ | simp (disch := first | omega | (simp only [List.length_append, List.length_cons, List.length_nil, List.length_set, List.length_map, List.length_replicate, List.length_drop, List.length_take] <;> omega) | assumption) only [WP_nil, WP_seq, WP_skip, WP_ret, WP_exit, WP_code_exit, WP_blk_normal, WP_blk_ex, blkK_t, blkK_f, Nat.reduceBEq, WP_lp_exit, WP_block, WP_cond, CondK_t, CondK_f, CondK_dt, CondK_df, WP_region, WP_ops_nil, WP_op, arK_val, arK_skip, arK_call, After_eq, AfterD_eq, Fin_ret, FinK_some, put_some, put_none, opd_tmp, opd_const, opd_func, ofV_int, ofV_bool, ofV_nils, avOf_v, tg0, tg1, tg2, tg3, tg4, tg5, tg6, tg7, tg8, ts0, ts1, ts2, ts3, ts4, ts5, ts6, ts7, ts8, aop_move, aop_assign, aop_alloc, aop_build, aop_load, aop_store, storeR_some, aop_binOp, aop_unOp, aop_slice, aop_indexAddr, aop_extract, aop_builtin, aop_call, callR_fn, mkP_glob, mkP_df, cellAt_some, rangeAt_some, cellAt_none, rangeAt_none, ld_ip, ld_gp, ld_lp, ldV_f, ldV_t, spliceAt_some, wr_gp, wr_lp, bin_add, bin_andK, bin_shr, bin_eql, bin_lss, aun_not, acvt, intOpd, avOpd, optIdx, frzO, frzL, frzT_v, ares, aresL, acall, abuiltin, alen, slen_is, aindex_eq, ixU_s, ixE_some, ixS_is, aslice_eq, slU_s, slE_some, addP_lp, sure, aextract, wrap_i64, List.map_cons, List.map_nil, List.length_cons, List.length_nil, List.cons_append, List.nil_append, List.append_nil, Option.map_some, Option.map_none, Option.bind_some, mapM_c, mapM_n, Nat.reduceAdd, Nat.reduceMul, Nat.reduceLT, Int.reduceAdd, Int.reduceLT, Int.reduceToNat, if_false, Bool.false_eq_true, Bool.not_true, Bool.not_false, ES_P, WP_drw_n, DT_move, DT_assign, DT_nilCheck, DT_binOp, DT_convert, DT_fieldAddr, DT_indexAddr, DT_extract, DT_load, DT_bslK, bslK_d, DT_stK, stK_v, stS_some, DT_call, qK_some, ldK_some, frK_some, dcK_some, acq_fn, prefrz, lkT_v, lkT_lp, bits_u8, fdiv_pos, andK3_u8, Nat.min_eq_left, Int.reducePow, get_app_r, set_app_r, Nat.sub_self, window_all, win_z, win_s, ite_t, splice_eq, spliceC_one, spliceC_all, List.all_cons, List.all_nil, ok_int, ok_fn, co_int, co_agg, vs0, vs1, ss0, ss1, List.zip_cons_cons, List.zip_nil_right, List.drop_succ_cons, List.drop_zero, eq_self, I, U, B, nilS, vg0, vg1, sg0, sg1, sgn, Option.isNone_none, Bool.and_self, Nat.add_zero, Nat.zero_add, Option.bind_some, bodyOf, Option.getD_some, u24, u3, s3, g3, s5, s56, z56, g56, u5, c22, t22, bb56_0_1_2, m25_9, c46, u101, s105, z105, g105, m25_11, f105_0, s103, g103, f105_1, m25_80, sl30, h25, k25, t46, t57, c57, t58, c58, WP_unroll, WP_lp, Tryz.f25, e2, e3, e4, hv, hn, ey.eq, (parts_ok _ _).eq, hp, k25, h25, (parts1 _ _).eq, (parts2 _ _).eq, t0, s1]
      exact ⟨⟨_, rfl⟩, _, _, rfl, _, _, .imm rfl, by omega⟩
  have t1 := fun E => (take_4 (hs3.more [some E]) hb3 (by omega)).eq
  have hs4 := hs3.dropB 4 (by omega)
  have hb4 := hb3.drop 4
  by_cases c2 : ((b2.drop 2).drop 4).length < 4
  · have s2 := fun E => (take_short (hs4.more [some E]) 4 (by omega)).eq
    have hT : takeP [(3, 2), (4, 4), (5, 4)] (invE y 3) b2 = none := by
      simp only [takeP]
      rw [if_neg c0]
      rw [if_neg c1]
      rw [if_pos c2]
    rw [hT]
    refine w25 100 ?_
    cases hv : immV v
    all_goals
      repeat' first | with_reducible refine CondK_split (fun h => ?_) (fun h => ?_) | with_reducible refine gdK_dec (fun h => ?_) (fun h => ?_) | with_reducible refine GuardK_dec (fun h => ?_) (fun h => ?_) | with_reducible refine WP_draw ?_ | with_reducible refine WP_drw_end (by kernel_rfl) ?_ | simp (disch := first | omega | (simp only [List.length_append, List.length_cons, List.length_nil, List.length_set, List.length_map, List.length_replicate, List.length_drop, List.length_take] <;> omega) | assumption) only [WP_nil, WP_seq, WP_skip, WP_ret, WP_exit, WP_code_exit, WP_blk_normal, WP_blk_ex, blkK_t, Nat.reduceBEq, WP_lp_exit, WP_block, WP_cond, CondK_f, CondK_dt, CondK_df, WP_region, WP_ops_nil, WP_op, arK_val, arK_skip, arK_call, After_eq, AfterD_eq, Fin_ret, FinK_some, put_some, put_none, opd_tmp, opd_const, opd_func, ofV_int, ofV_bool, ofV_nils, avOf_v, tg0, tg1, tg2, tg3, tg4, tg5, tg6, tg7, tg8, ts0, ts1, ts2, ts3, ts4, ts5, ts6, ts7, ts8, aop_move, aop_assign, aop_alloc, aop_build, aop_load, aop_store, storeR_some, aop_binOp, aop_unOp, aop_slice, aop_indexAddr, aop_extract, aop_builtin, aop_call, callR_fn, mkP_glob, mkP_df, cellAt_some, rangeAt_some, cellAt_none, rangeAt_none, ld_ip, ld_gp, ld_lp, ldV_f, ldV_t, spliceAt_some, wr_gp, wr_lp, bin_add, bin_andK, bin_shr, bin_eql, bin_lss, aun_not, acvt, intOpd, avOpd, optIdx, frzO, frzL, frzT_v, ares, aresL, acall, abuiltin, alen, slen_is, aindex_eq, ixU_s, ixE_some, ixS_is, aslice_eq, slU_s, slE_some, addP_lp, sure, aextract, wrap_i64, List.map_cons, List.map_nil, List.length_cons, List.length_nil, List.cons_append, List.nil_append, List.append_nil, Option.map_some, Option.map_none, Option.bind_some, mapM_c, mapM_n, Nat.reduceAdd, Nat.reduceMul, Nat.reduceLT, Int.reduceAdd, Int.reduceLT, Int.reduceToNat, if_false, Bool.false_eq_true, Bool.not_true, ES_P, WP_drw_n, DT_move, DT_assign, DT_nilCheck, DT_binOp, DT_convert, DT_fieldAddr, DT_indexAddr, DT_extract, DT_load, DT_bslK, bslK_d, DT_stK, stK_v, stS_some, DT_call, qK_some, ldK_some, frK_some, dcK_some, acq_fn, prefrz, lkT_v, lkT_lp, bits_u8, fdiv_pos, andK3_u8, Nat.min_eq_left, Int.reducePow, get_app_r, set_app_r, Nat.sub_self, window_all, win_z, win_s, ite_t, splice_eq, spliceC_one, spliceC_all, List.all_cons, List.all_nil, ok_int, ok_fn, co_int, co_agg, vs0, vs1, ss0, ss1, List.zip_cons_cons, List.zip_nil_right, List.drop_succ_cons, List.drop_zero, eq_self, I, U, B, nilS, vg0, vg1, sg0, sg1, sgn, Option.isNone_none, Bool.and_self, Nat.add_zero, Nat.zero_add, Option.bind_some, bodyOf, Option.getD_some, u24, u3, s3, g3, s5, s56, z56, g56, u5, c22, t22, bb56_0_1_2, m25_9, c46, u101, s105, z105, g105, m25_11, f105_0, s103, g103, f105_1, m25_80, sl30, h25, k25, t46, t57, c57, t58, c58, t59, c59, WP_unroll, WP_lp, Tryz.f25, e2, e3, e4, hv, hn, ey.eq, (parts_ok _ _).eq, hp, k25, h25, (parts1 _ _).eq, (parts2 _ _).eq, (parts3 _ _).eq, t0, t1, s2]
      exact ⟨⟨_, rfl⟩, _, _, rfl, _, _, .imm rfl, by omega⟩
  have t2 := fun E => (take_4 (hs4.more [some E]) hb4 (by omega)).eq
  have hs5 := hs4.dropB 4 (by omega)
  have hb5 := hb4.drop 4
  simp only [takeP]
  rw [if_neg c0]
  rw [if_neg c1]
  rw [if_neg c2]
  refine w25 100 ?_
  cases hv : immV v
  all_goals
    repeat' first | with_reducible refine CondK_split (fun h => ?_) (fun h => ?_) | with_reducible refine gdK_dec (fun h => ?_) (fun h => ?_) | with_reducible refine GuardK_dec (fun h => ?_) (fun h => ?_) | with_reducible refine WP_draw ?_ | with_reducible refine WP_drw_end (by kernel_rfl) ?_ | simp (disch := first | omega | (simp only [List.length_append, List.length_cons, List.length_nil, List.length_set, List.length_map, List.length_replicate, List.length_drop, List.length_take] <;> omega) | assumption) only [WP_nil, WP_seq, WP_skip, WP_ret, WP_exit, WP_code_exit, WP_blk_normal, WP_blk_ex, blkK_t, Nat.reduceBEq, WP_lp_exit, WP_block, WP_cond, CondK_f, CondK_dt, CondK_df, WP_region, WP_ops_nil, WP_op, arK_val, arK_skip, arK_call, After_eq, AfterD_eq, Fin_ret, FinK_some, put_some, put_none, opd_tmp, opd_const, opd_func, ofV_int, ofV_bool, ofV_nils, avOf_v, tg0, tg1, tg2, tg3, tg4, tg5, tg6, tg7, tg8, ts0, ts1, ts2, ts3, ts4, ts5, ts6, ts7, ts8, aop_move, aop_assign, aop_alloc, aop_build, aop_load, aop_store, storeR_some, aop_binOp, aop_unOp, aop_slice, aop_indexAddr, aop_extract, aop_builtin, aop_call, callR_fn, mkP_glob, mkP_df, cellAt_some, rangeAt_some, cellAt_none, rangeAt_none, ld_ip, ld_gp, ld_lp, ldV_f, ldV_t, spliceAt_some, wr_gp, wr_lp, bin_add, bin_andK, bin_shr, bin_eql, bin_lss, aun_not, acvt, intOpd, avOpd, optIdx, frzO, frzL, frzT_v, ares, aresL, acall, abuiltin, alen, slen_is, aindex_eq, ixU_s, ixE_some, ixS_is, aslice_eq, slU_s, slE_some, addP_lp, sure, aextract, wrap_i64, List.map_cons, List.map_nil, List.length_cons, List.length_nil, List.cons_append, List.nil_append, List.append_nil, Option.map_some, Option.map_none, Option.bind_some, mapM_c, mapM_n, Nat.reduceAdd, Nat.reduceMul, Nat.reduceLT, Int.reduceAdd, Int.reduceLT, Int.reduceToNat, if_false, Bool.false_eq_true, Bool.not_true, ES_P, WP_drw_n, DT_move, DT_assign, DT_nilCheck, DT_binOp, DT_convert, DT_fieldAddr, DT_indexAddr, DT_extract, DT_load, DT_bslK, bslK_d, DT_stK, stK_v, stS_some, DT_call, qK_some, ldK_some, frK_some, dcK_some, acq_fn, prefrz, lkT_v, lkT_lp, bits_u8, fdiv_pos, andK3_u8, Nat.min_eq_left, Int.reducePow, get_app_r, set_app_r, Nat.sub_self, window_all, win_z, win_s, ite_t, splice_eq, spliceC_one, spliceC_all, List.all_cons, List.all_nil, ok_int, ok_fn, co_int, co_agg, vs0, vs1, ss0, ss1, List.zip_cons_cons, List.zip_nil_right, List.drop_succ_cons, List.drop_zero, eq_self, I, U, B, vg0, vg1, sg0, sg1, sgn, Option.isNone_none, Bool.and_self, Nat.add_zero, Nat.zero_add, Option.bind_some, bodyOf, Option.getD_some, u24, u3, s3, g3, s5, s56, z56, g56, u5, c22, t22, bb56_0_1_2, m25_9, c46, u101, s105, z105, g105, m25_11, f105_0, s103, g103, f105_1, m25_80, sl30, h25, k25, t46, t57, c57, t58, c58, t59, c59, WP_unroll, WP_lp, Tryz.f25, e2, e3, e4, hv, hn, ey.eq, (parts_ok _ _).eq, hp, k25, h25, (parts1 _ _).eq, (parts2 _ _).eq, (parts3 _ _).eq, t0, t1, t2]
    exact ⟨⟨_, rfl⟩, _, _, rfl, hs5, .imm rfl⟩

theorem entry_inv4 (hs : Sl σ 1 v (bs.map U) bs.length) (hb : Byt bs) (h1 : 1 ≤ bs.length) (hx : bs.getD 0 0 % 4 = 3) (hn : bs.getD 0 0 / 4 = 4) (hs2 : Sl σ 1 v2 (b2.map U) b2.length) (hb2 : Byt b2)
    (ey : Ans ES 22 [subP 1 v 1 bs.length, I 1] σ (Is (.tup [v2, I y, B true]) σ)) : Ans ES 25 [v] σ (InvR σ (takeP (partsOf (bs.getD 0 0 / 4)) (invE y (bs.getD 0 0 / 4)) b2)) := by
  have e1 := hs.sl
  have e2 := hs.ix
  have b0 := hb 0 (by omega)
  have e3 := fun f n all (o : Oper) l cls k Q loc ts => hs.ldk (E := ES) (f := f) (n := n) (all := all) (o := o) (l := l) (cls := cls) (k := k) (Q := Q) (loc := loc) (ts := ts) (e := 5) (by rw [ES_P]; exact g5) 0 (U (bs.getD 0 0)) (by rw [List.getElem?_map, getq (by omega)]; rfl)
  have e4 := hs.from
  have hp : partsV (4 : Int) = .is [.fn 57 [] [], I 2, .fn 58 [] [], I 4, .fn 60 [] [], I 1] 3 true := rfl
  have hq : partsOf 4 = [(3, 2), (4, 4), (6, 1)] := rfl
  rw [hn, hq]
  by_cases c0 : (b2).length < 2
  · have s0 := fun E => (take_short (hs2.more [some E]) 2 (by omega)).eq
    have hT : takeP [(3, 2), (4, 4), (6, 1)] (invE y 4) b2 = none := by
      simp only [takeP]
      rw [if_pos c0]
    rw [hT]
    refine w25 100 ?_
    cases hv : immV v
    all_goals
      repeat' first | with_reducible refine CondK_split (fun h => ?_) (fun h => ?_) | with_reducible refine gdK_dec (fun h => ?_) (fun h => ?_) | with_reducible refine GuardK_dec (fun h => ?_) (fun h => ?_) | with_reducible refine WP_draw ?_ | with_reducible refine WP_drw_end (by kernel_rfl) ?_ | simp (disch := first | omega | (simp only [List.length_append, List.length_cons, List.length_nil, List.length_set, List.length_map, List.length_replicate, List.length_drop, List.length_take] <;> omega) | assumption) only [WP_nil, WP_seq, WP_skip, WP_ret, WP_exit, WP_code_exit, WP_blk_normal, WP_blk_ex, blkK_t, blkK_f, Nat.reduceBEq, WP_lp_exit, WP_block, WP_cond, CondK_t, CondK_f, CondK_dt, CondK_df, WP_region, WP_ops_nil, WP_op, arK_val, arK_skip, arK_call, After_eq, AfterD_eq, Fin_ret, FinK_some, put_some, put_none, opd_tmp, opd_const, opd_func, ofV_int, ofV_bool, ofV_nils, avOf_v, tg0, tg1, tg2, tg3, tg4, tg5, tg6, tg7, tg8, ts0, ts1, ts2, ts3, ts4, ts5, ts6, ts7, ts8, aop_move, aop_assign, aop_alloc, aop_build, aop_load, aop_store, storeR_some, aop_binOp, aop_unOp, aop_slice, aop_indexAddr, aop_extract, aop_builtin, aop_call, callR_fn, mkP_glob, mkP_df, cellAt_some, rangeAt_some, cellAt_none, rangeAt_none, ld_ip, ld_gp, ld_lp, ldV_f, ldV_t, spliceAt_some, wr_gp, wr_lp, bin_add, bin_andK, bin_shr, bin_eql, bin_lss, aun_not, acvt, intOpd, avOpd, optIdx, frzO, frzL, frzT_v, ares, aresL, acall, abuiltin, alen, slen_is, aindex_eq, ixU_s, ixE_some, ixS_is, aslice_eq, slU_s, slE_some, addP_lp, sure, aextract, wrap_i64, List.map_cons, List.map_nil, List.length_cons, List.length_nil, List.cons_append, List.nil_append, List.append_nil, Option.map_some, Option.map_none, Option.bind_some, mapM_c, mapM_n, Nat.reduceAdd, Nat.reduceMul, Nat.reduceLT, Int.reduceAdd, Int.reduceLT, Int.reduceToNat, if_false, Bool.false_eq_true, Bool.not_true, Bool.not_false, ES_P, WP_drw_n, DT_move, DT_assign, DT_nilCheck, DT_binOp, DT_convert, DT_fieldAddr, DT_indexAddr, DT_extract, DT_load, DT_bslK, bslK_d, DT_stK, stK_v, stS_some, DT_call, qK_some, ldK_some, frK_some, dcK_some, acq_fn, prefrz, lkT_v, lkT_lp, bits_u8, fdiv_pos, andK3_u8, Nat.min_eq_left, Int.reducePow, get_app_r, set_app_r, Nat.sub_self, window_all, win_z, win_s, ite_t, splice_eq, spliceC_one, spliceC_all, List.all_cons, List.all_nil, ok_int, ok_fn, co_int, co_agg, vs0, vs1, ss0, ss1, List.zip_cons_cons, List.zip_nil_right, List.drop_succ_cons, List.drop_zero, eq_self, I, U, B, nilS, vg0, vg1, sg0, sg1, sgn, Option.isNone_none, Bool.and_self, Nat.add_zero, Nat.zero_add, Option.bind_some, bodyOf, Option.getD_some, u24, u3, s3, g3, s5, s56, z56, g56, u5, c22, t22, bb56_0_1_2, m25_9, c46, u101, s105, z105, g105, m25_11, f105_0, s103, g103, f105_1, m25_80, sl30, h25, k25, t46, t57, c57, WP_unroll, WP_lp, Tryz.f25, e2, e3, e4, hv, hn, ey.eq, (parts_ok _ _).eq, hp, k25, h25, (parts1 _ _).eq, s0]
      exact ⟨⟨_, rfl⟩, _, _, rfl, _, _, .imm rfl, by omega⟩
  have t0 := fun E => (take_2 (hs2.more [some E]) hb2 (by omega)).eq
  have hs3 := hs2.dropB 2 (by omega)
  have hb3 := hb2.drop 2
  by_cases c1 : (b2.drop 2).length < 4
  · have s1 := fun E => (take_short (hs3.more [some E]) 4 (by omega)).eq
    have hT : takeP [(3, 2), (4, 4), (6, 1)] (invE y 4) b2 = none := by
      simp only [takeP]
      rw [if_neg c0]
      rw [if_pos c1]
    rw [hT]
    refine w25 100 ?_
    cases hv : immV v
    all_goals
      repeat' first | with_reducible refine CondK_split (fun h => ?_) (fun h => ?_) | with_reducible refine gdK_dec (fun h => ?_) (fun h => ?_) | with_reducible refine GuardK_dec (fun h => ?_) (fun h => ?_) | with_reducible refine WP_draw ?_ | with_reducible refine WP_drw_end (by kernel_rfl) ?_ | simp (disch := first | omega | (simp only [List.length_append, List.length_cons, List.length_nil, List.length_set, List.length_map, List.length_replicate, List.length_drop, List.length_take] <;> omega) | assumption) only [WP_nil, WP_seq, WP_skip, WP_ret, WP_exit, WP_code_exit, WP_blk_normal, WP_blk_ex, blkK_t, blkK_f, Nat.reduceBEq, WP_lp_exit, WP_block, WP_cond, CondK_t, CondK_f, CondK_dt, CondK_df, WP_region, WP_ops_nil, WP_op, arK_val, arK_skip, arK_call, After_eq, AfterD_eq, Fin_ret, FinK_some, put_some, put_none, opd_tmp, opd_const, opd_func, ofV_int, ofV_bool, ofV_nils, avOf_v, tg0, tg1, tg2, tg3, tg4, tg5, tg6, tg7, tg8, ts0, ts1, ts2, ts3, ts4, ts5, ts6, ts7, ts8, aop_move, aop_assign, aop_alloc, aop_build, aop_load, aop_store, storeR_some, aop_binOp, aop_unOp, aop_slice, aop_indexAddr, aop_extract, aop_builtin, aop_call, callR_fn, mkP_glob, mkP_df, cellAt_some, rangeAt_some, cellAt_none, rangeAt_none, ld_ip, ld_gp, ld_lp, ldV_f, ldV_t, spliceAt_some, wr_gp, wr_lp, bin_add, bin_andK, bin_shr, bin_eql, bin_lss, aun_not, acvt, intOpd, avOpd, optIdx, frzO, frzL, frzT_v, ares, aresL, acall, abuiltin, alen, slen_is, aindex_eq, ixU_s, ixE_some, ixS_is, aslice_eq, slU_s, slE_some, addP_lp, sure, aextract, wrap_i64, List.map_cons, List.map_nil, List.length_cons, List.length_nil, List.cons_append, List.nil_append, List.append_nil, Option.map_some, Option.map_none, Option.bind_some, mapM_c, mapM_n, Nat.reduceAdd, Nat.reduceMul, Nat.reduceLT, Int.reduceAdd, Int.reduceLT, Int.reduceToNat, if_false, Bool.false_eq_true, Bool.not_true, Bool.not_false, ES_P, WP_drw_n, DT_move, DT_assign, DT_nilCheck, DT_binOp, DT_convert, DT_fieldAddr, DT_indexAddr, DT_extract, DT_load, DT_bslK, bslK_d, DT_stK, stK_v, stS_some, DT_call, qK_some, ldK_some, frK_some, dcK_some, acq_fn, prefrz, lkT_v, lkT_lp, bits_u8, fdiv_pos, andK3_u8, Nat.min_eq_left, Int.reducePow, get_app_r, set_app_r, Nat.sub_self, window_all, win_z, win_s, ite_t, splice_eq, spliceC_one, spliceC_all, List.all_cons, List.all_nil, ok_int, ok_fn, co_int, co_agg, vs0, vs1, ss0, ss1, List.zip_cons_cons, List.zip_nil_right, List.drop_succ_cons, List.drop_zero, eq_self, I, U, B, nilS, vg0, vg1, sg0, sg1, sgn, Option.isNone_none, Bool.and_self, Nat.add_zero, Nat.zero_add, Option.bind_some, bodyOf, Option.getD_some, u24, u3, s3, g3, s5, s56, z56, g56, u5, c22, t22, bb56_0_1_2, m25_9, c46, u101, s105, z105, g105, m25_11, f105_0, s103, g103, f105_1, m25_80, sl30, h25, k25, t46, t57, c57, t58, c58, WP_unroll, WP_lp, Tryz.f25, e2, e3, e4, hv, hn, ey.eq, (parts_ok _ _).eq, hp, k25, h25, (parts1 _ _).eq, (parts2 _ _).eq, t0, s1]
      exact ⟨⟨_, rfl⟩, _, _, rfl, _, _, .imm rfl, by omega⟩
  have t1 := fun E => (take_4 (hs3.more [some E]) hb3 (by omega)).eq
  have hs4 := hs3.dropB 4 (by omega)
  have hb4 := hb3.drop 4
  by_cases c2 : ((b2.drop 2).drop 4).length < 1
  · have s2 := fun E => (take_short (hs4.more [some E]) 1 (by omega)).eq
    have hT : takeP [(3, 2), (4, 4), (6, 1)] (invE y 4) b2 = none := by
      simp only [takeP]
      rw [if_neg c0]
      rw [if_neg c1]
      rw [if_pos c2]
    rw [hT]
    refine w25 100 ?_
    cases hv : immV v
    all_goals
      repeat' first | with_reducible refine CondK_split (fun h => ?_) (fun h => ?_) | with_reducible refine gdK_dec (fun h => ?_) (fun h => ?_) | with_reducible refine GuardK_dec (fun h => ?_) (fun h => ?_) | with_reducible refine WP_draw ?_ | with_reducible refine WP_drw_end (by kernel_rfl) ?_ | simp (disch := first | omega | (simp only [List.length_append, List.length_cons, List.length_nil, List.length_set, List.length_map, List.length_replicate, List.length_drop, List.length_take] <;> omega) | assumption) only [WP_nil, WP_seq, WP_skip, WP_ret, WP_exit, WP_code_exit, WP_blk_normal, WP_blk_ex, blkK_t, Nat.reduceBEq, WP_lp_exit, WP_block, WP_cond, CondK_f, CondK_dt, CondK_df, WP_region, WP_ops_nil, WP_op, arK_val, arK_skip, arK_call, After_eq, AfterD_eq, Fin_ret, FinK_some, put_some, put_none, opd_tmp, opd_const, opd_func, ofV_int, ofV_bool, ofV_nils, avOf_v, tg0, tg1, tg2, tg3, tg4, tg5, tg6, tg7, tg8, ts0, ts1, ts2, ts3, ts4, ts5, ts6, ts7, ts8, aop_move, aop_assign, aop_alloc, aop_build, aop_load, aop_store, storeR_some, aop_binOp, aop_unOp, aop_slice, aop_indexAddr, aop_extract, aop_builtin, aop_call, callR_fn, mkP_glob, mkP_df, cellAt_some, rangeAt_some, cellAt_none, rangeAt_none, ld_ip, ld_gp, ld_lp, ldV_f, ldV_t, spliceAt_some, wr_gp, wr_lp, bin_add, bin_andK, bin_shr, bin_eql, bin_lss, aun_not, acvt, intOpd, avOpd, optIdx, frzO, frzL, frzT_v, ares, aresL, acall, abuiltin, alen, slen_is, aindex_eq, ixU_s, ixE_some, ixS_is, aslice_eq, slU_s, slE_some, addP_lp, sure, aextract, wrap_i64, List.map_cons, List.map_nil, List.length_cons, List.length_nil, List.cons_append, List.nil_append, List.append_nil, Option.map_some, Option.map_none, Option.bind_some, mapM_c, mapM_n, Nat.reduceAdd, Nat.reduceMul, Nat.reduceLT, Int.reduceAdd, Int.reduceLT, Int.reduceToNat, if_false, Bool.false_eq_true, Bool.not_true, ES_P, WP_drw_n, DT_move, DT_assign, DT_nilCheck, DT_binOp, DT_convert, DT_fieldAddr, DT_indexAddr, DT_extract, DT_load, DT_bslK, bslK_d, DT_stK, stK_v, stS_some, DT_call, qK_some, ldK_some, frK_some, dcK_some, acq_fn, prefrz, lkT_v, lkT_lp, bits_u8, fdiv_pos, andK3_u8, Nat.min_eq_left, Int.reducePow, get_app_r, set_app_r, Nat.sub_self, window_all, win_z, win_s, ite_t, splice_eq, spliceC_one, spliceC_all, List.all_cons, List.all_nil, ok_int, ok_fn, co_int, co_agg, vs0, vs1, ss0, ss1, List.zip_cons_cons, List.zip_nil_right, List.drop_succ_cons, List.drop_zero, eq_self, I, U, B, nilS, vg0, vg1, sg0, sg1, sgn, Option.isNone_none, Bool.and_self, Nat.add_zero, Nat.zero_add, Option.bind_some, bodyOf, Option.getD_some, u24, u3, s3, g3, s5, s56, z56, g56, u5, c22, t22, bb56_0_1_2, m25_9, c46, u101, s105, z105, g105, m25_11, f105_0, s103, g103, f105_1, m25_80, sl30, h25, k25, t46, t57, c57, t58, c58, t60, c60, WP_unroll, WP_lp, Tryz.f25, e2, e3, e4, hv, hn, ey.eq, (parts_ok _ _).eq, hp, k25, h25, (parts1 _ _).eq, (parts2 _ _).eq, (parts4 _ _).eq, t0, t1, s2]
      exact ⟨⟨_, rfl⟩, _, _, rfl, _, _, .imm rfl, by omega⟩
  have t2 := fun E => (take_1 (hs4.more [some E]) hb4 (by omega)).eq
  have hs5 := hs4.dropB 1 (by omega)
  have hb5 := hb4.drop 1
  simp only [takeP]
  rw [if_neg c0]
  rw [if_neg c1]
  rw [if_neg c2]
  refine w25 100 ?_
  cases hv : immV v
  all_goals
    repeat' first | with_reducible refine CondK_split (fun h => ?_) (fun h => ?_) | with_reducible refine gdK_dec (fun h => ?_) (fun h => ?_) | with_reducible refine GuardK_dec (fun h => ?_) (fun h => ?_) | with_reducible refine WP_draw ?_ | with_reducible refine WP_drw_end (by kernel_rfl) ?_ | simp (disch := first | omega | (simp only [List.length_append, List.length_cons, List.length_nil, List.length_set, List.length_map, List.length_replicate, List.length_drop, List.length_take] <;> omega) | assumption) only [WP_nil, WP_seq, WP_skip, WP_ret, WP_exit, WP_code_exit, WP_blk_normal, WP_blk_ex, blkK_t, Nat.reduceBEq, WP_lp_exit, WP_block, WP_cond, CondK_f, CondK_dt, CondK_df, WP_region, WP_ops_nil, WP_op, arK_val, arK_skip, arK_call, After_eq, AfterD_eq, Fin_ret, FinK_some, put_some, put_none, opd_tmp, opd_const, opd_func, ofV_int, ofV_bool, ofV_nils, avOf_v, tg0, tg1, tg2, tg3, tg4, tg5, tg6, tg7, tg8, ts0, ts1, ts2, ts3, ts4, ts5, ts6, ts7, ts8, aop_move, aop_assign, aop_alloc, aop_build, aop_load, aop_store, storeR_some, aop_binOp, aop_unOp, aop_slice, aop_indexAddr, aop_extract, aop_builtin, aop_call, callR_fn, mkP_glob, mkP_df, cellAt_some, rangeAt_some, cellAt_none, rangeAt_none, ld_ip, ld_gp, ld_lp, ldV_f, ldV_t, spliceAt_some, wr_gp, wr_lp, bin_add, bin_andK, bin_shr, bin_eql, bin_lss, aun_not, acvt, intOpd, avOpd, optIdx, frzO, frzL, frzT_v, ares, aresL, acall, abuiltin, alen, slen_is, aindex_eq, ixU_s, ixE_some, ixS_is, aslice_eq, slU_s, slE_some, addP_lp, sure, aextract, wrap_i64, List.map_cons, List.map_nil, List.length_cons, List.length_nil, List.cons_append, List.nil_append, List.append_nil, Option.map_some, Option.map_none, Option.bind_some, mapM_c, mapM_n, Nat.reduceAdd, Nat.reduceMul, Nat.reduceLT, Int.reduceAdd, Int.reduceLT, Int.reduceToNat, if_false, Bool.false_eq_true, Bool.not_true, ES_P, WP_drw_n, DT_move, DT_assign, DT_nilCheck, DT_binOp, DT_convert, DT_fieldAddr, DT_indexAddr, DT_extract, DT_load, DT_bslK, bslK_d, DT_stK, stK_v, stS_some, DT_call, qK_some, ldK_some, frK_some, dcK_some, acq_fn, prefrz, lkT_v, lkT_lp, bits_u8, fdiv_pos, andK3_u8, Nat.min_eq_left, Int.reducePow, get_app_r, set_app_r, Nat.sub_self, window_all, win_z, win_s, ite_t, splice_eq, spliceC_one, spliceC_all, List.all_cons, List.all_nil, ok_int, ok_fn, co_int, co_agg, vs0, vs1, ss0, ss1, List.zip_cons_cons, List.zip_nil_right, List.drop_succ_cons, List.drop_zero, eq_self, I, U, B, vg0, vg1, sg0, sg1, sgn, Option.isNone_none, Bool.and_self, Nat.add_zero, Nat.zero_add, Option.bind_some, bodyOf, Option.getD_some, u24, u3, s3, g3, s5, s56, z56, g56, u5, c22, t22, bb56_0_1_2, m25_9, c46, u101, s105, z105, g105, m25_11, f105_0, s103, g103, f105_1, m25_80, sl30, h25, k25, t46, t57, c57, t58, c58, t60, c60, WP_unroll, WP_lp, Tryz.f25, e2, e3, e4, hv, hn, ey.eq, (parts_ok _ _).eq, hp, k25, h25, (parts1 _ _).eq, (parts2 _ _).eq, (parts4 _ _).eq, t0, t1, t2]
    exact ⟨⟨_, rfl⟩, _, _, rfl, hs5, .imm rfl⟩

theorem entry_inv0 (hs : Sl σ 1 v (bs.map U) bs.length) (hb : Byt bs) (h1 : 1 ≤ bs.length) (hx : bs.getD 0 0 % 4 = 3) (hn : bs.getD 0 0 / 4 ≠ 1 ∧ bs.getD 0 0 / 4 ≠ 2 ∧ bs.getD 0 0 / 4 ≠ 3 ∧ bs.getD 0 0 / 4 ≠ 4) (hs2 : Sl σ 1 v2 (b2.map U) b2.length) (hb2 : Byt b2)
    (ey : Ans ES 22 [subP 1 v 1 bs.length, I 1] σ (Is (.tup [v2, I y, B true]) σ)) : Ans ES 25 [v] σ (InvR σ (takeP (partsOf (bs.getD 0 0 / 4)) (invE y (bs.getD 0 0 / 4)) b2)) := by
  have e1 := hs.sl
  have e2 := hs.ix
  have b0 := hb 0 (by omega)
  have e3 := fun f n all (o : Oper) l cls k Q loc ts => hs.ldk (E := ES) (f := f) (n := n) (all := all) (o := o) (l := l) (cls := cls) (k := k) (Q := Q) (loc := loc) (ts := ts) (e := 5) (by rw [ES_P]; exact g5) 0 (U (bs.getD 0 0)) (by rw [List.getElem?_map, getq (by omega)]; rfl)
  have e4 := hs.from
  have hp : partsV (bs.getD 0 0 / 4) = nilS := by unfold partsV; rw [if_neg hn.1, if_neg hn.2.1, if_neg hn.2.2.1, if_neg hn.2.2.2]
  have hq : partsOf (bs.getD 0 0 / 4) = [] := by unfold partsOf; rw [if_neg hn.1, if_neg hn.2.1, if_neg hn.2.2.1, if_neg hn.2.2.2]
  rw [hq]
  simp only [takeP]
  refine w25 100 ?_
  cases hv : immV v
  all_goals
    repeat' first | with_reducible refine CondK_split (fun h => ?_) (fun h => ?_) | with_reducible refine gdK_dec (fun h => ?_) (fun h => ?_) | with_reducible refine GuardK_dec (fun h => ?_) (fun h => ?_) | with_reducible refine WP_draw ?_ | with_reducible refine WP_drw_end (by kernel_rfl) ?_ | simp (disch := first | omega | (simp only [List.length_append, List.length_cons, List.length_nil, List.length_set, List.length_map, List.length_replicate, List.length_drop, List.length_take] <;> omega) | assumption) only [WP_nil, WP_seq, WP_skip, WP_ret, WP_exit, WP_code_exit, WP_blk_ex, blkK_t, Nat.reduceBEq, WP_lp_exit, WP_block, WP_cond, CondK_df, WP_region, WP_ops_nil, WP_op, arK_val, arK_skip, arK_call, After_eq, Fin_ret, FinK_some, put_some, put_none, opd_tmp, opd_const, opd_func, ofV_int, ofV_bool, ofV_nils, avOf_v, tg0, tg1, tg2, tg3, tg4, tg5, tg6, tg7, tg8, ts0, ts1, ts2, ts3, ts4, ts5, ts6, ts7, ts8, aop_move, aop_assign, aop_alloc, aop_build, aop_store, storeR_some, aop_binOp, aop_slice, aop_extract, aop_builtin, aop_call, callR_fn, mkP_glob, cellAt_some, rangeAt_some, cellAt_none, rangeAt_none, ld_gp, ldV_t, spliceAt_some, wr_gp, bin_andK, bin_shr, bin_eql, bin_lss, acvt, intOpd, avOpd, optIdx, frzO, frzL, frzT_v, ares, aresL, acall, abuiltin, alen, slen_nil, aindex_eq, ixU_s, ixE_some, aslice_eq, slU_s, slE_some, aextract, wrap_i64, List.map_cons, List.map_nil, List.length_cons, List.length_nil, List.cons_append, List.nil_append, List.append_nil, Option.map_some, Option.map_none, Option.bind_some, mapM_c, mapM_n, Nat.reduceAdd, Nat.reduceMul, Int.reduceLT, Int.reduceToNat, if_false, Bool.false_eq_true, ES_P, WP_drw_n, DT_move, DT_assign, DT_binOp, DT_convert, DT_indexAddr, DT_load, DT_bslK, bslK_d, qK_some, ldK_some, frK_some, prefrz, lkT_v, bits_u8, fdiv_pos, andK3_u8, Nat.min_eq_left, Int.reducePow, get_app_r, set_app_r, Nat.sub_self, window_all, ite_t, splice_eq, spliceC_all, List.all_cons, List.all_nil, ok_int, co_agg, ss0, List.zip_cons_cons, List.zip_nil_right, eq_self, I, U, B, nilS, vg0, vg1, sg0, sgn, Bool.and_self, Nat.zero_add, Option.bind_some, bodyOf, Option.getD_some, u24, u3, s5, s56, z56, g56, u5, c22, t22, bb56_0_1_2, m25_9, c46, u101, m25_80, sl30, h25, k25, t46, WP_unroll, WP_lp, Tryz.f25, e2, e3, e4, hv, ey.eq, (parts_ok _ _).eq, hp, k25, h25]
    exact ⟨⟨_, rfl⟩, _, _, rfl, hs2, .imm rfl⟩

theorem entry_inv (hs : Sl σ 1 v (bs.map U) bs.length) (hb : Byt bs) (h1 : 2 ≤ bs.length) (hx : bs.getD 0 0 % 4 = 3) :
    Ans ES 25 [v] σ (InvR σ (takeP (partsOf (bs.getD 0 0 / 4)) (invE (bs.getD 1 0) (bs.getD 0 0 / 4)) (bs.drop 2))) := by
  have hs1 := hs.dropB 1 (by omega)
  have hl1 : (bs.drop 1).length = bs.length - 1 := List.length_drop
  have ey := take_1 hs1 (hb.drop 1) (by omega)
  rw [le_take1 (k := 1) (by omega)] at ey
  have hs2 := hs1.dropB 1 (by omega)
  have hb2 := (hb.drop 1).drop 1
  rw [List.drop_drop] at hs2 hb2
  by_cases n1 : bs.getD 0 0 / 4 = 1
  · exact entry_inv1 hs hb (by omega) hx n1 hs2 hb2 ey
  by_cases n2 : bs.getD 0 0 / 4 = 2
  · exact entry_inv2 hs hb (by omega) hx n2 hs2 hb2 ey
  by_cases n3 : bs.getD 0 0 / 4 = 3
  · exact entry_inv3 hs hb (by omega) hx n3 hs2 hb2 ey
  by_cases n4 : bs.getD 0 0 / 4 = 4
  · exact entry_inv4 hs hb (by omega) hx n4 hs2 hb2 ey
  exact entry_inv0 hs hb (by omega) hx ⟨n1, n2, n3, n4⟩ hs2 hb2 ey

/-- What an entry's bytes give, whatever they are. -/
def EntR (σ : Store) (o : Option (List Ent × List Int)) (r : AV) (σ' : Store) : Prop := (∃ g, σ' = σ ++ g) ∧ match o with
  | some (es, rst) => ∃ v' w, r = .tup [v', w, B true] ∧ Sl σ 1 v' (rst.map U) rst.length ∧ Sl σ' 8 w (ents es) es.length
  | none => ∃ a w, r = .tup [a, w, B false] ∧ ∃ cs n, Sl σ' 8 w cs n ∧ n < 1000

theorem entry_ok (hs : Sl σ 1 v (bs.map U) bs.length) (hb : Byt bs) (h1 : 1 ≤ bs.length) (hl : bs.length < 2 ^ 40) :
    Ans ES 25 [v] σ (EntR σ (stepS (bs.getD 0 0) (bs.drop 1))) := by
  have b0 := hb 0 (by omega)
  have hs1 := hs.dropB 1 (by omega)
  unfold stepS
  by_cases h0 : bs.getD 0 0 % 4 = 0
  · rw [if_pos h0]
    refine (entry_tick hs hb h1 hl h0).mono ?_
    rintro r σ' ⟨rfl, w, rfl, hw⟩
    refine ⟨⟨[], by simp⟩, _, w, rfl, hs1, ?_⟩
    rw [ents_rep, List.length_replicate]
    exact hw
  rw [if_neg h0]
  by_cases h2 : bs.getD 0 0 % 4 = 1
  · rw [if_pos h2]
    refine (entry_one hs hb h1 hl h2).mono ?_
    rintro r σ' ⟨rfl, w, rfl, hw⟩
    exact ⟨⟨[], by simp⟩, _, w, rfl, hs1, by simpa [ents, rep] using hw⟩
  rw [if_neg h2]
  by_cases hlen : bs.length = 1
  · have hd : bs.drop 1 = [] := by apply List.drop_of_length_le; omega
    rw [hd]
    exact entry_end hs hb hlen (by omega)
  have hd : bs.drop 1 = bs.getD 1 0 :: bs.drop 2 := by
    rw [List.drop_eq_getElem_cons (by omega), getD_lt' (by omega)]
  rw [hd]
  simp only
  by_cases h3 : bs.getD 0 0 % 4 = 2
  · rw [if_pos h3]
    refine (entry_picks hs hb (by omega) hl h3).mono ?_
    rintro r σ' ⟨rfl, w, rfl, hw⟩
    have hl1 : (bs.drop 1).length = bs.length - 1 := List.length_drop
    have hs2 := hs1.dropB 1 (by omega)
    rw [List.drop_drop] at hs2
    refine ⟨⟨[], by simp⟩, _, w, rfl, hs2, ?_⟩
    rw [ents_rep, List.length_replicate]
    exact hw
  rw [if_neg h3]
  refine (entry_inv hs hb (by omega) (by omega)).mono ?_
  rintro r σ' ⟨hg, hr⟩
  refine ⟨hg, ?_⟩
  cases hT : takeP (partsOf (bs.getD 0 0 / 4)) (invE (bs.getD 1 0) (bs.getD 0 0 / 4)) (bs.drop 2) with
  | none => rw [hT] at hr; exact hr
  | some p =>
    obtain ⟨e, rst⟩ := p
    rw [hT] at hr
    obtain ⟨v', w, rfl, h5, h6⟩ := hr
    exact ⟨v', w, rfl, h5, by simpa [ents] using h6⟩
end
end Go.Abs
