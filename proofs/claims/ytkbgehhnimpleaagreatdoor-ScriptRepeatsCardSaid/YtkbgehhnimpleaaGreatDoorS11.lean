/- An abstract reading of the program, and what it answers. By an AI agent. -/
import Derived.Test.YtkbgehhnimpleaaGreatDoorS10
import Derived.Test.YtkbgehhnimpleaaGreatDoorSpk
set_option linter.all false
namespace Go.Abs
open Go.Proofs

theorem decode_err {bs : List Int} {k : Int} (h : decode bs = .err k) : k = 9 ∨ k = 3 ∨ k = 7 := by
  unfold decode at h
  split at h
  · cases h; omega
  · split at h
    · split at h
      · cases h; omega
      · cases h
    · cases h; omega

theorem zz29 : abin Tryz.prog .eql 29 (.agg [.sc (.int .i64 0), .sc (.int .i64 0), .sc (.int .i64 0), .sc (.int .i64 0), .sc (.int .i64 0), .sc (.int .i64 0), .sc (.int .i64 0), .sc (.int .i64 0), .sc (.int .i64 0), .sc (.int .i64 0), .sc (.int .i64 0), .sc (.int .i64 0), .sc (.int .i64 0)]) (.agg [.sc (.int .i64 0), .sc (.int .i64 0), .sc (.int .i64 0), .sc (.int .i64 0), .sc (.int .i64 0), .sc (.int .i64 0), .sc (.int .i64 0), .sc (.int .i64 0), .sc (.int .i64 0), .sc (.int .i64 0), .sc (.int .i64 0), .sc (.int .i64 0), .sc (.int .i64 0)]) = some (.sc (.bool true)) := by kernel_rfl

theorem decode_len {bs : List Int} {cs : List Int} {es : List Script.Ent} (h : decode bs = .ok cs es) : cs.length = 13 := by
  unfold decode at h
  split at h
  · cases h
  · split at h
    · split at h
      · cases h
      · cases h; exact cfgL_len bs 13
    · cases h

theorem Run_err {σ : Store} {v : AV} {bs : List Int} {k : Int} (hs : Sl σ 1 v (bs.map U) bs.length) (hb : Byt bs) (hl : bs.length < 100000) (hd : decode bs = .err k) : Ans ES 15 [v] σ (fun r σ' => (∃ g, σ' = σ ++ g) ∧ r = .tup [nilS, I k]) := by
  have hk := decode_err hd
  refine w15 1000 ?_
  repeat' first | with_reducible refine CondK_split (fun h => ?_) (fun h => ?_) | with_reducible refine gdK_dec (fun h => ?_) (fun h => ?_) | with_reducible refine GuardK_dec (fun h => ?_) (fun h => ?_) | with_reducible refine WP_draw ?_ | with_reducible refine WP_drw_end (by kernel_rfl) ?_ | simp (disch := first | omega | (simp only [List.length_append, List.length_cons, List.length_nil, List.length_set, List.length_map, List.length_replicate, List.length_drop, List.length_take] <;> omega) | assumption) only [WP_seq, WP_region, WP_ops_nil, WP_op, arK_val, arK_call, put_some, opd_tmp, opd_const, opd_func, ofV_int, ofV_nils, avOf_v, tg0, tg4, tg8, ts2, ts3, ts4, ts8, aop_move, aop_assign, aop_call, callR_fn, avOpd, frzO, frzL, frzT_v, acall, List.nil_append, List.append_nil, Option.map_some, Option.bind_some, ES_P, ite_t, eq_self, I, nilS, Option.bind_some, bodyOf, Option.getD_some, c10, t10, Tryz.f15]
  refine (IDecode_ok hs hb hl).mono ?_
  rintro r σ' ⟨hg, hr⟩
  rw [hd] at hr
  subst hr
  have hk0 : ¬ k = 0 := by omega
  repeat' first | with_reducible refine CondK_split (fun h => ?_) (fun h => ?_) | with_reducible refine gdK_dec (fun h => ?_) (fun h => ?_) | with_reducible refine GuardK_dec (fun h => ?_) (fun h => ?_) | with_reducible refine WP_draw ?_ | with_reducible refine WP_drw_end (by kernel_rfl) ?_ | simp (disch := first | omega | (simp only [List.length_append, List.length_cons, List.length_nil, List.length_set, List.length_map, List.length_replicate, List.length_drop, List.length_take] <;> omega) | assumption) only [WP_nil, WP_seq, WP_ret, WP_code_ret, WP_cond, CondK_dt, WP_region, WP_ops_nil, WP_op, arK_val, arK_skip, After_eq, Fin_ret, FinK_some, put_some, put_none, opd_tmp, opd_const, ofV_int, ofV_nils, avOf_v, tg0, tg1, tg2, tg3, tg4, tg5, tg6, tg7, tg8, ts0, ts1, ts2, ts3, ts4, ts5, ts6, ts7, ts8, aop_move, aop_assign, aop_alloc, aop_store, storeR_some, aop_binOp, aop_extract, mkP_df, spliceAt_some, wr_lp, bin_neq, avOpd, frzO, frzT_v, ares, aresL, aextract, List.length_cons, List.length_nil, List.nil_append, Option.map_some, Option.bind_some, Nat.reduceAdd, ES_P, ite_t, splice_eq, spliceC_all, List.all_cons, List.all_nil, ok_int, co_agg, ss0, eq_self, I, nilS, vg0, vg1, sg0, Bool.and_self, Nat.zero_add, Option.bind_some, z29, s29, m15_4, zeros13]
  exact ⟨hg, trivial⟩

theorem errs_ok {v : AV} {bs : List Int} (hs : Sl [] 1 v (bs.map U) bs.length) (hb : Byt bs) : Ans ES 4 [v] [] (fun r _ => r = B true) := by
  obtain ⟨σ1, hs1, hs2⟩ := speaks1
  have e0 := hs.sl
  refine w4 1000 ?_
  repeat' first | with_reducible refine CondK_split (fun h => ?_) (fun h => ?_) | with_reducible refine gdK_dec (fun h => ?_) (fun h => ?_) | with_reducible refine GuardK_dec (fun h => ?_) (fun h => ?_) | with_reducible refine WP_draw ?_ | with_reducible refine WP_drw_end (by kernel_rfl) ?_ | simp (disch := first | omega | (simp only [List.length_append, List.length_cons, List.length_nil, List.length_set, List.length_map, List.length_replicate, List.length_drop, List.length_take] <;> omega) | assumption) only [WP_seq, WP_region, WP_ops_nil, WP_op, arK_val, arK_call, put_some, opd_const, opd_func, ofV_bool, avOf_v, ts2, aop_assign, aop_call, callR_fn, avOpd, frzL, acall, List.append_nil, Option.map_some, Option.bind_some, ES_P, ite_t, eq_self, B, Option.bind_some, bodyOf, Option.getD_some, c8, t8, Tryz.f4]
  refine hs1.mono ?_
  rintro r σ' ⟨rfl, rfl⟩
  by_cases h300 : 300 < bs.length
  · repeat' first | with_reducible refine CondK_split (fun h => ?_) (fun h => ?_) | with_reducible refine gdK_dec (fun h => ?_) (fun h => ?_) | with_reducible refine GuardK_dec (fun h => ?_) (fun h => ?_) | with_reducible refine WP_draw ?_ | with_reducible refine WP_drw_end (by kernel_rfl) ?_ | simp (disch := first | omega | (simp only [List.length_append, List.length_cons, List.length_nil, List.length_set, List.length_map, List.length_replicate, List.length_drop, List.length_take] <;> omega) | assumption) only [WP_seq, WP_cond, CondK_dt, WP_region, WP_ops_nil, WP_op, WP_guard, GuardK_t, arK_val, arK_call, After_eq, put_some, opd_tmp, opd_const, opd_func, ofV_int, avOf_v, tg0, tg1, tg3, tg4, tg5, tg6, tg7, tg8, ts0, ts1, ts3, ts4, ts5, ts6, ts7, ts8, aop_move, aop_pick, pickB_f, aop_binOp, aop_unOp, aop_builtin, aop_call, callR_fn, bin_gtr, aun_not, avOpd, frzL, awanted, acall, abuiltin, alen, List.append_nil, Option.map_some, Option.bind_some, Bool.not_true, Bool.not_false, ES_P, beq_f, ite_t, eq_self, B, arr_get, og0, og1, Option.bind_some, c8, u24, t8, e0]
    exact hs2.mono fun r σ' h => by
      subst h
      repeat' first | with_reducible refine CondK_split (fun h => ?_) (fun h => ?_) | with_reducible refine gdK_dec (fun h => ?_) (fun h => ?_) | with_reducible refine GuardK_dec (fun h => ?_) (fun h => ?_) | with_reducible refine WP_draw ?_ | with_reducible refine WP_drw_end (by kernel_rfl) ?_ | simp (disch := first | omega | (simp only [List.length_append, List.length_cons, List.length_nil, List.length_set, List.length_map, List.length_replicate, List.length_drop, List.length_take] <;> omega) | assumption) only [WP_nil, WP_ret, WP_code_ret, WP_ops_nil, WP_op, arK_val, After_eq, Fin_ret, FinK_some, put_some, opd_tmp, tg2, tg8, ts2, ts8, aop_assign, frzO, frzT_v, ares, aresL, Option.map_some, Option.bind_some, eq_self, B, Option.bind_some]
  have e1 := (hs.more σ').sl
  have hsσ := hs.more σ'
  rw [List.nil_append] at hsσ
  repeat' first | with_reducible refine CondK_split (fun h => ?_) (fun h => ?_) | with_reducible refine gdK_dec (fun h => ?_) (fun h => ?_) | with_reducible refine GuardK_dec (fun h => ?_) (fun h => ?_) | with_reducible refine WP_draw ?_ | with_reducible refine WP_drw_end (by kernel_rfl) ?_ | simp (disch := first | omega | (simp only [List.length_append, List.length_cons, List.length_nil, List.length_set, List.length_map, List.length_replicate, List.length_drop, List.length_take] <;> omega) | assumption) only [WP_seq, WP_skip, WP_cond, CondK_df, WP_region, WP_ops_nil, WP_op, WP_guard, GuardK_t, arK_val, arK_call, After_eq, put_some, opd_tmp, opd_const, opd_func, ofV_int, avOf_v, tg0, tg1, tg3, tg4, tg5, tg6, tg7, tg8, ts0, ts1, ts3, ts4, ts5, ts6, ts7, ts8, aop_move, aop_pick, pickB_f, aop_binOp, aop_unOp, aop_builtin, aop_call, callR_fn, bin_gtr, aun_not, avOpd, frzO, frzL, frzT_v, awanted, acall, abuiltin, alen, List.nil_append, List.append_nil, Option.map_some, Option.bind_some, Bool.not_true, Bool.not_false, ES_P, beq_f, ite_t, eq_self, B, arr_get, og0, og1, Option.bind_some, u24, c11, t11, e0]
  refine (RDecode_ok hsσ hb (by omega)).mono ?_
  rintro r σ2 ⟨⟨ga, rfl⟩, hr⟩
  cases hd : decode bs with
  | ok cs es =>
    rw [hd] at hr
    obtain ⟨w, rfl, hw⟩ := hr
    have hcl : cs.length = 13 := decode_len hd
    repeat' first | with_reducible refine CondK_split (fun h => ?_) (fun h => ?_) | with_reducible refine gdK_dec (fun h => ?_) (fun h => ?_) | with_reducible refine GuardK_dec (fun h => ?_) (fun h => ?_) | with_reducible refine WP_draw ?_ | with_reducible refine WP_drw_end (by kernel_rfl) ?_ | simp (disch := first | omega | (simp only [List.length_append, List.length_cons, List.length_nil, List.length_set, List.length_map, List.length_replicate, List.length_drop, List.length_take] <;> omega) | assumption) only [WP_nil, WP_seq, WP_ret, WP_code_ret, WP_cond, CondK_t, WP_region, WP_ops_nil, WP_op, arK_val, arK_skip, After_eq, Fin_ret, FinK_some, put_some, put_none, opd_tmp, opd_const, ofV_int, ofV_bool, avOf_v, tg0, tg1, tg2, tg3, tg5, tg6, tg7, tg8, ts0, ts1, ts2, ts3, ts4, ts5, ts6, ts7, ts8, aop_move, aop_assign, aop_alloc, aop_store, storeR_some, aop_binOp, aop_extract, mkP_df, spliceAt_some, wr_lp, bin_eql, avOpd, frzO, frzT_v, ares, aresL, all_I, aextract, List.length_nil, List.nil_append, Option.map_some, Option.bind_some, decide_true, ES_P, ite_t, splice_eq, spliceC_all, co_agg, ss0, some_eq, eq_self, I, vg0, vg1, sg0, Option.bind_some, s23, z23, m4_3]
  | err k =>
    have hk := decode_err hd
    have hk0 : ¬ k = 0 := by omega
    rw [hd] at hr
    subst hr
    repeat' first | with_reducible refine CondK_split (fun h => ?_) (fun h => ?_) | with_reducible refine gdK_dec (fun h => ?_) (fun h => ?_) | with_reducible refine GuardK_dec (fun h => ?_) (fun h => ?_) | with_reducible refine WP_draw ?_ | with_reducible refine WP_drw_end (by kernel_rfl) ?_ | simp (disch := first | omega | (simp only [List.length_append, List.length_cons, List.length_nil, List.length_set, List.length_map, List.length_replicate, List.length_drop, List.length_take] <;> omega) | assumption) only [WP_seq, WP_skip, WP_cond, CondK_f, WP_region, WP_ops_nil, WP_op, arK_val, arK_skip, arK_call, After_eq, put_some, put_none, opd_tmp, opd_const, opd_func, ofV_int, avOf_v, tg0, tg1, tg2, tg3, tg4, tg5, tg6, tg7, tg8, ts0, ts1, ts2, ts3, ts4, ts5, ts6, ts7, ts8, aop_move, aop_assign, aop_alloc, aop_store, storeR_some, aop_binOp, aop_extract, aop_call, callR_fn, mkP_df, spliceAt_some, wr_lp, bin_eql, avOpd, frzO, frzL, frzT_v, acall, aextract, List.length_cons, List.length_nil, List.nil_append, List.append_nil, Option.map_some, Option.bind_some, Nat.reduceAdd, decide_false, ES_P, ite_t, splice_eq, spliceC_all, List.all_cons, List.all_nil, ok_int, co_agg, ss0, eq_self, I, nilS, vg0, vg1, sg0, Bool.and_self, Nat.zero_add, Option.bind_some, s23, z23, m4_3, c15, t15, zeros13, hk0]
    refine (Run_err (hsσ.more ga) hb (by omega) hd).mono ?_
    rintro r σ3 ⟨⟨gb, rfl⟩, rfl⟩
    repeat' first | with_reducible refine CondK_split (fun h => ?_) (fun h => ?_) | with_reducible refine gdK_dec (fun h => ?_) (fun h => ?_) | with_reducible refine GuardK_dec (fun h => ?_) (fun h => ?_) | with_reducible refine WP_draw ?_ | with_reducible refine WP_drw_end (by kernel_rfl) ?_ | simp (disch := first | omega | (simp only [List.length_append, List.length_cons, List.length_nil, List.length_set, List.length_map, List.length_replicate, List.length_drop, List.length_take] <;> omega) | assumption) only [WP_seq, WP_region, WP_ops_nil, WP_op, arK_val, arK_call, After_eq, put_some, opd_tmp, opd_func, avOf_v, tg0, tg1, tg3, tg5, tg6, tg7, tg8, ts1, ts3, ts5, ts6, ts7, ts8, aop_move, aop_assign, aop_extract, aop_call, callR_fn, avOpd, frzO, frzL, frzT_v, acall, aextract, List.nil_append, List.append_nil, Option.map_some, Option.bind_some, ES_P, ite_t, eq_self, I, nilS, vg0, vg1, Option.bind_some, c10, t10]
    refine (IDecode_ok ((hsσ.more ga).more gb) hb (by omega)).mono ?_
    rintro r σ4 ⟨⟨gc, rfl⟩, hr⟩
    rw [hd] at hr
    subst hr
    repeat' first | with_reducible refine CondK_split (fun h => ?_) (fun h => ?_) | with_reducible refine gdK_dec (fun h => ?_) (fun h => ?_) | with_reducible refine GuardK_dec (fun h => ?_) (fun h => ?_) | with_reducible refine WP_draw ?_ | with_reducible refine WP_drw_end (by kernel_rfl) ?_ | simp (disch := first | omega | (simp only [List.length_append, List.length_cons, List.length_nil, List.length_set, List.length_map, List.length_replicate, List.length_drop, List.length_take] <;> omega) | assumption) only [WP_nil, WP_seq, WP_ret, WP_region, WP_ops_nil, WP_op, WP_guard, GuardK_t, arK_val, arK_skip, After_eq, Fin_ret, FinK_some, put_some, put_none, opd_tmp, opd_const, ofV_int, avOf_v, tg0, tg1, tg2, tg3, tg4, tg5, tg6, tg7, tg8, ts0, ts1, ts2, ts3, ts4, ts5, ts6, ts7, ts8, aop_move, aop_assign, aop_pick, pickB_t, pickB_dt, aop_alloc, aop_build, aop_load, aop_store, storeR_some, aop_binOp, aop_extract, aop_builtin, mkP_df, cellAt_some, rangeAt_some, ld_lp, ldV_t, spliceAt_some, wr_lp, bin_eql, avOpd, frzO, frzL, frzT_v, awanted, ares, aresL, abuiltin, alen, slen_nil, aextract, List.map_nil, List.length_cons, List.length_nil, List.cons_append, List.nil_append, Option.map_some, Option.bind_some, Nat.reduceAdd, decide_true, ES_P, GuardK_dt, beq_t, window_all, ite_t, splice_eq, spliceC_all, List.all_cons, List.all_nil, ok_int, co_agg, ss0, ss1, List.zip_nil_right, eq_self, I, nilS, arr_get, og0, og1, vg0, vg1, sg0, sg1, Bool.and_self, Nat.zero_add, Option.bind_some, z29, s29, g29, m4_8, u41, u30, bb29_, zeros13, zz29]
end Go.Abs
