/- An abstract reading of the program, and what it answers. By an AI agent. -/
import Derived.Test.YtkbgehhnimpleaaGreatDoorS7
set_option linter.all false
set_option maxRecDepth 10000
set_option maxHeartbeats 1000000
namespace Go.Abs
open Go.Proofs Go.Script

def numAt (bs : List Int) (j : Nat) : Int := le ((bs.drop (4 * j)).take 4)
/-- The numbers that have been read. -/
def cfgL (bs : List Int) (i : Nat) : List Int := (List.range 13).map fun j => if j < i then numAt bs j else 0
def cfgOf (bs : List Int) : List Int := cfgL bs 13
theorem cfgL_len (bs : List Int) (i : Nat) : (cfgL bs i).length = 13 := by simp [cfgL]
theorem cfgL_zero (bs : List Int) : (cfgL bs 0).map I = [I 0, I 0, I 0, I 0, I 0, I 0, I 0, I 0, I 0, I 0, I 0, I 0, I 0] := by simp [cfgL, List.range, List.range.loop]
theorem cfgL_set (bs : List Int) (i : Nat) (h : i < 13) : ((cfgL bs i).map I).set i (I (numAt bs i)) = (cfgL bs (i + 1)).map I := by
  rw [← List.map_set]
  congr 1
  apply List.ext_getElem
  · simp [cfgL]
  · intro k h1 h2
    simp only [cfgL, List.length_set, List.length_map, List.length_range] at h1
    simp only [cfgL, List.getElem_set, List.getElem_map, List.getElem_range]
    by_cases hk : i = k
    · subst hk; simp
    · rw [if_neg hk]
      by_cases hk2 : k < i
      · rw [if_pos hk2, if_pos (by omega)]
      · rw [if_neg hk2, if_neg (by omega)]

def zeros13 : AV := .agg [I 0, I 0, I 0, I 0, I 0, I 0, I 0, I 0, I 0, I 0, I 0, I 0, I 0]

/-- What bytes say. -/
inductive Dec
  | err (k : Int)
  | ok (cs : List Int) (es : List Ent)
def decode (bs : List Int) : Dec :=
  if bs.length < 52 then .err 9 else if okC (cfgOf bs) then match dec (bs.drop 52) [] with
    | none => .err 3
    | some es => .ok (cfgOf bs) es
  else .err 7
def DecR (σ : Store) (d : Dec) (r : AV) (σ' : Store) : Prop := (∃ g, σ' = σ ++ g) ∧ match d with
  | .err k => r = .tup [zeros13, nilS, I k]
  | .ok cs es => ∃ w, r = .tup [.agg (cs.map I), w, I 0] ∧ Sl σ' 8 w (ents es) es.length

theorem ents_ok (es : List Ent) : (ents es).all cellOk = true := by
  rw [List.all_eq_true]
  intro x hx
  simp only [ents, List.mem_flatten, List.mem_map] at hx
  obtain ⟨l, ⟨e, _, rfl⟩, hx⟩ := hx
  obtain ⟨n, _, rfl⟩ := List.mem_map.1 hx
  rfl

theorem IDecode_ok {σ : Store} {v : AV} {bs : List Int} (hs : Sl σ 1 v (bs.map U) bs.length) (hb : Byt bs) (hl : bs.length < 100000) : Ans ES 10 [v] σ (DecR σ (decode bs)) := by
  have e1 := hs.sl
  refine w10 200000 ?_
  by_cases hlen : bs.length < 52
  · have hd : decode bs = .err 9 := by unfold decode; rw [if_pos hlen]
    rw [hd]
    repeat' first | with_reducible refine CondK_split (fun h => ?_) (fun h => ?_) | with_reducible refine gdK_dec (fun h => ?_) (fun h => ?_) | with_reducible refine GuardK_dec (fun h => ?_) (fun h => ?_) | with_reducible refine WP_draw ?_ | with_reducible refine WP_drw_end (by kernel_rfl) ?_ | simp (disch := first | omega | (simp only [List.length_append, List.length_cons, List.length_nil, List.length_set, List.length_map, List.length_replicate, List.length_drop, List.length_take] <;> omega) | assumption) only [WP_nil, WP_seq, WP_ret, WP_scope, WP_code_ret, WP_cond, CondK_dt, WP_region, WP_ops_nil, WP_op, arK_val, arK_skip, Fin_ret, FinK_some, put_some, put_none, opd_tmp, opd_const, ofV_int, ofV_nils, avOf_v, tg0, tg1, tg2, tg3, tg4, tg6, tg7, tg8, ts0, ts1, ts2, ts3, ts4, ts6, ts7, ts8, aop_move, aop_assign, aop_alloc, aop_build, aop_store, storeR_some, aop_binOp, aop_builtin, mkP_df, cellAt_some, rangeAt_some, ld_lp, ldV_t, spliceAt_some, wr_lp, bin_lss, avOpd, frzO, frzL, frzT_v, ares, aresL, abuiltin, alen, List.map_nil, List.length_cons, List.length_nil, List.nil_append, Option.map_some, Option.bind_some, Nat.reduceAdd, ES_P, window_all, ite_t, splice_eq, spliceC_all, List.all_cons, List.all_nil, ok_int, co_agg, ss0, List.zip_nil_right, eq_self, vg0, sg0, Bool.and_self, Nat.zero_add, Option.bind_some, bodyOf, Option.getD_some, u24, z29, s29, g29, bb29_, m10_2, Tryz.f10, e1]
    exact ⟨⟨[], by simp⟩, rfl⟩
  repeat' first | with_reducible refine CondK_split (fun h => ?_) (fun h => ?_) | with_reducible refine gdK_dec (fun h => ?_) (fun h => ?_) | with_reducible refine GuardK_dec (fun h => ?_) (fun h => ?_) | with_reducible refine WP_draw ?_ | with_reducible refine WP_drw_end (by kernel_rfl) ?_ | simp (disch := first | omega | (simp only [List.length_append, List.length_cons, List.length_nil, List.length_set, List.length_map, List.length_replicate, List.length_drop, List.length_take] <;> omega) | assumption) only [WP_seq, WP_skip, WP_scope, WP_block, WP_cond, CondK_df, WP_region, WP_ops_nil, WP_op, arK_val, put_some, opd_tmp, opd_const, ofV_int, ofV_nils, avOf_v, tg0, tg6, tg7, tg8, ts0, ts2, ts3, ts4, ts5, ts6, ts7, ts8, aop_move, aop_assign, aop_alloc, aop_binOp, aop_builtin, mkP_df, bin_lss, avOpd, abuiltin, alen, List.length_cons, List.length_nil, List.cons_append, List.nil_append, Option.map_some, Option.bind_some, ES_P, Nat.zero_add, Option.bind_some, bodyOf, Option.getD_some, u24, z29, m10_2, z22, m10_5, Tryz.f10, e1]
  refine WP_loop (fun j s => ∃ (i : Nat) (vi : AV), j = 13 - i ∧ i ≤ 13 ∧ Sl σ 1 vi ((bs.drop (4 * i)).map U) (bs.drop (4 * i)).length ∧
    s = h10 σ [some [I 0, I 0, I 0, I 0, I 0, I 0, I 0, I 0, I 0, I 0, I 0, I 0, I 0], some ((cfgL bs i).map I)] (.v vi) (.lp 0 0) (.lp 1 0) undefT undefT (.v (I i))) 13 ?_ (by omega) ?_
  · refine ⟨0, v, rfl, by omega, by simpa using hs, ?_⟩
    rw [cfgL_zero]
    simp [k10, h10, I]
  rintro j s hj ⟨i, vi, rfl, hi, hsi, rfl⟩
  have hc1 := cfgL_len bs i
  by_cases hi13 : i < 13
  · have hdl : (bs.drop (4 * i)).length = bs.length - 4 * i := List.length_drop
    have et := take_4 hsi (hb.drop _) (by omega)
    repeat' first | with_reducible refine CondK_split (fun h => ?_) (fun h => ?_) | with_reducible refine gdK_dec (fun h => ?_) (fun h => ?_) | with_reducible refine GuardK_dec (fun h => ?_) (fun h => ?_) | with_reducible refine WP_draw ?_ | with_reducible refine WP_drw_end (by kernel_rfl) ?_ | simp (disch := first | omega | (simp only [List.length_append, List.length_cons, List.length_nil, List.length_set, List.length_map, List.length_replicate, List.length_drop, List.length_take] <;> omega) | assumption) only [WP_nil, WP_seq, WP_skip, WP_blk_normal, WP_block, WP_cond, CondK_dt, WP_region, WP_ops_nil, WP_op, arK_val, arK_skip, arK_call, After_eq, LoopQ_normal, put_some, put_none, opd_tmp, opd_const, opd_func, ofV_int, avOf_v, tg0, tg1, tg2, tg3, tg4, tg5, tg6, tg7, tg8, ts0, ts1, ts2, ts3, ts4, ts5, ts6, ts7, ts8, aop_move, aop_assign, aop_store, storeR_some, aop_binOp, aop_indexAddr, aop_extract, aop_call, callR_fn, spliceAt_some, wr_lp, bin_add, bin_lss, intOpd, avOpd, frzO, frzL, frzT_v, acall, aindex_eq, ixU_a, ixA_some, addP_lp, aextract, wrap_i64, List.length_cons, List.length_nil, List.nil_append, List.append_nil, Option.map_some, Option.bind_some, ES_P, ite_t, ite_f, splice_eq, spliceC_one, List.all_cons, List.all_nil, ok_int, co_int, ss0, ss1, eq_self, I, B, vg0, vg1, sg0, sg1, Bool.and_self, Nat.zero_add, Nat.mul_one, Int.toNat_natCast, Option.bind_some, s3, c22, u22, h10, k10, t22, et.eq]
    refine ⟨13 - (i + 1), by omega, i + 1, subP 1 vi 4 (bs.drop (4 * i)).length, rfl, by omega, ?_, ?_⟩
    · have := hsi.dropB 4 (by omega)
      rw [List.drop_drop] at this
      rw [show 4 * (i + 1) = 4 * i + 4 by omega]
      exact this
    · have hset := cfgL_set bs i hi13
      simp only [numAt] at hset
      simp [hset]
  · obtain rfl : i = 13 := by omega
    have hc2 : (cfgL bs 13).length = 13 := cfgL_len bs 13
    repeat' first | with_reducible refine CondK_split (fun h => ?_) (fun h => ?_) | with_reducible refine gdK_dec (fun h => ?_) (fun h => ?_) | with_reducible refine GuardK_dec (fun h => ?_) (fun h => ?_) | with_reducible refine WP_draw ?_ | with_reducible refine WP_drw_end (by kernel_rfl) ?_ | simp (disch := first | omega | (simp only [List.length_append, List.length_cons, List.length_nil, List.length_set, List.length_map, List.length_replicate, List.length_drop, List.length_take] <;> omega) | assumption) only [WP_nil, WP_seq, WP_exit, WP_code_exit, WP_blk_ex, blkK_t, Nat.reduceBEq, WP_cond, CondK_df, WP_region, WP_ops_nil, WP_op, arK_val, arK_skip, arK_call, After_eq, LoopQ_exit, put_some, put_none, opd_tmp, opd_const, opd_func, ofV_int, avOf_v, tg1, tg2, tg3, tg5, tg6, tg7, tg8, ts1, ts3, ts6, ts7, ts8, aop_alloc, aop_load, aop_store, storeR_some, aop_binOp, aop_call, callR_fn, mkP_df, cellAt_some, rangeAt_some, ld_lp, ldV_t, spliceAt_some, wr_lp, bin_lss, avOpd, frzO, frzL, frzT_v, acall, all_I, List.length_cons, List.length_nil, List.cons_append, List.nil_append, List.append_nil, Option.map_some, Option.bind_some, Nat.reduceAdd, ES_P, Nat.sub_self, window_all, ite_t, splice_eq, spliceC_all, co_agg, ss0, ss1, some_eq, eq_self, I, sg0, sg1, List.getElem?_map, getq, Nat.zero_add, Option.bind_some, z29, s29, g29, s22, g22, c23, m10_7, c24, h10, t23, t24, (Of_ok (cfgL bs 13) hc2 _).eq, all_I]
    refine (PCheck_ok (cfgL bs 13) hc2 σ).mono ?_
    rintro r σ' ⟨rfl, ii, kk, rfl, hk⟩
    by_cases hok : okC (cfgL bs 13)
    · rw [if_pos hok] at hk
      subst hk
      have hd : decode bs = match dec (bs.drop 52) [] with
        | none => .err 3
        | some es => .ok (cfgOf bs) es := by
        unfold decode
        rw [if_neg hlen]
        exact if_pos hok
      rw [hd]
      repeat' first | with_reducible refine CondK_split (fun h => ?_) (fun h => ?_) | with_reducible refine gdK_dec (fun h => ?_) (fun h => ?_) | with_reducible refine GuardK_dec (fun h => ?_) (fun h => ?_) | with_reducible refine WP_draw ?_ | with_reducible refine WP_drw_end (by kernel_rfl) ?_ | simp (disch := first | omega | (simp only [List.length_append, List.length_cons, List.length_nil, List.length_set, List.length_map, List.length_replicate, List.length_drop, List.length_take] <;> omega) | assumption) only [WP_seq, WP_skip, WP_label, WP_block, WP_cond, CondK_f, WP_region, WP_ops_nil, WP_op, arK_val, After_eq, put_some, opd_tmp, opd_const, ofV_int, ofV_nils, avOf_v, tg0, tg1, tg2, tg3, tg4, tg5, tg6, tg8, ts0, ts1, ts2, ts3, ts4, ts5, ts6, ts8, aop_move, aop_assign, aop_binOp, aop_extract, bin_neq, avOpd, aextract, Option.map_some, Option.bind_some, Int.reduceNe, decide_false, ES_P, I, vg0, vg1, Option.bind_some]
      refine WP_loop (fun j s => ∃ (rst : List Int) (es : List Ent) (σ2 : Store) (v2 : AV) (t : TV) (tail : Store), j = rst.length ∧ (∃ g, σ2 = σ' ++ g) ∧ Sl σ2 1 v2 (rst.map U) rst.length ∧ Byt rst ∧ OutL tail 3 8 t (ents es) es.length ∧ es.length ≤ 20000 ∧
        dec rst es = dec (bs.drop 52) [] ∧ s = h10 σ2 (some [I 0, I 0, I 0, I 0, I 0, I 0, I 0, I 0, I 0, I 0, I 0, I 0, I 0] :: some ((cfgL bs 13).map I) :: some ((cfgL bs 13).map I) :: tail) (.v v2) (.lp 0 0) (.lp 1 0) (.lp 2 0) t (.v (I 13))) (bs.drop 52).length ?_ (by simp; omega) ?_
      · exact ⟨bs.drop 52, [], σ', vi, .v nilS, [], rfl, ⟨[], by simp⟩, hsi, hb.drop 52, .nil, by simp, rfl, by simp [k10, h10, I]⟩
      rintro j s hj ⟨rst, es, σ2, v2, t, tail, rfl, ⟨g, hg⟩, hs2, hb2, ho, hes, hdec, rfl⟩
      have hlr : rst.length ≤ bs.length := by
        have : (bs.drop 52).length = bs.length - 52 := List.length_drop
        omega
      have e1 := hs2.sl
      have hf := fun a b c => ho.frz (pre := [a, b, c])
      simp only [List.cons_append, List.nil_append] at hf
      cases rst with
      | nil =>
        rw [dec_nil] at hdec
        rw [← hdec]
        repeat' first | with_reducible refine CondK_split (fun h => ?_) (fun h => ?_) | with_reducible refine gdK_dec (fun h => ?_) (fun h => ?_) | with_reducible refine GuardK_dec (fun h => ?_) (fun h => ?_) | with_reducible refine WP_draw ?_ | with_reducible refine WP_drw_end (by kernel_rfl) ?_ | simp (disch := first | omega | (simp only [List.length_append, List.length_cons, List.length_nil, List.length_set, List.length_map, List.length_replicate, List.length_drop, List.length_take] <;> omega) | assumption) only [WP_nil, WP_seq, WP_ret, WP_exit, WP_code_exit, WP_blk_ex, blkK_t, Nat.reduceBEq, WP_cond, CondK_df, WP_region, WP_ops_nil, WP_op, arK_val, arK_skip, LoopQ_exit, Fin_ret, FinK_some, put_some, put_none, opd_tmp, opd_const, ofV_int, avOf_v, tg0, tg1, tg2, tg3, tg4, tg7, tg8, ts1, ts2, ts3, ts4, ts8, aop_move, aop_assign, aop_load, aop_store, storeR_some, aop_binOp, aop_builtin, cellAt_some, rangeAt_some, ld_lp, ldV_t, spliceAt_some, wr_lp, bin_gtr, avOpd, frzO, frzT_v, frzS_σ, ares, aresL, abuiltin, alen, all_I, List.length_nil, Option.map_some, Option.bind_some, ES_P, window_all, ite_t, splice_eq, spliceC_all, co_agg, ss0, some_eq, I, sg0, sg1, List.getElem?_map, getq, Option.bind_some, u24, s29, g29, h10, e1, hf, all_I, frzS_opd]
        exact ⟨⟨g, hg⟩, _, rfl, ho.val σ2⟩
      | cons x rst =>
        have ent := entry_ok hs2 hb2 (by simp) (by omega)
        simp only [List.getD_cons_zero, List.drop_succ_cons, List.drop_zero] at ent
        have hlc : (x :: rst).length = rst.length + 1 := rfl
        repeat' first | with_reducible refine CondK_split (fun h => ?_) (fun h => ?_) | with_reducible refine gdK_dec (fun h => ?_) (fun h => ?_) | with_reducible refine GuardK_dec (fun h => ?_) (fun h => ?_) | with_reducible refine WP_draw ?_ | with_reducible refine WP_drw_end (by kernel_rfl) ?_ | simp (disch := first | omega | (simp only [List.length_append, List.length_cons, List.length_nil, List.length_set, List.length_map, List.length_replicate, List.length_drop, List.length_take] <;> omega) | assumption) only [WP_seq, WP_skip, WP_block, WP_cond, CondK_dt, WP_region, WP_ops_nil, WP_op, arK_val, arK_call, put_some, opd_tmp, opd_const, opd_func, ofV_int, avOf_v, tg0, tg1, tg2, tg3, tg5, tg8, ts1, ts2, ts3, ts5, ts8, aop_move, aop_binOp, aop_builtin, aop_call, callR_fn, bin_gtr, avOpd, frzO, frzL, frzT_v, acall, abuiltin, alen, List.length_cons, List.nil_append, List.append_nil, Option.map_some, Option.bind_some, ES_P, ite_t, eq_self, I, Option.bind_some, u24, c25, h10, t25, e1]
        refine ent.mono ?_
        rintro r σ3 ⟨⟨gg, hgg⟩, hr⟩
        cases hst : stepS x rst with
        | none =>
          rw [hst] at hr
          obtain ⟨a, w, rfl, cs, n, hw, hn⟩ := hr
          rw [dec_stop es hst] at hdec
          rw [← hdec]
          repeat' first | with_reducible refine CondK_split (fun h => ?_) (fun h => ?_) | with_reducible refine gdK_dec (fun h => ?_) (fun h => ?_) | with_reducible refine GuardK_dec (fun h => ?_) (fun h => ?_) | with_reducible refine WP_draw ?_ | with_reducible refine WP_drw_end (by kernel_rfl) ?_ | simp (disch := first | omega | (simp only [List.length_append, List.length_cons, List.length_nil, List.length_set, List.length_map, List.length_replicate, List.length_drop, List.length_take] <;> omega) | assumption) only [WP_nil, WP_seq, WP_ret, WP_exit, WP_code_exit, WP_blk_ex, blkK_t, blkK_f, Nat.reduceBEq, WP_block, WP_cond, CondK_t, WP_region, WP_ops_nil, WP_op, arK_val, arK_skip, After_eq, LoopQ_exit, Fin_ret, FinK_some, put_some, put_none, opd_tmp, opd_const, ofV_int, avOf_v, tg0, tg1, tg2, tg3, tg4, tg5, tg6, tg7, tg8, ts0, ts1, ts2, ts3, ts4, ts5, ts6, ts7, ts8, aop_move, aop_assign, aop_load, aop_store, storeR_some, aop_unOp, aop_extract, cellAt_some, rangeAt_some, ld_lp, ldV_t, spliceAt_some, wr_lp, aun_not, avOpd, frzO, frzT_v, frzS_σ, ares, aresL, all_I, aextract, Option.map_some, Option.bind_some, Bool.not_false, ES_P, window_all, ite_t, splice_eq, spliceC_all, co_agg, ss0, some_eq, I, B, vg0, vg1, sg0, sg1, List.getElem?_map, getq, Option.bind_some, s29, g29, hf, all_I, frzS_opd]
          refine ⟨⟨g ++ gg, by rw [hgg, hg, List.append_assoc]⟩, _, rfl, ho.val σ3⟩
        | some p =>
          obtain ⟨es2, rst2⟩ := p
          rw [hst] at hr
          obtain ⟨v3, w, rfl, hs3, hw⟩ := hr
          rw [dec_go es hst] at hdec
          have e5 := ho.sl
          have e6 := hw.sl
          have hx := hb2 0 (by simp)
          simp only [List.getD_cons_zero] at hx
          have hcnt := stepS_cnt hst hx.2
          have hsl := stepS_len hst
          simp only at hcnt hsl
          by_cases hfull : 20000 < es.length + es2.length
          · rw [if_pos hfull] at hdec
            rw [← hdec]
            repeat' first | with_reducible refine CondK_split (fun h => ?_) (fun h => ?_) | with_reducible refine gdK_dec (fun h => ?_) (fun h => ?_) | with_reducible refine GuardK_dec (fun h => ?_) (fun h => ?_) | with_reducible refine WP_draw ?_ | with_reducible refine WP_drw_end (by kernel_rfl) ?_ | simp (disch := first | omega | (simp only [List.length_append, List.length_cons, List.length_nil, List.length_set, List.length_map, List.length_replicate, List.length_drop, List.length_take] <;> omega) | assumption) only [WP_nil, WP_seq, WP_ret, WP_code_ret, WP_blk_ret, WP_block, WP_cond, CondK_f, CondK_dt, WP_region, WP_ops_nil, WP_op, arK_val, arK_skip, After_eq, LoopQ_ret, Fin_ret, FinK_some, put_some, put_none, opd_tmp, opd_const, ofV_int, ofV_nils, avOf_v, tg0, tg1, tg2, tg3, tg4, tg5, tg6, tg7, tg8, ts0, ts1, ts2, ts3, ts4, ts5, ts6, ts7, ts8, aop_move, aop_assign, aop_build, aop_store, storeR_some, aop_binOp, aop_unOp, aop_extract, aop_builtin, cellAt_some, rangeAt_some, ld_lp, ldV_t, spliceAt_some, wr_lp, bin_add, bin_gtr, aun_not, avOpd, frzO, frzL, frzT_v, ares, aresL, abuiltin, alen, aextract, wrap_i64, List.map_nil, List.length_cons, List.length_nil, Option.map_some, Option.bind_some, Nat.reduceAdd, Bool.not_true, ES_P, window_all, ite_t, splice_eq, spliceC_all, List.all_cons, List.all_nil, ok_int, co_agg, ss0, List.zip_nil_right, eq_self, B, vg0, vg1, sg0, Bool.and_self, Nat.zero_add, Option.bind_some, s29, g29, u30, bb29_, e5, e6]
            exact ⟨⟨g ++ gg, by rw [hgg, hg, List.append_assoc]⟩, rfl⟩
          · rw [if_neg hfull] at hdec
            have e7 := fun loc ts => hw.rdS (loc := loc) (ts := ts)
            have hap : ∀ A B C : Option (List AV), ∃ t' tail', OutL tail' 3 8 t' (ents es ++ ents es2) (es.length + es2.length) ∧ ∀ σ ts, appR .dflt ⟨σ, A :: B :: C :: tail, ts⟩ 8 t (ents es2) es2.length = some (t', ⟨σ, A :: B :: C :: tail', ts⟩) := by
              intro A B C
              exact OutL.app (pre := [A, B, C]) ho (ents es2) es2.length hw.length (ents_ok es2) (by omega)
            obtain ⟨t', tail', ho', ha⟩ := hap (some [I 0, I 0, I 0, I 0, I 0, I 0, I 0, I 0, I 0, I 0, I 0, I 0, I 0]) (some ((cfgL bs 13).map I)) (some ((cfgL bs 13).map I))
            simp only [I] at ha
            repeat' first | with_reducible refine CondK_split (fun h => ?_) (fun h => ?_) | with_reducible refine gdK_dec (fun h => ?_) (fun h => ?_) | with_reducible refine GuardK_dec (fun h => ?_) (fun h => ?_) | with_reducible refine WP_draw ?_ | with_reducible refine WP_drw_end (by kernel_rfl) ?_ | simp (disch := first | omega | (simp only [List.length_append, List.length_cons, List.length_nil, List.length_set, List.length_map, List.length_replicate, List.length_drop, List.length_take] <;> omega) | assumption) only [WP_nil, WP_seq, WP_skip, WP_blk_normal, WP_block, WP_cond, CondK_f, CondK_df, WP_region, WP_ops_nil, WP_op, arK_val, After_eq, LoopQ_normal, put_some, opd_tmp, opd_const, ofV_int, avOf_v, tg0, tg1, tg2, tg3, tg4, tg5, tg6, tg7, tg8, ts0, ts1, ts2, ts3, ts4, ts5, ts6, ts7, ts8, aop_move, aop_assign, aop_binOp, aop_unOp, aop_extract, aop_builtin, bin_add, bin_gtr, aun_not, avOpd, abuiltin, alen, aextract, wrap_i64, Option.map_some, Option.bind_some, Bool.not_true, ES_P, aappend_eq, appE_some, appS_some, B, vg0, vg1, Option.bind_some, u30, a30_30, m10_64, h10, k10, e5, e6, e7, ha]
            refine ⟨rst2.length, by omega, rst2, es ++ es2, σ3, v3, t', tail', rfl, ⟨g ++ gg, by rw [hgg, hg, List.append_assoc]⟩, ?_, ?_, ?_, ?_, hdec, by simp⟩
            · rw [hgg]; exact hs3.more gg
            · obtain ⟨k, hk⟩ := stepS_drop hst
              simp only at hk
              rw [hk, show rst.drop k = (x :: rst).drop (k + 1) by simp]
              exact hb2.drop (k + 1)
            · rw [List.length_append]
              have : ents (es ++ es2) = ents es ++ ents es2 := by simp [ents]
              rw [this]
              exact ho'
            · rw [List.length_append]; omega
    · rw [if_neg hok] at hk
      subst hk
      have hd : decode bs = .err 7 := by
        unfold decode
        rw [if_neg hlen]
        exact if_neg hok
      rw [hd]
      repeat' first | with_reducible refine CondK_split (fun h => ?_) (fun h => ?_) | with_reducible refine gdK_dec (fun h => ?_) (fun h => ?_) | with_reducible refine GuardK_dec (fun h => ?_) (fun h => ?_) | with_reducible refine WP_draw ?_ | with_reducible refine WP_drw_end (by kernel_rfl) ?_ | simp (disch := first | omega | (simp only [List.length_append, List.length_cons, List.length_nil, List.length_set, List.length_map, List.length_replicate, List.length_drop, List.length_take] <;> omega) | assumption) only [WP_nil, WP_seq, WP_ret, WP_code_ret, WP_cond, CondK_t, WP_region, WP_ops_nil, WP_op, arK_val, arK_skip, After_eq, Fin_ret, FinK_some, put_some, put_none, opd_tmp, opd_const, ofV_int, ofV_nils, avOf_v, tg0, tg1, tg2, tg3, tg4, tg5, tg6, tg7, tg8, ts0, ts1, ts2, ts3, ts4, ts5, ts6, ts7, ts8, aop_move, aop_assign, aop_build, aop_store, storeR_some, aop_binOp, aop_extract, cellAt_some, rangeAt_some, ld_lp, ldV_t, spliceAt_some, wr_lp, bin_neq, avOpd, frzO, frzL, frzT_v, ares, aresL, aextract, List.map_nil, List.length_cons, List.length_nil, Option.map_some, Option.bind_some, Nat.reduceAdd, Int.reduceNe, decide_true, ES_P, window_all, ite_t, splice_eq, spliceC_all, List.all_cons, List.all_nil, ok_int, co_agg, ss0, List.zip_nil_right, eq_self, I, vg0, vg1, sg0, Bool.and_self, Nat.zero_add, Option.bind_some, s29, g29, bb29_]
      exact ⟨⟨[], by simp⟩, rfl⟩
end Go.Abs
