/- An abstract reading of the program, and what it answers. By an AI agent. -/
import Derived.Test.YtkbgehhnimpleaaGreatDoorS4
set_option linter.all false
set_option maxRecDepth 10000
namespace Go.Abs
open Go.Proofs Go.Script

/-- Many of the same. -/
def rep (es : List AV) : Nat → List AV
  | 0 => []
  | k + 1 => rep es k ++ es

theorem rep_len {es : List AV} (he : es.length = 8) (k : Nat) : (rep es k).length = k * 8 := by
  induction k with
  | zero => rfl
  | succ k ih => simp only [rep, List.length_append, ih, he]; omega

theorem repeat_ok (es : List AV) (he : es.length = 8) (hall : es.all cellOk = true) (n : Nat) (hn : n < 1000) (σ : Store) : Ans ES 45 [.agg es, I n] σ (fun r σ' => σ' = σ ∧ Sl σ 8 r (rep es n) n) := by
  refine w45 2000 ?_
  repeat' first | with_reducible refine CondK_split (fun h => ?_) (fun h => ?_) | with_reducible refine gdK_dec (fun h => ?_) (fun h => ?_) | with_reducible refine GuardK_dec (fun h => ?_) (fun h => ?_) | with_reducible refine WP_draw ?_ | with_reducible refine WP_drw_end (by kernel_rfl) ?_ | simp (disch := first | omega | (simp only [List.length_append, List.length_cons, List.length_nil, List.length_set, List.length_map, List.length_replicate, List.length_drop, List.length_take] <;> omega) | assumption) only [WP_seq, WP_block, WP_region, WP_ops_nil, WP_op, arK_val, put_some, opd_tmp, opd_const, ofV_int, ofV_nils, tg0, tg1, ts2, ts4, ts5, ts6, ts7, aop_move, aop_assign, aop_box, mkP_dt, frzO, frzT_v, Option.map_some, Option.bind_some, co_agg, I, Option.bind_some, bodyOf, Option.getD_some, m45_2, Tryz.f45]
  refine WP_loop (fun j s => ∃ (k : Nat) (t : TV) (tail : Store), j = n - k ∧ k ≤ n ∧ OutL tail 0 8 t (rep es k) k ∧ s = h45 σ tail (.v (.ip es)) t (.v (I n)) (.v (I k))) n ?_ (by omega) ?_
  · exact ⟨0, _, _, rfl, by omega, .nil, rfl⟩
  rintro j s hj ⟨k, t, tail, rfl, hk, ho, rfl⟩
  obtain ⟨t', tail', ho', ha⟩ := ho.app (pre := []) es 1 (by omega) hall (by omega)
  simp only [List.nil_append] at ha
  have hf := ho.frz (pre := [])
  simp only [List.nil_append] at hf
  repeat' first | with_reducible refine CondK_split (fun h => ?_) (fun h => ?_) | with_reducible refine gdK_dec (fun h => ?_) (fun h => ?_) | with_reducible refine GuardK_dec (fun h => ?_) (fun h => ?_) | with_reducible refine WP_draw ?_ | with_reducible refine WP_drw_end (by kernel_rfl) ?_ | simp (disch := first | omega | (simp only [List.length_append, List.length_cons, List.length_nil, List.length_set, List.length_map, List.length_replicate, List.length_drop, List.length_take] <;> omega) | assumption) only [WP_nil, WP_seq, WP_skip, WP_ret, WP_exit, WP_code_exit, WP_blk_normal, WP_blk_ex, blkK_t, Nat.reduceBEq, WP_block, WP_cond, WP_region, WP_ops_nil, WP_op, arK_val, LoopQ_normal, LoopQ_exit, Fin_ret, FinK_some, put_some, opd_tmp, opd_const, ofV_int, avOf_v, tg0, tg1, tg2, tg3, tg4, tg5, tg6, tg7, tg8, ts0, ts1, ts2, ts3, ts4, ts5, ts6, ts7, ts8, aop_move, aop_assign, aop_buildSlice, aop_load, aop_binOp, aop_builtin, mkS_dflt, ld_ip, ldV_t, bin_add, bin_lss, avOpd, frzO, frzL, frzT_v, frzS_σ, ares, aresL, abuiltin, rdS_is, wrap_i64, List.map_cons, List.map_nil, Option.map_some, Option.bind_some, Nat.reduceMul, ES_P, aappend_eq, appE_some, appS_some, window_all, ite_t, List.zip_cons_cons, List.zip_nil_right, eq_self, I, Option.bind_some, s56, g56, a30_30, sl30, m45_11, m45_12, h45, k45, ha, hf]
  · exact ⟨n - (k + 1), by omega, k + 1, t', tail', rfl, by omega, ho', by simp []⟩
  · obtain rfl : k = n := by omega
    exact ⟨trivial, ho.val σ⟩
theorem repeat_ok' (es : List AV) (he : es.length = 8) (hall : es.all cellOk = true) (n : Int) (h0 : 0 ≤ n) (hn : n < 1000) (σ : Store) : Ans ES 45 [.agg es, I n] σ (fun r σ' => σ' = σ ∧ Sl σ 8 r (rep es n.toNat) n.toNat) := by
  have := repeat_ok es he hall n.toNat (by omega) σ
  rw [Int.toNat_of_nonneg h0] at this
  exact this

/-- Entries' cells. -/
def ents (es : List Ent) : List AV := (es.map fun e => e.map I).flatten
theorem ents_rep (e : Ent) (n : Nat) : ents (List.replicate n e) = rep (e.map I) n := by
  induction n with
  | zero => rfl
  | succ n ih =>
    rw [List.replicate_succ']
    simp only [ents, List.map_append, List.flatten_append] at ih ⊢
    rw [ih]
    simp [rep]

theorem Sl.dropB {σ : Store} {v : AV} {bs : List Int} (h : Sl σ 1 v (bs.map U) bs.length) (k : Nat) (hk : k ≤ bs.length) : Sl σ 1 (subP 1 v k bs.length) ((bs.drop k).map U) (bs.drop k).length := by
  have := h.drop k hk
  rw [Nat.mul_one] at this
  rw [List.map_drop, List.length_drop]
  exact this
theorem Byt.drop {bs : List Int} (h : Byt bs) (k : Nat) : Byt (bs.drop k) := by
  intro i hi
  have := h (k + i) (by simp at hi; omega)
  simpa [List.getD, List.getElem?_drop] using this

section
variable {σ : Store} {v : AV} {bs : List Int}
theorem entry_tick (hs : Sl σ 1 v (bs.map U) bs.length) (hb : Byt bs) (h1 : 1 ≤ bs.length) (hl : bs.length < 2 ^ 40) (hx : bs.getD 0 0 % 4 = 0) :
    Ans ES 25 [v] σ (fun r σ' => σ' = σ ∧ ∃ w, r = .tup [subP 1 v 1 bs.length, w, B true] ∧ Sl σ 8 w (rep (tickE.map I) ((bs.getD 0 0 / 4).toNat + 1)) ((bs.getD 0 0 / 4).toNat + 1)) := by
  have e1 := hs.sl
  have e2 := hs.ix
  have b0 := hb 0 (by omega)
  have e3 := fun f n all (o : Oper) l cls k Q loc ts => hs.ldk (E := ES) (f := f) (n := n) (all := all) (o := o) (l := l) (cls := cls) (k := k) (Q := Q) (loc := loc) (ts := ts) (e := 5) (by rw [ES_P]; exact g5) 0 (U (bs.getD 0 0)) (by rw [List.getElem?_map, getq (by omega)]; rfl)
  have e4 := hs.from
  refine w25 100 ?_
  cases hv : immV v
  all_goals
    repeat' first | with_reducible refine CondK_split (fun h => ?_) (fun h => ?_) | with_reducible refine gdK_dec (fun h => ?_) (fun h => ?_) | with_reducible refine GuardK_dec (fun h => ?_) (fun h => ?_) | with_reducible refine WP_draw ?_ | with_reducible refine WP_drw_end (by kernel_rfl) ?_ | simp (disch := first | omega | (simp only [List.length_append, List.length_cons, List.length_nil, List.length_set, List.length_map, List.length_replicate, List.length_drop, List.length_take] <;> omega) | assumption) only [WP_seq, WP_cond, CondK_dt, WP_region, WP_ops_nil, WP_op, arK_val, arK_call, put_some, opd_tmp, opd_const, opd_func, ofV_int, ofV_bool, ofV_nils, avOf_v, tg0, tg1, tg2, tg3, tg4, tg5, tg6, tg7, tg8, ts0, ts1, ts2, ts3, ts4, ts5, ts6, ts7, ts8, aop_move, aop_assign, aop_build, aop_binOp, aop_slice, aop_call, callR_fn, bin_add, bin_andK, bin_shr, bin_eql, acvt, intOpd, avOpd, optIdx, frzO, frzL, frzT_v, acall, aindex_eq, ixU_s, ixE_some, aslice_eq, slU_s, slE_some, wrap_i64, List.map_cons, List.map_nil, List.cons_append, List.nil_append, List.append_nil, Option.map_some, Option.bind_some, Int.reduceLT, Int.reduceToNat, if_false, Bool.false_eq_true, ES_P, WP_drw_n, DT_move, DT_assign, DT_binOp, DT_convert, DT_indexAddr, DT_load, qK_some, prefrz, bits_u8, fdiv_pos, andK3_u8, Nat.min_eq_left, Int.reducePow, ite_t, List.zip_cons_cons, List.zip_nil_right, eq_self, U, B, Option.bind_some, bodyOf, Option.getD_some, u24, u3, s5, u5, bb56_0, c45, t45, Tryz.f25, e2, e3, e4, hv]
    refine (repeat_ok' (tickE.map I) rfl rfl _ (by omega) (by omega) σ).mono ?_
    rintro r σ' ⟨rfl, hr⟩
    repeat' first | with_reducible refine CondK_split (fun h => ?_) (fun h => ?_) | with_reducible refine gdK_dec (fun h => ?_) (fun h => ?_) | with_reducible refine GuardK_dec (fun h => ?_) (fun h => ?_) | with_reducible refine WP_draw ?_ | with_reducible refine WP_drw_end (by kernel_rfl) ?_ | simp (disch := first | omega | (simp only [List.length_append, List.length_cons, List.length_nil, List.length_set, List.length_map, List.length_replicate, List.length_drop, List.length_take] <;> omega) | assumption) only [WP_nil, WP_ret, WP_code_ret, WP_ops_nil, WP_op, arK_val, After_eq, Fin_ret, FinK_some, put_some, opd_tmp, opd_const, ofV_bool, tg2, tg3, tg4, tg6, tg8, ts2, ts3, ts4, ts6, ts8, aop_assign, frzO, frzT_v, ares, aresL, Option.map_some, Option.bind_some, eq_self, Option.bind_some]
    rw [show (bs.getD 0 0 / 4 + 1).toNat = (bs.getD 0 0 / 4).toNat + 1 by omega] at hr
    exact ⟨trivial, r, rfl, hr⟩
theorem entry_one (hs : Sl σ 1 v (bs.map U) bs.length) (hb : Byt bs) (h1 : 1 ≤ bs.length) (hl : bs.length < 2 ^ 40) (hx : bs.getD 0 0 % 4 = 1) :
    Ans ES 25 [v] σ (fun r σ' => σ' = σ ∧ ∃ w, r = .tup [subP 1 v 1 bs.length, w, B true] ∧ Sl σ 8 w (rep ((pickE (bs.getD 0 0 / 4)).map I) 1) 1) := by
  have e1 := hs.sl
  have e2 := hs.ix
  have b0 := hb 0 (by omega)
  have e3 := fun f n all (o : Oper) l cls k Q loc ts => hs.ldk (E := ES) (f := f) (n := n) (all := all) (o := o) (l := l) (cls := cls) (k := k) (Q := Q) (loc := loc) (ts := ts) (e := 5) (by rw [ES_P]; exact g5) 0 (U (bs.getD 0 0)) (by rw [List.getElem?_map, getq (by omega)]; rfl)
  have e4 := hs.from
  refine w25 100 ?_
  cases hv : immV v
  all_goals
    repeat' first | with_reducible refine CondK_split (fun h => ?_) (fun h => ?_) | with_reducible refine gdK_dec (fun h => ?_) (fun h => ?_) | with_reducible refine GuardK_dec (fun h => ?_) (fun h => ?_) | with_reducible refine WP_draw ?_ | with_reducible refine WP_drw_end (by kernel_rfl) ?_ | simp (disch := first | omega | (simp only [List.length_append, List.length_cons, List.length_nil, List.length_set, List.length_map, List.length_replicate, List.length_drop, List.length_take] <;> omega) | assumption) only [WP_seq, WP_skip, WP_cond, CondK_dt, CondK_df, WP_region, WP_ops_nil, WP_op, arK_val, arK_call, put_some, opd_tmp, opd_const, opd_func, ofV_int, ofV_bool, ofV_nils, avOf_v, tg0, tg1, tg2, tg3, tg4, tg5, tg6, tg7, tg8, ts0, ts1, ts2, ts3, ts4, ts5, ts6, ts7, ts8, aop_move, aop_assign, aop_build, aop_binOp, aop_slice, aop_call, callR_fn, bin_andK, bin_shr, bin_eql, acvt, intOpd, avOpd, optIdx, frzO, frzL, frzT_v, acall, aindex_eq, ixU_s, ixE_some, aslice_eq, slU_s, slE_some, wrap_i64, List.map_cons, List.map_nil, List.cons_append, List.nil_append, List.append_nil, Option.map_some, Option.bind_some, Int.reduceLT, Int.reduceToNat, if_false, Bool.false_eq_true, ES_P, WP_drw_n, DT_move, DT_assign, DT_binOp, DT_convert, DT_indexAddr, DT_load, qK_some, prefrz, bits_u8, fdiv_pos, andK3_u8, Nat.min_eq_left, Int.reducePow, ite_t, List.zip_cons_cons, List.zip_nil_right, eq_self, U, B, Option.bind_some, bodyOf, Option.getD_some, u24, u3, s5, u5, c45, bb56_0_1, t45, Tryz.f25, e2, e3, e4, hv]
    refine (repeat_ok' ((pickE (bs.getD 0 0 / 4)).map I) rfl rfl 1 (by omega) (by omega) σ).mono ?_
    rintro r σ' ⟨rfl, hr⟩
    repeat' first | with_reducible refine CondK_split (fun h => ?_) (fun h => ?_) | with_reducible refine gdK_dec (fun h => ?_) (fun h => ?_) | with_reducible refine GuardK_dec (fun h => ?_) (fun h => ?_) | with_reducible refine WP_draw ?_ | with_reducible refine WP_drw_end (by kernel_rfl) ?_ | simp (disch := first | omega | (simp only [List.length_append, List.length_cons, List.length_nil, List.length_set, List.length_map, List.length_replicate, List.length_drop, List.length_take] <;> omega) | assumption) only [WP_nil, WP_ret, WP_code_ret, WP_ops_nil, WP_op, arK_val, After_eq, Fin_ret, FinK_some, put_some, opd_tmp, opd_const, ofV_bool, tg1, tg2, tg3, tg4, tg8, ts2, ts3, ts4, ts8, aop_assign, frzO, frzT_v, ares, aresL, Option.map_some, Option.bind_some, eq_self, Option.bind_some]
    exact ⟨trivial, r, rfl, hr⟩
theorem entry_picks (hs : Sl σ 1 v (bs.map U) bs.length) (hb : Byt bs) (h1 : 2 ≤ bs.length) (hl : bs.length < 2 ^ 40) (hx : bs.getD 0 0 % 4 = 2) :
    Ans ES 25 [v] σ (fun r σ' => σ' = σ ∧ ∃ w, r = .tup [subP 1 (subP 1 v 1 bs.length) 1 (bs.drop 1).length, w, B true] ∧ Sl σ 8 w (rep ((pickE (bs.getD 1 0 % 64)).map I) ((bs.getD 0 0 / 4).toNat + 1)) ((bs.getD 0 0 / 4).toNat + 1)) := by
  have e1 := hs.sl
  have e2 := hs.ix
  have b0 := hb 0 (by omega)
  have b1 := hb 1 (by omega)
  have e3 := fun f n all (o : Oper) l cls k Q loc ts => hs.ldk (E := ES) (f := f) (n := n) (all := all) (o := o) (l := l) (cls := cls) (k := k) (Q := Q) (loc := loc) (ts := ts) (e := 5) (by rw [ES_P]; exact g5) 0 (U (bs.getD 0 0)) (by rw [List.getElem?_map, getq (by omega)]; rfl)
  have e4 := hs.from
  have e5 := take_1 (hs.dropB 1 (by omega)) (hb.drop 1) (by simp; omega)
  rw [le_take1 (k := 1) (by omega)] at e5
  refine w25 100 ?_
  cases hv : immV v
  all_goals
    repeat' first | with_reducible refine CondK_split (fun h => ?_) (fun h => ?_) | with_reducible refine gdK_dec (fun h => ?_) (fun h => ?_) | with_reducible refine GuardK_dec (fun h => ?_) (fun h => ?_) | with_reducible refine WP_draw ?_ | with_reducible refine WP_drw_end (by kernel_rfl) ?_ | simp (disch := first | omega | (simp only [List.length_append, List.length_cons, List.length_nil, List.length_set, List.length_map, List.length_replicate, List.length_drop, List.length_take] <;> omega) | assumption) only [WP_seq, WP_skip, WP_cond, CondK_dt, CondK_df, WP_region, WP_ops_nil, WP_op, arK_val, arK_call, After_eq, put_some, opd_tmp, opd_const, opd_func, ofV_int, ofV_bool, ofV_nils, avOf_v, tg0, tg1, tg2, tg3, tg4, tg5, tg6, tg7, tg8, ts0, ts1, ts2, ts3, ts4, ts5, ts6, ts7, ts8, aop_move, aop_assign, aop_build, aop_binOp, aop_slice, aop_extract, aop_call, callR_fn, bin_add, bin_andK, bin_shr, bin_eql, acvt, intOpd, avOpd, optIdx, frzO, frzL, frzT_v, acall, aindex_eq, ixU_s, ixE_some, aslice_eq, slU_s, slE_some, aextract, wrap_i64, List.map_cons, List.map_nil, List.cons_append, List.nil_append, List.append_nil, Option.map_some, Option.bind_some, Int.reduceLT, Int.reduceToNat, if_false, Bool.false_eq_true, ES_P, WP_drw_n, DT_move, DT_assign, DT_binOp, DT_convert, DT_indexAddr, DT_load, qK_some, prefrz, bits_u8, fdiv_pos, andK3_u8, andK63, Nat.min_eq_left, Int.reducePow, ite_t, List.zip_cons_cons, List.zip_nil_right, eq_self, I, U, B, vg0, vg1, Option.bind_some, bodyOf, Option.getD_some, u24, u3, s5, u5, c22, t22, c45, bb56_0_1, t45, Tryz.f25, e2, e3, e4, hv, e5.eq]
    refine (repeat_ok' ((pickE (bs.getD 1 0 % 64)).map I) rfl rfl _ (by omega) (by omega) σ).mono ?_
    rintro r σ' ⟨rfl, hr⟩
    repeat' first | with_reducible refine CondK_split (fun h => ?_) (fun h => ?_) | with_reducible refine gdK_dec (fun h => ?_) (fun h => ?_) | with_reducible refine GuardK_dec (fun h => ?_) (fun h => ?_) | with_reducible refine WP_draw ?_ | with_reducible refine WP_drw_end (by kernel_rfl) ?_ | simp (disch := first | omega | (simp only [List.length_append, List.length_cons, List.length_nil, List.length_set, List.length_map, List.length_replicate, List.length_drop, List.length_take] <;> omega) | assumption) only [WP_nil, WP_ret, WP_code_ret, WP_ops_nil, WP_op, arK_val, After_eq, Fin_ret, FinK_some, put_some, opd_tmp, tg0, tg2, tg3, tg4, tg5, tg8, ts2, ts3, ts4, ts8, aop_move, aop_assign, frzO, frzT_v, ares, aresL, Option.map_some, Option.bind_some, eq_self, Option.bind_some]
    rw [show (bs.getD 0 0 / 4 + 1).toNat = (bs.getD 0 0 / 4).toNat + 1 by omega] at hr
    exact ⟨trivial, r, rfl, hr⟩
theorem partsV_cases (op : Int) : (op = 1 ∧ partsV op = .is [.fn 59 [] [], I 4, .fn 60 [] [], I 1, .fn 61 [] [], I 4] 3 true) ∨ (op = 2 ∧ partsV op = .is [.fn 57 [] [], I 2, .fn 58 [] [], I 4] 2 true) ∨ (op = 3 ∧ partsV op = .is [.fn 57 [] [], I 2, .fn 58 [] [], I 4, .fn 59 [] [], I 4] 3 true)
    ∨ (op = 4 ∧ partsV op = .is [.fn 57 [] [], I 2, .fn 58 [] [], I 4, .fn 60 [] [], I 1] 3 true) ∨ (op ≠ 1 ∧ op ≠ 2 ∧ op ≠ 3 ∧ op ≠ 4 ∧ partsV op = nilS) := by
  by_cases h1 : op = 1
  · exact .inl ⟨h1, by simp [partsV, h1]; rfl⟩
  by_cases h2 : op = 2
  · exact .inr (.inl ⟨h2, by simp [partsV, h2]; rfl⟩)
  by_cases h3 : op = 3
  · exact .inr (.inr (.inl ⟨h3, by simp [partsV, h3]; rfl⟩))
  by_cases h4 : op = 4
  · exact .inr (.inr (.inr (.inl ⟨h4, by simp [partsV, h4]; rfl⟩)))
  · exact .inr (.inr (.inr (.inr ⟨h1, h2, h3, h4, by simp [partsV, h1, h2, h3, h4]⟩)))

theorem entry_end (hs : Sl σ 1 v (bs.map U) bs.length) (hb : Byt bs) (h1 : bs.length = 1) (hx : 2 ≤ bs.getD 0 0 % 4) :
    Ans ES 25 [v] σ (fun r σ' => (∃ g, σ' = σ ++ g) ∧ ∃ a w, r = .tup [a, w, B false] ∧ ∃ cs n, Sl σ' 8 w cs n ∧ n < 1000) := by
  have e1 := hs.sl
  have e2 := hs.ix
  have b0 := hb 0 (by omega)
  have e3 := fun f n all (o : Oper) l cls k Q loc ts => hs.ldk (E := ES) (f := f) (n := n) (all := all) (o := o) (l := l) (cls := cls) (k := k) (Q := Q) (loc := loc) (ts := ts) (e := 5) (by rw [ES_P]; exact g5) 0 (U (bs.getD 0 0)) (by rw [List.getElem?_map, getq (by omega)]; rfl)
  have e4 := hs.from
  have e5 := take_short (hs.dropB 1 (by omega)) 1 (by simp; omega)
  by_cases hx2 : bs.getD 0 0 % 4 = 2
  · refine w25 100 ?_
    cases hv : immV v
    all_goals
      repeat' first | with_reducible refine CondK_split (fun h => ?_) (fun h => ?_) | with_reducible refine gdK_dec (fun h => ?_) (fun h => ?_) | with_reducible refine GuardK_dec (fun h => ?_) (fun h => ?_) | with_reducible refine WP_draw ?_ | with_reducible refine WP_drw_end (by kernel_rfl) ?_ | simp (disch := first | omega | (simp only [List.length_append, List.length_cons, List.length_nil, List.length_set, List.length_map, List.length_replicate, List.length_drop, List.length_take] <;> omega) | assumption) only [WP_seq, WP_skip, WP_cond, CondK_dt, CondK_df, WP_region, WP_ops_nil, WP_op, arK_val, arK_call, After_eq, put_some, opd_tmp, opd_const, opd_func, ofV_int, ofV_bool, ofV_nils, avOf_v, tg0, tg1, tg2, tg3, tg4, tg5, tg6, tg7, tg8, ts0, ts1, ts2, ts3, ts4, ts5, ts6, ts7, ts8, aop_move, aop_assign, aop_build, aop_binOp, aop_slice, aop_extract, aop_call, callR_fn, bin_add, bin_andK, bin_shr, bin_eql, acvt, intOpd, avOpd, optIdx, frzO, frzL, frzT_v, acall, aindex_eq, ixU_s, ixE_some, aslice_eq, slU_s, slE_some, aextract, wrap_i64, List.map_cons, List.map_nil, List.cons_append, List.nil_append, List.append_nil, Option.map_some, Option.bind_some, Int.reduceLT, Int.reduceToNat, if_false, Bool.false_eq_true, ES_P, WP_drw_n, DT_move, DT_assign, DT_binOp, DT_convert, DT_indexAddr, DT_load, qK_some, prefrz, bits_u8, fdiv_pos, andK3_u8, andK63, Nat.min_eq_left, Int.reducePow, Int.reduceMod, ite_t, List.zip_cons_cons, List.zip_nil_right, eq_self, I, U, B, nilS, vg0, vg1, Option.bind_some, bodyOf, Option.getD_some, u24, u3, s5, u5, c22, t22, c45, bb56_0_1, t45, Tryz.f25, e2, e3, e4, hv, e5.eq]
      refine (repeat_ok' ((pickE 0).map I) rfl rfl _ (by omega) (by omega) σ).mono ?_
      rintro r σ' ⟨rfl, hr⟩
      repeat' first | with_reducible refine CondK_split (fun h => ?_) (fun h => ?_) | with_reducible refine gdK_dec (fun h => ?_) (fun h => ?_) | with_reducible refine GuardK_dec (fun h => ?_) (fun h => ?_) | with_reducible refine WP_draw ?_ | with_reducible refine WP_drw_end (by kernel_rfl) ?_ | simp (disch := first | omega | (simp only [List.length_append, List.length_cons, List.length_nil, List.length_set, List.length_map, List.length_replicate, List.length_drop, List.length_take] <;> omega) | assumption) only [WP_nil, WP_ret, WP_code_ret, WP_ops_nil, WP_op, arK_val, After_eq, Fin_ret, FinK_some, put_some, opd_tmp, tg0, tg2, tg3, tg4, tg5, tg8, ts2, ts3, ts4, ts8, aop_move, aop_assign, frzO, frzT_v, ares, aresL, Option.map_some, Option.bind_some, Option.bind_some]
      exact ⟨⟨[], by simp⟩, _, r, rfl, _, _, hr, by omega⟩
  · rcases partsV_cases (bs.getD 0 0 / 4) with ⟨_, hp⟩ | ⟨_, hp⟩ | ⟨_, hp⟩ | ⟨_, hp⟩ | ⟨_, _, _, _, hp⟩
    all_goals
      refine w25 100 ?_
      cases hv : immV v
      all_goals
        repeat' first | with_reducible refine CondK_split (fun h => ?_) (fun h => ?_) | with_reducible refine gdK_dec (fun h => ?_) (fun h => ?_) | with_reducible refine GuardK_dec (fun h => ?_) (fun h => ?_) | with_reducible refine WP_draw ?_ | with_reducible refine WP_drw_end (by kernel_rfl) ?_ | simp (disch := first | omega | (simp only [List.length_append, List.length_cons, List.length_nil, List.length_set, List.length_map, List.length_replicate, List.length_drop, List.length_take] <;> omega) | assumption) only [WP_nil, WP_seq, WP_skip, WP_ret, WP_exit, WP_code_exit, WP_blk_ex, blkK_t, blkK_f, Nat.reduceBEq, WP_lp_exit, WP_block, WP_cond, CondK_t, CondK_dt, CondK_df, WP_region, WP_ops_nil, WP_op, arK_val, arK_skip, arK_call, After_eq, Fin_ret, FinK_some, put_some, put_none, opd_tmp, opd_const, opd_func, ofV_int, ofV_bool, ofV_nils, avOf_v, tg0, tg1, tg2, tg3, tg4, tg5, tg6, tg7, tg8, ts0, ts1, ts2, ts3, ts4, ts5, ts6, ts7, ts8, aop_move, aop_assign, aop_alloc, aop_build, aop_load, aop_store, storeR_some, aop_binOp, aop_unOp, aop_slice, aop_indexAddr, aop_extract, aop_builtin, aop_call, callR_fn, mkP_glob, mkP_df, cellAt_some, rangeAt_some, cellAt_none, rangeAt_none, ld_ip, ld_gp, ldV_t, spliceAt_some, wr_gp, wr_lp, bin_andK, bin_shr, bin_eql, bin_lss, aun_not, acvt, intOpd, avOpd, optIdx, frzO, frzL, frzT_v, ares, aresL, acall, abuiltin, alen, slen_nil, slen_is, aindex_eq, ixU_s, ixE_some, ixS_is, aslice_eq, slU_s, slE_some, aextract, wrap_i64, List.map_cons, List.map_nil, List.length_cons, List.length_nil, List.cons_append, List.nil_append, List.append_nil, Option.map_some, Option.map_none, Option.bind_some, mapM_c, mapM_n, Nat.reduceAdd, Nat.reduceMul, Nat.reduceLT, Int.reduceLT, Int.reduceToNat, if_false, Bool.false_eq_true, Bool.not_false, ES_P, WP_drw_n, DT_move, DT_assign, DT_binOp, DT_convert, DT_indexAddr, DT_load, DT_bslK, bslK_d, qK_some, ldK_some, frK_some, prefrz, lkT_v, bits_u8, fdiv_pos, andK3_u8, Nat.min_eq_left, Int.reducePow, get_app_r, set_app_r, Nat.sub_self, window_all, win_z, win_s, ite_t, splice_eq, spliceC_all, List.all_cons, List.all_nil, ok_int, ok_fn, co_agg, ss0, List.zip_cons_cons, List.zip_nil_right, List.drop_zero, eq_self, I, U, B, nilS, vg0, vg1, sg0, sgn, Bool.and_self, Nat.zero_add, Option.bind_some, bodyOf, Option.getD_some, u24, u3, s5, s56, z56, g56, u5, c22, t22, bb56_0_1_2, m25_9, c46, u101, s105, z105, g105, m25_11, m25_80, sl30, h25, k25, t46, WP_unroll, WP_lp, Tryz.f25, e2, e3, e4, hv, e5.eq, (parts_ok _ _).eq, hp, k25, h25]
        exact ⟨⟨_, rfl⟩, _, _, rfl, _, _, .imm rfl, by omega⟩
end
end Go.Abs
