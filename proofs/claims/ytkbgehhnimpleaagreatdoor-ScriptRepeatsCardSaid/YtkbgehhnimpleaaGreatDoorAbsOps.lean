/- An abstract reading of the program, and what it answers. By an AI agent. -/
import Derived.Test.YtkbgehhnimpleaaGreatDoorAbsInv
set_option linter.all false
namespace Go.Abs

def ofV : Value → AV
  | .agg xs => .agg (xs.toList.map .sc)
  | .tuple xs => .tup (xs.toList.map .sc)
  | v => .sc v

theorem VRL_sc (g : Gh) : ∀ l : List Value, VRL g (l.map .sc) l
  | [] => by simp [VRL]
  | v :: l => by rw [List.map_cons]; exact VRL_cons.2 ⟨by simp [VR], VRL_sc g l⟩

theorem VR_ofV (g : Gh) (v : Value) : VR g (ofV v) v := by
  cases v <;> first
    | (simp [ofV, VR]; done)
    | (simp only [ofV, VR]; exact ⟨_, rfl, VRL_sc g _⟩)

def cellsOf : AV → List AV
  | .agg cs => cs
  | .sc (.agg xs) => xs.toList.map .sc
  | a => [a]

theorem VR_cells {g : Gh} {a : AV} {v : Value} (h : VR g a v) : VRL g (cellsOf a) v.cells.toList := by
  cases a with
  | sc v0 =>
    have : v = v0 := by simpa [VR] using h
    subst this
    cases v <;> first
      | exact VRL_sc g _
      | (simp only [cellsOf, Value.cells]; exact VRL_cons.2 ⟨h, VRL_nil⟩)
  | agg cs =>
    simp only [VR] at h
    obtain ⟨xs, rfl, hx⟩ := h
    exact hx
  | tup cs => have h' := h; simp only [VR] at h; obtain ⟨xs, rfl, hx⟩ := h; exact VRL_cons.2 ⟨h', VRL_nil⟩
  | fn f a b => have h' := h; simp only [VR] at h; obtain ⟨xs, ys, rfl, hx⟩ := h; exact VRL_cons.2 ⟨h', VRL_nil⟩
  | ip cs => have h' := h; simp only [VR] at h; obtain ⟨b, off, c, T, fz, _, rfl, hx⟩ := h; exact VRL_cons.2 ⟨h', VRL_nil⟩
  | «is» cs len ex => have h' := h; simp only [VR] at h; obtain ⟨b, off, c, T, fz, cap, _, rfl, hx⟩ := h; exact VRL_cons.2 ⟨h', VRL_nil⟩
  | gp id off => have h' := h; simp only [VR] at h; obtain ⟨b, _, rfl⟩ := h; exact VRL_cons.2 ⟨h', VRL_nil⟩
  | gs id off len sz cap => have h' := h; simp only [VR] at h; obtain ⟨b, c, off', _, rfl, _⟩ := h; exact VRL_cons.2 ⟨h', VRL_nil⟩

/-- May it stand in one cell? -/
def cellOk : AV → Bool
  | .sc v => v.oneCell'
  | .agg _ | .tup _ => false
  | _ => true

theorem VR_oneCell {g : Gh} {a : AV} {v : Value} (h : VR g a v) (hc : cellOk a = true) : v.oneCell' = true := by
  cases a with
  | sc v0 =>
    have : v = v0 := by simpa [VR] using h
    subst this; exact hc
  | agg cs => simp [cellOk] at hc
  | tup cs => simp [cellOk] at hc
  | fn f a b => simp only [VR] at h; obtain ⟨xs, ys, rfl, hx⟩ := h; rfl
  | ip cs => simp only [VR] at h; obtain ⟨b, off, c, T, fz, _, rfl, hx⟩ := h; rfl
  | «is» cs len ex => simp only [VR] at h; obtain ⟨b, off, c, T, fz, cap, _, rfl, hx⟩ := h; rfl
  | gp id off => simp only [VR] at h; obtain ⟨b, _, rfl⟩ := h; rfl
  | gs id off len sz cap => simp only [VR] at h; obtain ⟨b, c, off', _, rfl, _⟩ := h; rfl

theorem VRL_oneCell {g : Gh} : ∀ {as : List AV} {vs : List Value}, VRL g as vs → as.all cellOk = true → ∀ v ∈ vs, v.oneCell' = true
  | [], vs, h, _ => by simp [VRL] at h; subst h; simp
  | a :: as, vs, h, hc => by
    simp only [VRL] at h
    obtain ⟨v, vs', rfl, h1, h2⟩ := h
    simp only [List.all_cons, Bool.and_eq_true] at hc
    intro u hu
    rcases List.mem_cons.1 hu with rfl | hu
    · exact VR_oneCell h1 hc.1
    · exact VRL_oneCell h2 hc.2 u hu

/-! ### Freezing a block of the frame's own -/

def TV.sub (i : Nat) (cs : List AV) : TV → TV
  | .lp j off => if j = i then .v (.ip (cs.drop off)) else .lp j off
  | .ls j off len sz cap => if j = i then .v (.is ((cs.drop off).take (len * sz)) len (cap == some len)) else .ls j off len sz cap
  | t => t

def St.freeze (st : St) (i : Nat) (cs : List AV) : St := { st with loc := st.loc.set i none, tmps := st.tmps.map (TV.sub i cs) }

theorem take_window {g : Gh} {cs : List AV} {c : List Value} (h : VRL g cs (c.take cs.length)) (off n : Nat) : VRL g ((cs.drop off).take n) ((c.drop off).take ((cs.drop off).take n).length) := by
  have h1 := VRL_take n (VRL_drop off h)
  rw [List.drop_take, List.take_take] at h1
  rw [List.length_take, List.length_drop]
  exact h1

theorem drop_window {g : Gh} {cs : List AV} {c : List Value} (h : VRL g cs (c.take cs.length)) (off : Nat) : VRL g (cs.drop off) ((c.drop off).take (cs.drop off).length) := by
  have h1 := VRL_drop off h
  rw [List.drop_take] at h1
  rw [List.length_drop]
  exact h1

theorem TVR_sub {g g' : Gh} {lam : List (Nat × Nat)} {i : Nat} {b : Nat × Nat} {cs : List AV} {c : Array Value} {T : TypeId} (hle : g.Le g') (hb : lam[i]? = some b) (hi : g'.imm b.1 = some (.cells c T (0, 0)))
    (hc : VRL g' cs (c.toList.take cs.length)) {t : TV} {v : Value} (h : TVR g lam t v) : TVR g' lam (t.sub i cs) v := by
  cases t with
  | v a => exact VR_mono hle a v h
  | lp j off =>
    obtain ⟨b', h1, rfl⟩ := h
    by_cases hj : j = i
    · subst hj
      rw [hb] at h1; cases h1
      simp only [TV.sub, if_true, TVR, VR]
      exact ⟨b.1, off, c, T, (0, 0), hi, rfl, drop_window hc off⟩
    · simp only [TV.sub, hj, if_false, TVR]
      exact ⟨b', h1, rfl⟩
  | ls j off len sz cap =>
    obtain ⟨b', k, off', h1, rfl, h2, h3, h4⟩ := h
    by_cases hj : j = i
    · subst hj
      rw [hb] at h1; cases h1
      simp only [TV.sub, if_true, TVR, VR]
      refine ⟨b.1, off', c, T, (0, 0), k, hi, rfl, h2, ?_, ?_⟩
      · intro he
        exact h3 len (by simpa using he)
      · by_cases hk : 0 < k
        · rw [(h4 hk).1]; exact take_window hc off _
        · have : len = 0 := by omega
          subst this
          simp [VRL]
    · simp only [TV.sub, hj, if_false, TVR]
      exact ⟨b', k, off', h1, rfl, h2, h3, h4⟩
  | top => trivial

section
variable {σ0 : Store} {g0 : Gh} {w0 : World} {st : St} {g : Gh} {lam : List (Nat × Nat)} {w : World} {tm : List Value}

theorem get_of_len {α β : Type} {l : List α} {m : List β} (h : m.length = l.length) {i : Nat} {x : α} (hx : l[i]? = some x) : ∃ y, m[i]? = some y := by
  have hi : i < l.length := by
    rcases Nat.lt_or_ge i l.length with h' | h'
    · exact h'
    · rw [List.getElem?_eq_none h'] at hx; cases hx
  exact ⟨m[i], List.getElem?_eq_getElem (by omega)⟩

theorem Inv.freeze (h : Inv σ0 g0 w0 st g lam w tm) {i : Nat} {cs : List AV} (hi : st.loc[i]? = some (some cs)) :
    ∃ g', g.Le g' ∧ Inv σ0 g0 w0 (st.freeze i cs) g' lam w tm ∧ ∀ t v, TVR g lam t v → TVR g' lam (t.sub i cs) v := by
  obtain ⟨b, hb⟩ := get_of_len h.lr.len hi
  obtain ⟨h1, hu, ho, ⟨c, T, hc, _, hr⟩, h0⟩ := h.killLoc hi hb
  obtain ⟨g', hle, him, hβ, h2⟩ := h1.addImm hu h0 hc
  have hr' := VRL_mono hle _ _ hr
  have hs : ∀ t v, TVR g lam t v → TVR g' lam (t.sub i cs) v := fun t v ht => TVR_sub hle hb him hr' ht
  refine ⟨g', hle, ⟨h2.ev, h2.wr, h2.lr, ?_⟩, hs⟩
  have := h.tm
  clear h h1 h2 hu
  show TVRL g' lam (st.tmps.map (TV.sub i cs)) tm
  generalize st.tmps = ts at *
  induction this with
  | nil => exact .nil
  | cons h1 _ ih => exact .cons (hs _ _ h1) ih

/-- What leaves the frame is frozen. -/
def frzT (st : St) : TV → Option (AV × St)
  | .v a => some (a, st)
  | .lp i off => match st.loc[i]? with
    | some (some cs) => some (.ip (cs.drop off), st.freeze i cs)
    | _ => none
  | .ls i off len sz cap => match st.loc[i]? with
    | some (some cs) => some (.is ((cs.drop off).take (len * sz)) len (cap == some len), st.freeze i cs)
    | _ => none
  | .top => none

theorem frzT_ok (h : Inv σ0 g0 w0 st g lam w tm) {t : TV} {v : Value} (ht : TVR g lam t v) {a : AV} {st' : St} (he : frzT st t = some (a, st')) :
    ∃ g', g.Le g' ∧ Inv σ0 g0 w0 st' g' lam w tm ∧ VR g' a v := by
  cases t with
  | v x =>
    simp only [frzT, Option.some.injEq, Prod.mk.injEq] at he
    obtain ⟨rfl, rfl⟩ := he
    exact ⟨g, Gh.Le.refl g, h, ht⟩
  | lp i off =>
    simp only [frzT] at he
    split at he
    · rename_i cs hi
      simp only [Option.some.injEq, Prod.mk.injEq] at he
      obtain ⟨rfl, rfl⟩ := he
      obtain ⟨g', hle, h1, h2⟩ := h.freeze hi
      refine ⟨g', hle, h1, ?_⟩
      have := h2 _ _ ht
      simpa [TV.sub, TVR] using this
    · cases he
  | ls i off len sz cap =>
    simp only [frzT] at he
    split at he
    · rename_i cs hi
      simp only [Option.some.injEq, Prod.mk.injEq] at he
      obtain ⟨rfl, rfl⟩ := he
      obtain ⟨g', hle, h1, h2⟩ := h.freeze hi
      refine ⟨g', hle, h1, ?_⟩
      have := h2 _ _ ht
      simpa [TV.sub, TVR] using this
    · cases he
  | top => simp [frzT] at he

def opd (st : St) : Operand → Option TV
  | .tmp t => st.tmps[t]?
  | .const v => some (.v (ofV v))
  | .func f => some (.v (.fn f [] []))
  | .global _ => none

theorem opd_ok {a : Act} (h : Inv σ0 g0 w0 st g lam w a.tmps.toList) {x : Operand} {t : TV} (he : opd st x = some t) : TVR g lam t (a.eval x) := by
  cases x with
  | tmp i =>
    obtain ⟨v, hv, hr⟩ := h.tm.get he
    have : a.tmps[i]? = some v := by simpa using hv
    simp only [Act.eval, Array.getD_eq_getD_getElem?, this, Option.getD_some]
    exact hr
  | const v => simp only [opd, Option.some.injEq] at he; subst he; exact VR_ofV g v
  | func f =>
    simp only [opd, Option.some.injEq] at he; subst he
    simp only [TVR, VR, Act.eval]
    exact ⟨#[], #[], rfl, VRL_nil, VRL_nil⟩
  | global i => simp [opd] at he

def frzO (st : St) (x : Operand) : Option (AV × St) := (opd st x).bind (frzT st)

theorem frzO_ok {a : Act} (h : Inv σ0 g0 w0 st g lam w a.tmps.toList) {x : Operand} {y : AV} {st' : St} (he : frzO st x = some (y, st')) :
    ∃ g', g.Le g' ∧ Inv σ0 g0 w0 st' g' lam w a.tmps.toList ∧ VR g' y (a.eval x) := by
  simp only [frzO, Option.bind_eq_some_iff] at he
  obtain ⟨t, h1, h2⟩ := he
  exact frzT_ok h (opd_ok h h1) h2

def frzL (st : St) : List Operand → Option (List AV × St)
  | [] => some ([], st)
  | x :: xs => match frzO st x with
    | some (y, st1) => match frzL st1 xs with
      | some (ys, st2) => some (y :: ys, st2)
      | none => none
    | none => none

theorem frzL_ok {a : Act} : ∀ {xs : List Operand} {st : St} {g : Gh} {ys : List AV} {st' : St}, Inv σ0 g0 w0 st g lam w a.tmps.toList → frzL st xs = some (ys, st') →
    ∃ g', g.Le g' ∧ Inv σ0 g0 w0 st' g' lam w a.tmps.toList ∧ VRL g' ys (xs.map a.eval)
  | [], st, g, ys, st', h, he => by
    simp only [frzL, Option.some.injEq, Prod.mk.injEq] at he
    obtain ⟨rfl, rfl⟩ := he
    exact ⟨g, Gh.Le.refl g, h, VRL_nil⟩
  | x :: xs, st, g, ys, st', h, he => by
    simp only [frzL] at he
    split at he
    · rename_i y st1 h1
      split at he
      · rename_i zs st2 h2
        simp only [Option.some.injEq, Prod.mk.injEq] at he
        obtain ⟨rfl, rfl⟩ := he
        obtain ⟨g1, hl1, i1, r1⟩ := frzO_ok h h1
        obtain ⟨g2, hl2, i2, r2⟩ := frzL_ok i1 h2
        exact ⟨g2, hl1.trans hl2, i2, VRL_cons.2 ⟨VR_mono hl2 _ _ r1, r2⟩⟩
      · cases he
    · cases he

/-! ### Reading cells -/

def window (l : List AV) (off n : Nat) : Option (List AV) := if off + n ≤ l.length then some ((l.drop off).take n) else none

def rd (st : St) : TV → Nat → Option (List AV)
  | .v (.ip cs), n => window cs 0 n
  | .v (.gp id off), n => match st.σ[id]? with
    | some (some cs) => window cs off n
    | _ => none
  | .lp i off, n => match st.loc[i]? with
    | some (some cs) => window cs off n
    | _ => none
  | _, _ => none

/-- These values lie from an address on. -/
def CellsAt (w : World) (b off : Nat) (vs : List Value) : Prop := ∀ (j : Nat) u, vs[j]? = some u → w.cell? ⟨b, off + j, none⟩ = some u

theorem cellsAt_of {w : World} {b : Nat} {c : Array Value} {T : TypeId} {fz : Nat × Nat} (h : w.heap[b]? = some (.cells c T fz)) (off n : Nat) : CellsAt w b off ((c.toList.drop off).take n) := by
  intro j u hu
  have h1 : (c.toList.drop off)[j]? = some u := by
    rw [List.getElem?_take] at hu
    split at hu
    · exact hu
    · cases hu
  rw [List.getElem?_drop] at h1
  simp [World.cell?, h]
  simpa using h1

theorem window_ok {g : Gh} {cs : List AV} {c : List Value} (h : VRL g cs (c.take cs.length)) {off n : Nat} {ys : List AV} (he : window cs off n = some ys) :
    VRL g ys ((c.drop off).take n) ∧ ys.length = n := by
  unfold window at he
  split at he
  · rename_i hle
    cases he
    have h1 := take_window h off n
    have hl : ((cs.drop off).take n).length = n := by simp; omega
    rw [hl] at h1
    exact ⟨h1, hl⟩
  · cases he

theorem rd_ok (h : Inv σ0 g0 w0 st g lam w tm) {t : TV} {v : Value} (ht : TVR g lam t v) {n : Nat} {ys : List AV} (he : rd st t n = some ys) :
    ∃ b off vs, v = .pointer (some ⟨b, off, none⟩) ∧ VRL g ys vs ∧ vs.length = n ∧ CellsAt w b off vs := by
  cases t with
  | v x =>
    cases x with
    | ip cs =>
      simp only [rd] at he
      simp only [TVR, VR] at ht
      obtain ⟨b, off, c, T, fz, h1, rfl, h2⟩ := ht
      obtain ⟨h3, h4⟩ := window_ok h2 he
      rw [List.drop_zero] at h3
      refine ⟨b, off, _, rfl, h3, by rw [← VRL_length h3, h4], cellsAt_of (h.wr.imm _ _ h1) off n⟩
    | gp id off =>
      simp only [rd] at he
      simp only [TVR, VR] at ht
      obtain ⟨b, h1, rfl⟩ := ht
      split at he
      · rename_i cs hcs
        obtain ⟨⟨c, T, h2, _, h3⟩, _⟩ := h.wr.obj id cs b hcs h1
        obtain ⟨h4, h5⟩ := window_ok h3 he
        exact ⟨b.1, off, _, rfl, h4, by rw [← VRL_length h4, h5], cellsAt_of h2 off n⟩
      · cases he
    | _ => simp [rd] at he
  | lp i off =>
    simp only [rd] at he
    obtain ⟨b, h1, rfl⟩ := ht
    split at he
    · rename_i cs hcs
      obtain ⟨⟨c, T, h2, _, h3⟩, _⟩ := h.lr.obj i cs b hcs h1
      obtain ⟨h4, h5⟩ := window_ok h3 he
      exact ⟨b.1, off, _, rfl, h4, by rw [← VRL_length h4, h5], cellsAt_of h2 off n⟩
    · cases he
  | ls i off len sz cap => simp [rd] at he
  | top => simp [rd] at he

theorem add_mk (b off n : Nat) : (⟨b, off, none⟩ : Addr).add n = ⟨b, off + n, none⟩ := by
  unfold Addr.add; split <;> simp_all

theorem run_loadCells_at {P : Program} {w : World} {b off : Nat} {vs : List Value} (h : CellsAt w b off vs) : (loadCells ⟨b, off, none⟩ vs.length).run P w = .ok vs.toArray w :=
  run_loadCells_list (P := P) w ⟨b, off, none⟩ vs (fun j v hv => by rw [add_mk]; exact h j v hv)

/-! ### Types -/

def isAggB (P : Program) (T : TypeId) : Option Bool := match P.underlying T with
  | some (.struct _) => some true
  | some (.array _ _) => some true
  | some _ => some false
  | none => none

def szOf (P : Program) (T : TypeId) : Option Nat := (P.info? T).map (·.size)

theorem run_isAgg {P : Program} {T : TypeId} {b : Bool} (h : isAggB P T = some b) (w : World) : (isAgg T).run P w = .ok b w := by
  unfold isAggB at h
  cases hu : P.underlying T with
  | none => rw [hu] at h; cases h
  | some d =>
    rw [hu] at h
    simp only [isAgg, Sem.run_bind, run_underlying hu, Result.andThen_ok]
    cases d <;> simp_all

theorem run_sizeOf' {P : Program} {T : TypeId} {n : Nat} (h : szOf P T = some n) (w : World) : (sizeOf T).run P w = .ok n w := by
  unfold szOf at h
  cases hi : P.info? T with
  | none => rw [hi] at h; cases h
  | some i => rw [hi] at h; simp at h; subst h; simp [sizeOf, typeInfo, hi]

def ld (P : Program) (st : St) (T : TypeId) (t : TV) : Option AV := match isAggB P T with
  | some true => match szOf P T with
    | some n => (rd st t n).map .agg
    | none => none
  | some false => (rd st t 1).bind (·.head?)
  | none => none

theorem ld_ok {P : Program} (h : Inv σ0 g0 w0 st g lam w tm) {T : TypeId} {t : TV} {v : Value} (ht : TVR g lam t v) {y : AV} (he : ld P st T t = some y) :
    ∃ addr u, v = .pointer (some addr) ∧ (loadVar T addr).run P w = .ok u w ∧ VR g y u := by
  unfold ld at he
  split at he
  · rename_i hagg
    split at he
    · rename_i n hn
      simp only [Option.map_eq_some_iff] at he
      obtain ⟨ys, hr, rfl⟩ := he
      obtain ⟨b, off, vs, rfl, h1, h2, h3⟩ := rd_ok h ht hr
      refine ⟨_, .agg vs.toArray, rfl, ?_, by simp only [VR]; exact ⟨_, rfl, by simpa using h1⟩⟩
      subst h2
      simp [loadVar, run_isAgg hagg, run_sizeOf' hn, run_loadCells_at h3]
    · cases he
  · rename_i hagg
    simp only [Option.bind_eq_some_iff] at he
    obtain ⟨ys, hr, hy⟩ := he
    obtain ⟨b, off, vs, rfl, h1, h2, h3⟩ := rd_ok h ht hr
    match vs, h2, h1, h3 with
    | [u], _, h1, h3 =>
      match ys, h1, hy with
      | z :: zs, h1, hy =>
        simp only [List.head?_cons, Option.some.injEq] at hy
        subst hy
        refine ⟨_, u, rfl, ?_, (VRL_cons.1 h1).1⟩
        have hc := h3 0 u rfl
        simp at hc
        simp [loadVar, run_isAgg hagg, hc]
  · cases he

/-! ### Writing cells -/

def splice (cs : List AV) (off : Nat) (vs : List AV) : Option (List AV) :=
  if off + vs.length ≤ cs.length ∧ vs.all cellOk = true then some (cs.take off ++ vs ++ cs.drop (off + vs.length)) else none

def wr (st : St) : TV → List AV → Option St
  | .v (.gp id off), vs => match st.σ[id]? with
    | some (some cs) => (splice cs off vs).map fun cs' => { st with σ := st.σ.set id (some cs') }
    | _ => none
  | .lp i off, vs => match st.loc[i]? with
    | some (some cs) => (splice cs off vs).map fun cs' => { st with loc := st.loc.set i (some cs') }
    | _ => none
  | _, _ => none

theorem hdiff_setRow (w : World) (b : Nat) (cs : Array Value) : HDiff w (w.setRow b cs) b := by
  refine ⟨rfl, rfl, rfl, by simp [World.setRow], ?_⟩
  intro b' hne hlt
  simp only [World.setRow, Array.getElem?_modify]
  rw [if_neg (Ne.symm hne)]

theorem splice_ok {g : Gh} {cs vs cs' : List AV} {off : Nat} (he : splice cs off vs = some cs') {c : Array Value} {us : List Value} (h : VRL g cs (c.toList.take cs.length)) (hv : VRL g vs us) :
    off + us.length ≤ c.size ∧ (∀ u ∈ us, u.oneCell' = true) ∧ VRL g cs' (((c.toList.take off ++ us ++ c.toList.drop (off + us.length)).toArray).toList.take cs'.length) := by
  unfold splice at he
  split at he
  · rename_i hc
    cases he
    obtain ⟨hc1, hc2⟩ := hc
    have hlen := VRL_length h
    have hlv := VRL_length hv
    have hcs : cs.length ≤ c.size := by simp at hlen; omega
    refine ⟨by omega, VRL_oneCell hv hc2, ?_⟩
    have e1 := VRL_take off h
    rw [List.take_take, show min off cs.length = off by omega] at e1
    have e2 := VRL_drop (off + vs.length) h
    rw [List.drop_take] at e2
    have e3 := VRL_append (VRL_append e1 hv) e2
    have : (((c.toList.take off ++ us ++ c.toList.drop (off + us.length)).toArray).toList.take (cs.take off ++ vs ++ cs.drop (off + vs.length)).length) = c.toList.take off ++ us ++ (c.toList.drop (off + vs.length)).take (cs.length - (off + vs.length)) := by
      simp only [List.length_append, List.length_take, List.length_drop]
      have hto : (c.toList.take off).length = off := by simp; omega
      rw [show min off cs.length + vs.length + (cs.length - (off + vs.length)) = (c.toList.take off ++ us).length + (cs.length - (off + vs.length)) by simp; omega]
      rw [List.take_length_add_append, hlv]
    rw [this]
    exact e3
  · cases he

theorem wr_ok {P : Program} (h : Inv σ0 g0 w0 st g lam w tm) {t : TV} {v : Value} (ht : TVR g lam t v) {vs : List AV} {us : List Value} (hv : VRL g vs us) {st' : St} (he : wr st t vs = some st') :
    ∃ addr w', v = .pointer (some addr) ∧ (storeCells addr us).run P w = .ok () w' ∧ Inv σ0 g0 w0 st' g lam w' tm := by
  cases t with
  | v x =>
    cases x with
    | gp id off =>
      simp only [wr] at he
      simp only [TVR, VR] at ht
      obtain ⟨b, hb, rfl⟩ := ht
      split at he
      · rename_i cs hcs
        simp only [Option.map_eq_some_iff] at he
        obtain ⟨cs', hs, rfl⟩ := he
        obtain ⟨h1, hu, ho, c, T, hc, hsz, hr⟩ := h.killGlob hcs hb
        obtain ⟨e1, e2, e3⟩ := splice_ok hs hr hv
        refine ⟨_, _, rfl, run_storeCells_at (P := P) b.1 off T us 0 c w hc (by simpa using e1) e2, ?_⟩
        simp only [Nat.add_zero]
        have h2 := h1.world (hdiff_setRow w b.1 (c.toList.take off ++ us ++ c.toList.drop (off + us.length)).toArray) hu ho
        have h3 := h2.reviveGlob (cs := cs') hb hu ho ⟨_, T, setRow_heap w b.1 c _ T (0, 0) hc, by simp; omega, e3⟩
        simpa using h3
      · cases he
    | _ => simp [wr] at he
  | lp i off =>
    simp only [wr] at he
    obtain ⟨b, hb, rfl⟩ := ht
    split at he
    · rename_i cs hcs
      simp only [Option.map_eq_some_iff] at he
      obtain ⟨cs', hs, rfl⟩ := he
      obtain ⟨h1, hu, ho, ⟨c, T, hc, hsz, hr⟩, h0⟩ := h.killLoc hcs hb
      obtain ⟨e1, e2, e3⟩ := splice_ok hs hr hv
      refine ⟨_, _, rfl, run_storeCells_at (P := P) b.1 off T us 0 c w hc (by simpa using e1) e2, ?_⟩
      simp only [Nat.add_zero]
      have h2 := h1.world (hdiff_setRow w b.1 (c.toList.take off ++ us ++ c.toList.drop (off + us.length)).toArray) hu ho
      have h3 := h2.reviveLoc (cs := cs') hb hu h0 ⟨_, T, setRow_heap w b.1 c _ T (0, 0) hc, by simp; omega, e3⟩
      simpa using h3
    · cases he
  | ls i off len sz cap => simp [wr] at he
  | top => simp [wr] at he

end
end Go.Abs
