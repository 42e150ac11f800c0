/- An abstract reading of the program, and what it answers. By an AI agent. -/
import Derived.WalkKit
set_option linter.all false
namespace Go.Abs

/-- Values of the abstract machine: what is frozen is held by value. -/
inductive AV where
  | sc (v : Value)
  | agg (cs : List AV)
  | tup (vs : List AV)
  | fn (f : FuncId) (first caps : List AV)
  | ip (cs : List AV)
  | is (cs : List AV) (len : Nat) (ex : Bool)
  | gp (id off : Nat)
  | gs (id off len sz : Nat) (cap : Option Nat)
  deriving Inhabited

/-- What a frame's slot has: a value, or a pointer or slice into a block of the frame's own. -/
inductive TV where
  | v (a : AV)
  | lp (i off : Nat)
  | ls (i off len sz : Nat) (cap : Option Nat)
  | top
  deriving Inhabited

structure Gh where
  β : List (Nat × Nat)
  imm : Nat → Option Obj

mutual
def VR (g : Gh) : AV → Value → Prop
  | .sc v0, v => v = v0
  | .agg cs, v => ∃ xs : Array Value, v = .agg xs ∧ VRL g cs xs.toList
  | .tup cs, v => ∃ xs : Array Value, v = .tuple xs ∧ VRL g cs xs.toList
  | .fn f fs caps, v => ∃ xs ys : Array Value, v = .func (.func f) xs ys ∧ VRL g fs xs.toList ∧ VRL g caps ys.toList
  | .ip cs, v => ∃ b off c T fz, g.imm b = some (.cells c T fz) ∧ v = .pointer (some ⟨b, off, none⟩) ∧ VRL g cs ((c.toList.drop off).take cs.length)
  | .is cs len ex, v => ∃ b off c T fz cap, g.imm b = some (.cells c T fz) ∧ v = .slice (some ⟨b, off, none⟩) len cap ∧ len ≤ cap ∧ (ex = true → cap = len) ∧ VRL g cs ((c.toList.drop off).take cs.length)
  | .gp id off, v => ∃ p : Nat × Nat, g.β[id]? = some p ∧ v = .pointer (some ⟨p.1, off, none⟩)
  | .gs id off len sz cap, v => ∃ (p : Nat × Nat) (c off' : Nat), g.β[id]? = some p ∧ v = .slice (some ⟨p.1, off', none⟩) len c ∧ len ≤ c ∧ (∀ k, cap = some k → c = k) ∧ (0 < c → off' = off ∧ off + c * sz ≤ p.2)
def VRL (g : Gh) : List AV → List Value → Prop
  | [], vs => vs = []
  | a :: as, vs => ∃ v vs', vs = v :: vs' ∧ VR g a v ∧ VRL g as vs'
end

theorem VRL_nil {g : Gh} : VRL g [] [] := by simp [VRL]
theorem VRL_cons {g : Gh} {a : AV} {as : List AV} {v : Value} {vs : List Value} : VRL g (a :: as) (v :: vs) ↔ VR g a v ∧ VRL g as vs := by
  constructor
  · intro h
    simp only [VRL] at h
    obtain ⟨x, y, e, h1, h2⟩ := h
    cases e
    exact ⟨h1, h2⟩
  · rintro ⟨h1, h2⟩
    simp only [VRL]
    exact ⟨v, vs, rfl, h1, h2⟩

theorem VRL_length {g : Gh} : ∀ {as : List AV} {vs : List Value}, VRL g as vs → as.length = vs.length
  | [], vs, h => by simp [VRL] at h; simp [h]
  | a :: as, vs, h => by
    simp only [VRL] at h
    obtain ⟨v, vs', rfl, _, h2⟩ := h
    simp [VRL_length h2]

theorem VRL_get {g : Gh} : ∀ {as : List AV} {vs : List Value}, VRL g as vs → ∀ {i : Nat} {a : AV}, as[i]? = some a → ∃ v, vs[i]? = some v ∧ VR g a v
  | [], _, _, _, _, h => by simp at h
  | a :: as, vs, h, i, x, hx => by
    simp only [VRL] at h
    obtain ⟨v, vs', rfl, h1, h2⟩ := h
    cases i with
    | zero => simp at hx; subst hx; exact ⟨v, rfl, h1⟩
    | succ i =>
      simp at hx
      obtain ⟨u, hu, hr⟩ := VRL_get h2 hx
      exact ⟨u, by simpa using hu, hr⟩

theorem VRL_append {g : Gh} : ∀ {as bs : List AV} {vs us : List Value}, VRL g as vs → VRL g bs us → VRL g (as ++ bs) (vs ++ us)
  | [], _, vs, _, h, h' => by simp [VRL] at h; subst h; simpa using h'
  | a :: as, bs, vs, us, h, h' => by
    simp only [VRL] at h
    obtain ⟨v, vs', rfl, h1, h2⟩ := h
    exact VRL_cons.2 ⟨h1, VRL_append h2 h'⟩

theorem VRL_take {g : Gh} : ∀ {as : List AV} {vs : List Value} (n : Nat), VRL g as vs → VRL g (as.take n) (vs.take n)
  | [], vs, n, h => by simp [VRL] at h; subst h; simp [VRL]
  | a :: as, vs, 0, h => by simp [VRL]
  | a :: as, vs, n + 1, h => by
    simp only [VRL] at h
    obtain ⟨v, vs', rfl, h1, h2⟩ := h
    exact VRL_cons.2 ⟨h1, VRL_take n h2⟩

theorem VRL_drop {g : Gh} : ∀ {as : List AV} {vs : List Value} (n : Nat), VRL g as vs → VRL g (as.drop n) (vs.drop n)
  | [], vs, n, h => by simp [VRL] at h; subst h; simp [VRL]
  | a :: as, vs, 0, h => by simpa using h
  | a :: as, vs, n + 1, h => by
    simp only [VRL] at h
    obtain ⟨v, vs', rfl, h1, h2⟩ := h
    simpa using VRL_drop n h2

theorem VRL_set {g : Gh} : ∀ {as : List AV} {vs : List Value} (i : Nat) {a : AV} {v : Value}, VRL g as vs → VR g a v → VRL g (as.set i a) (vs.set i v)
  | [], vs, i, a, v, h, _ => by simp [VRL] at h; subst h; simp [VRL]
  | b :: as, vs, 0, a, v, h, hv => by
    simp only [VRL] at h
    obtain ⟨u, vs', rfl, h1, h2⟩ := h
    exact VRL_cons.2 ⟨hv, h2⟩
  | b :: as, vs, i + 1, a, v, h, hv => by
    simp only [VRL] at h
    obtain ⟨u, vs', rfl, h1, h2⟩ := h
    exact VRL_cons.2 ⟨h1, VRL_set i h2 hv⟩

structure Gh.Le (g g' : Gh) : Prop where
  β : ∀ (id : Nat) (p : Nat × Nat), g.β[id]? = some p → g'.β[id]? = some p
  imm : ∀ b o, g.imm b = some o → g'.imm b = some o

theorem Gh.Le.refl (g : Gh) : g.Le g := ⟨fun _ _ h => h, fun _ _ h => h⟩
theorem Gh.Le.trans {a b c : Gh} (h : a.Le b) (k : b.Le c) : a.Le c :=
  ⟨fun id x hx => k.β id x (h.β id x hx), fun x o hx => k.imm x o (h.imm x o hx)⟩

mutual
theorem VR_mono {g g' : Gh} (h : g.Le g') : ∀ (a : AV) (v : Value), VR g a v → VR g' a v
  | .sc v0, v, hv => by simpa [VR] using hv
  | .agg cs, v, hv => by
    simp only [VR] at hv ⊢
    obtain ⟨xs, rfl, hx⟩ := hv
    exact ⟨xs, rfl, VRL_mono h cs _ hx⟩
  | .tup cs, v, hv => by
    simp only [VR] at hv ⊢
    obtain ⟨xs, rfl, hx⟩ := hv
    exact ⟨xs, rfl, VRL_mono h cs _ hx⟩
  | .fn f fs caps, v, hv => by
    simp only [VR] at hv ⊢
    obtain ⟨xs, ys, rfl, hx, hy⟩ := hv
    exact ⟨xs, ys, rfl, VRL_mono h fs _ hx, VRL_mono h caps _ hy⟩
  | .ip cs, v, hv => by
    simp only [VR] at hv ⊢
    obtain ⟨b, off, c, T, fz, hb, rfl, hx⟩ := hv
    exact ⟨b, off, c, T, fz, h.imm _ _ hb, rfl, VRL_mono h cs _ hx⟩
  | .is cs len ex, v, hv => by
    simp only [VR] at hv ⊢
    obtain ⟨b, off, c, T, fz, cap, hb, rfl, h1, h2, hx⟩ := hv
    exact ⟨b, off, c, T, fz, cap, h.imm _ _ hb, rfl, h1, h2, VRL_mono h cs _ hx⟩
  | .gp id off, v, hv => by
    simp only [VR] at hv ⊢
    obtain ⟨b, h1, rfl⟩ := hv
    exact ⟨b, h.β _ _ h1, rfl⟩
  | .gs id off len sz cap, v, hv => by
    simp only [VR] at hv ⊢
    obtain ⟨b, c, off', h1, rfl, h2⟩ := hv
    exact ⟨b, c, off', h.β _ _ h1, rfl, h2⟩
theorem VRL_mono {g g' : Gh} (h : g.Le g') : ∀ (as : List AV) (vs : List Value), VRL g as vs → VRL g' as vs
  | [], vs, hv => by simpa [VRL] using hv
  | a :: as, vs, hv => by
    simp only [VRL] at hv ⊢
    obtain ⟨v, vs', rfl, h1, h2⟩ := hv
    exact ⟨v, vs', rfl, VR_mono h a v h1, VRL_mono h as vs' h2⟩
end

/-- A slot's value, by the frame's own blocks 'lam'. -/
def TVR (g : Gh) (lam : List (Nat × Nat)) : TV → Value → Prop
  | .v a, v => VR g a v
  | .lp i off, v => ∃ p : Nat × Nat, lam[i]? = some p ∧ v = .pointer (some ⟨p.1, off, none⟩)
  | .ls i off len sz cap, v => ∃ (p : Nat × Nat) (c off' : Nat), lam[i]? = some p ∧ v = .slice (some ⟨p.1, off', none⟩) len c ∧ len ≤ c ∧ (∀ k, cap = some k → c = k) ∧ (0 < c → off' = off ∧ off + c * sz ≤ p.2)
  | .top, _ => True

abbrev Store := List (Option (List AV))

/-- Block p.1, of p.2 cells, holds these cells at its head. -/
def ObjAt (g : Gh) (w : World) (p : Nat × Nat) (cs : List AV) : Prop :=
  ∃ (c : Array Value) (T : TypeId), w.heap[p.1]? = some (.cells c T (0, 0)) ∧ c.size = p.2 ∧ VRL g cs (c.toList.take cs.length)

structure WR (σ : Store) (w : World) (g : Gh) : Prop where
  len : g.β.length = σ.length
  obj : ∀ (id : Nat) cs (p : Nat × Nat), σ[id]? = some (some cs) → g.β[id]? = some p → ObjAt g w p cs ∧ g.imm p.1 = none
  inj : ∀ (id id' : Nat) cs cs' (p p' : Nat × Nat), σ[id]? = some (some cs) → σ[id']? = some (some cs') → g.β[id]? = some p → g.β[id']? = some p' → p.1 = p'.1 → id = id'
  imm : ∀ b o, g.imm b = some o → w.heap[b]? = some o

/-- From a world to a later one: what may have turned. -/
structure Ev (σ0 : Store) (g0 : Gh) (w0 : World) (σ : Store) (g : Gh) (w : World) : Prop where
  le : g0.Le g
  os : w.os = w0.os
  tape : w.tape = w0.tape
  output : w.output = w0.output
  size : w0.heap.size ≤ w.heap.size
  frame : ∀ b, b < w0.heap.size → (∀ (id : Nat) cs (p : Nat × Nat), σ0[id]? = some (some cs) → g0.β[id]? = some p → p.1 ≠ b) → w.heap[b]? = w0.heap[b]?
  immNew : ∀ b o, g.imm b = some o → g0.imm b = some o ∨ w0.heap.size ≤ b
  alNew : ∀ (id : Nat) cs (p : Nat × Nat), σ[id]? = some (some cs) → g.β[id]? = some p → w0.heap.size ≤ p.1 ∨ ∃ (id0 : Nat) (cs0 : _) (p0 : Nat × Nat), σ0[id0]? = some (some cs0) ∧ g0.β[id0]? = some p0 ∧ p0.1 = p.1

theorem Ev.refl (σ : Store) (g : Gh) (w : World) : Ev σ g w σ g w :=
  ⟨Gh.Le.refl g, rfl, rfl, rfl, Nat.le_refl _, fun _ _ _ => rfl, fun _ _ h => .inl h, fun id cs p h h' => .inr ⟨id, cs, p, h, h', rfl⟩⟩

theorem Ev.trans {σ0 σ1 σ2 : Store} {g0 g1 g2 : Gh} {w0 w1 w2 : World} (h : Ev σ0 g0 w0 σ1 g1 w1) (k : Ev σ1 g1 w1 σ2 g2 w2) : Ev σ0 g0 w0 σ2 g2 w2 where
  le := h.le.trans k.le
  os := k.os.trans h.os
  tape := k.tape.trans h.tape
  output := k.output.trans h.output
  size := Nat.le_trans h.size k.size
  frame := fun b hb hn => by
    rw [k.frame b (Nat.lt_of_lt_of_le hb h.size) ?_, h.frame b hb hn]
    intro id cs p h1 h2 hpb
    rcases h.alNew id cs p h1 h2 with h3 | ⟨id0, cs0, p0, h3, h4, h5⟩
    · omega
    · exact hn id0 cs0 p0 h3 h4 (h5.trans hpb)
  immNew := fun b o hb => by
    rcases k.immNew b o hb with h1 | h1
    · exact h.immNew b o h1
    · exact .inr (Nat.le_trans h.size h1)
  alNew := fun id cs p h1 h2 => by
    rcases k.alNew id cs p h1 h2 with h3 | ⟨id0, cs0, p0, h3, h4, h5⟩
    · exact .inl (Nat.le_trans h.size h3)
    · rcases h.alNew id0 cs0 p0 h3 h4 with h6 | ⟨id1, cs1, p1, h6, h7, h8⟩
      · exact .inl (h5 ▸ h6)
      · exact .inr ⟨id1, cs1, p1, h6, h7, h8.trans h5⟩

/-- The frame's own blocks. -/
structure LR (n0 : Nat) (σ : Store) (loc : Store) (lam : List (Nat × Nat)) (g : Gh) (w : World) : Prop where
  len : lam.length = loc.length
  obj : ∀ (i : Nat) cs (p : Nat × Nat), loc[i]? = some (some cs) → lam[i]? = some p → ObjAt g w p cs ∧ g.imm p.1 = none ∧ n0 ≤ p.1 ∧ ∀ (id : Nat) cs' (q : Nat × Nat), σ[id]? = some (some cs') → g.β[id]? = some q → q.1 ≠ p.1
  inj : ∀ (i i' : Nat) cs cs' (p p' : Nat × Nat), loc[i]? = some (some cs) → loc[i']? = some (some cs') → lam[i]? = some p → lam[i']? = some p' → p.1 = p'.1 → i = i'

inductive TVRL (g : Gh) (lam : List (Nat × Nat)) : List TV → List Value → Prop
  | nil : TVRL g lam [] []
  | cons {t : TV} {ts : List TV} {v : Value} {vs : List Value} : TVR g lam t v → TVRL g lam ts vs → TVRL g lam (t :: ts) (v :: vs)

theorem TVRL.length {g : Gh} {lam : List (Nat × Nat)} {ts : List TV} {vs : List Value} (h : TVRL g lam ts vs) : ts.length = vs.length := by
  induction h with
  | nil => rfl
  | cons _ _ ih => simp [ih]

theorem TVRL.get {g : Gh} {lam : List (Nat × Nat)} {ts : List TV} {vs : List Value} (h : TVRL g lam ts vs) : ∀ {i : Nat} {t : TV}, ts[i]? = some t → ∃ v, vs[i]? = some v ∧ TVR g lam t v := by
  induction h with
  | nil => intro i t ht; simp at ht
  | cons h1 _ ih =>
    intro i t ht
    cases i with
    | zero => simp at ht; subst ht; exact ⟨_, rfl, h1⟩
    | succ i => simp at ht; obtain ⟨v, hv, hr⟩ := ih ht; exact ⟨v, by simpa using hv, hr⟩

theorem TVRL.set {g : Gh} {lam : List (Nat × Nat)} {ts : List TV} {vs : List Value} (h : TVRL g lam ts vs) (i : Nat) {t : TV} {v : Value} (ht : TVR g lam t v) : TVRL g lam (ts.set i t) (vs.set i v) := by
  induction h generalizing i with
  | nil => simpa using TVRL.nil
  | cons h1 h2 ih =>
    cases i with
    | zero => exact .cons ht h2
    | succ i => exact .cons h1 (ih i)

theorem TVR_mono {g g' : Gh} {lam lam' : List (Nat × Nat)} (h : g.Le g') (hl : ∀ (i : Nat) (p : Nat × Nat), lam[i]? = some p → lam'[i]? = some p) {t : TV} {v : Value} (ht : TVR g lam t v) : TVR g' lam' t v := by
  cases t with
  | v a => exact VR_mono h a v ht
  | lp i off => obtain ⟨b, h1, h2⟩ := ht; exact ⟨b, hl _ _ h1, h2⟩
  | ls i off len sz cap => obtain ⟨b, c, off', h1, h2⟩ := ht; exact ⟨b, c, off', hl _ _ h1, h2⟩
  | top => trivial

/-- More is named than before. -/
structure Ext (g : Gh) (lam : List (Nat × Nat)) (g' : Gh) (lam' : List (Nat × Nat)) : Prop where
  le : g.Le g'
  lle : ∀ (i : Nat) (p : Nat × Nat), lam[i]? = some p → lam'[i]? = some p

theorem Ext.refl (g : Gh) (lam : List (Nat × Nat)) : Ext g lam g lam := ⟨Gh.Le.refl g, fun _ _ h => h⟩
theorem Ext.of {g g' : Gh} (lam : List (Nat × Nat)) (h : g.Le g') : Ext g lam g' lam := ⟨h, fun _ _ h => h⟩
theorem Ext.trans {g g' g'' : Gh} {lam lam' lam'' : List (Nat × Nat)} (h : Ext g lam g' lam') (k : Ext g' lam' g'' lam'') : Ext g lam g'' lam'' :=
  ⟨h.le.trans k.le, fun i p hp => k.lle i p (h.lle i p hp)⟩
theorem Ext.app {g : Gh} (lam : List (Nat × Nat)) (p : Nat × Nat) : Ext g lam g (lam ++ [p]) := ⟨Gh.Le.refl g, fun i q hq => by
  rw [List.getElem?_append_left]
  · exact hq
  · rcases Nat.lt_or_ge i lam.length with h | h
    · exact h
    · rw [List.getElem?_eq_none h] at hq; cases hq⟩

theorem TVRL.mono {g g' : Gh} {lam lam' : List (Nat × Nat)} (h : g.Le g') (hl : ∀ (i : Nat) (p : Nat × Nat), lam[i]? = some p → lam'[i]? = some p) {ts : List TV} {vs : List Value} (ht : TVRL g lam ts vs) : TVRL g' lam' ts vs := by
  induction ht with
  | nil => exact .nil
  | cons h1 _ ih => exact .cons (TVR_mono h hl h1) ih

theorem ObjAt.mono {g g' : Gh} {w w' : World} {p : Nat × Nat} {cs : List AV} (h : ObjAt g w p cs) (hg : g.Le g') (hw : w'.heap[p.1]? = w.heap[p.1]?) : ObjAt g' w' p cs := by
  obtain ⟨c, T, h1, h2, h3⟩ := h
  exact ⟨c, T, hw.trans h1, h2, VRL_mono hg _ _ h3⟩

end Go.Abs
