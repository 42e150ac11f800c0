/- An abstract reading of the program, and what it answers. By an AI agent. -/
import Derived.Test.YtkbgehhnimpleaaGreatDoorAbsVal
set_option linter.all false
namespace Go.Abs

structure St where
  σ : Store
  loc : Store
  tmps : List TV
  deriving Inhabited

structure Inv (σ0 : Store) (g0 : Gh) (w0 : World) (st : St) (g : Gh) (lam : List (Nat × Nat)) (w : World) (tm : List Value) : Prop where
  ev : Ev σ0 g0 w0 st.σ g w
  wr : WR st.σ w g
  lr : LR w0.heap.size st.σ st.loc lam g w
  tm : TVRL g lam st.tmps tm

/-- Nothing is said of block b. -/
structure Untr (st : St) (g : Gh) (lam : List (Nat × Nat)) (b : Nat) : Prop where
  imm : g.imm b = none
  glob : ∀ (id : Nat) cs (p : Nat × Nat), st.σ[id]? = some (some cs) → g.β[id]? = some p → p.1 ≠ b
  loc : ∀ (i : Nat) cs (p : Nat × Nat), st.loc[i]? = some (some cs) → lam[i]? = some p → p.1 ≠ b

/-- Block b may be written by this call. -/
def Own (σ0 : Store) (g0 : Gh) (w0 : World) (b : Nat) : Prop :=
  w0.heap.size ≤ b ∨ ∃ (id0 : Nat) (cs0 : _) (p0 : Nat × Nat), σ0[id0]? = some (some cs0) ∧ g0.β[id0]? = some p0 ∧ p0.1 = b

structure HDiff (w w' : World) (b : Nat) : Prop where
  os : w'.os = w.os
  tape : w'.tape = w.tape
  output : w'.output = w.output
  size : w.heap.size ≤ w'.heap.size
  heap : ∀ b', b' ≠ b → b' < w.heap.size → w'.heap[b']? = w.heap[b']?

section
variable {σ0 : Store} {g0 : Gh} {w0 : World} {st : St} {g : Gh} {lam : List (Nat × Nat)} {w : World} {tm : List Value}

theorem lt_of_some {w : World} {b : Nat} {o : Obj} (h : w.heap[b]? = some o) : b < w.heap.size := by
  rcases Nat.lt_or_ge b w.heap.size with h' | h'
  · exact h'
  · simp [Array.getElem?_eq_none h'] at h

theorem ObjAt.lt {g : Gh} {w : World} {p : Nat × Nat} {cs : List AV} (h : ObjAt g w p cs) : p.1 < w.heap.size := by
  obtain ⟨c, T, h, _⟩ := h; exact lt_of_some h

theorem Inv.world (h : Inv σ0 g0 w0 st g lam w tm) {w' : World} {b : Nat} (hd : HDiff w w' b) (hu : Untr st g lam b) (ho : Own σ0 g0 w0 b) : Inv σ0 g0 w0 st g lam w' tm := by
  have keep : ∀ b', b' ≠ b → b' < w.heap.size → w'.heap[b']? = w.heap[b']? := hd.heap
  refine ⟨?_, ?_, ?_, h.tm⟩
  · refine ⟨h.ev.le, hd.os.trans h.ev.os, hd.tape.trans h.ev.tape, hd.output.trans h.ev.output, Nat.le_trans h.ev.size hd.size, ?_, h.ev.immNew, h.ev.alNew⟩
    intro b' hb' hn
    have hne : b' ≠ b := by
      rintro rfl
      rcases ho with ho | ⟨id0, cs0, p0, h1, h2, h3⟩
      · omega
      · exact hn id0 cs0 p0 h1 h2 h3
    rw [keep b' hne (Nat.lt_of_lt_of_le hb' h.ev.size)]
    exact h.ev.frame b' hb' hn
  · refine ⟨h.wr.len, ?_, h.wr.inj, ?_⟩
    · intro id cs p h1 h2
      obtain ⟨ha, hi⟩ := h.wr.obj id cs p h1 h2
      exact ⟨ha.mono (Gh.Le.refl g) (keep p.1 (hu.glob id cs p h1 h2) ha.lt), hi⟩
    · intro b' o hb'
      have hne : b' ≠ b := by rintro rfl; rw [hu.imm] at hb'; cases hb'
      have := h.wr.imm b' o hb'
      rw [keep b' hne (lt_of_some this)]
      exact this
  · refine ⟨h.lr.len, ?_, h.lr.inj⟩
    intro i cs p h1 h2
    obtain ⟨ha, hi⟩ := h.lr.obj i cs p h1 h2
    exact ⟨ha.mono (Gh.Le.refl g) (keep p.1 (hu.loc i cs p h1 h2) ha.lt), hi⟩

/-- A fresh block is untracked. -/
theorem Inv.fresh (h : Inv σ0 g0 w0 st g lam w tm) {b : Nat} (hb : w.heap.size ≤ b) : Untr st g lam b ∧ Own σ0 g0 w0 b := by
  refine ⟨⟨?_, ?_, ?_⟩, .inl (Nat.le_trans h.ev.size hb)⟩
  · cases hi : g.imm b with
    | none => rfl
    | some o => have := lt_of_some (h.wr.imm b o hi); omega
  · intro id cs p h1 h2 h3
    have := (h.wr.obj id cs p h1 h2).1.lt
    omega
  · intro i cs p h1 h2 h3
    have := (h.lr.obj i cs p h1 h2).1.lt
    omega

theorem Inv.same (h : Inv σ0 g0 w0 st g lam w tm) {w' : World} (he : w'.heap = w.heap) (h1 : w'.os = w.os) (h2 : w'.tape = w.tape) (h3 : w'.output = w.output) : Inv σ0 g0 w0 st g lam w' tm := by
  obtain ⟨hu, ho⟩ := h.fresh (b := w.heap.size) (Nat.le_refl _)
  exact h.world (b := w.heap.size) ⟨h1, h2, h3, by rw [he]; exact Nat.le_refl _, fun b' _ _ => by rw [he]⟩ hu ho

theorem set_some_iff {α : Type} {l : List (Option α)} {i j : Nat} {x : Option α} {y : α} :
    (l.set i x)[j]? = some (some y) ↔ (j = i ∧ i < l.length ∧ x = some y) ∨ (j ≠ i ∧ l[j]? = some (some y)) := by
  rw [List.getElem?_set]
  by_cases hij : i = j
  · subst hij
    by_cases hl : i < l.length
    · simp [hl]
    · simp [hl]
  · simp [hij, Ne.symm hij]

theorem kill_some {α : Type} {l : List (Option α)} {i j : Nat} {y : α} (h : (l.set i none)[j]? = some (some y)) : j ≠ i ∧ l[j]? = some (some y) := by
  rcases set_some_iff.1 h with ⟨_, _, h3⟩ | h3
  · cases h3
  · exact h3

theorem Inv.killLoc (h : Inv σ0 g0 w0 st g lam w tm) {i : Nat} {p : Nat × Nat} {cs : List AV} (hi : st.loc[i]? = some (some cs)) (hb : lam[i]? = some p) :
    Inv σ0 g0 w0 { st with loc := st.loc.set i none } g lam w tm ∧ Untr { st with loc := st.loc.set i none } g lam p.1 ∧ Own σ0 g0 w0 p.1 ∧ ObjAt g w p cs ∧ w0.heap.size ≤ p.1 := by
  obtain ⟨ha, h1, h2, h3⟩ := h.lr.obj i cs p hi hb
  refine ⟨⟨h.ev, h.wr, ⟨by simpa using h.lr.len, ?_, ?_⟩, h.tm⟩, ⟨h1, h3, ?_⟩, .inl h2, ha, h2⟩
  · intro j cs' b' hj hb'
    exact h.lr.obj j cs' b' (kill_some hj).2 hb'
  · intro j j' c c' q q' hj hj'
    exact h.lr.inj j j' c c' q q' (kill_some hj).2 (kill_some hj').2
  · intro j cs' q hj hb' he
    obtain ⟨hne, hj'⟩ := kill_some hj
    exact hne (h.lr.inj j i cs' cs q p hj' hi hb' hb he)

theorem Inv.reviveLoc (h : Inv σ0 g0 w0 st g lam w tm) {i : Nat} {p : Nat × Nat} {cs : List AV} (hb : lam[i]? = some p) (hu : Untr st g lam p.1) (h0 : w0.heap.size ≤ p.1) (ho : ObjAt g w p cs) :
    Inv σ0 g0 w0 { st with loc := st.loc.set i (some cs) } g lam w tm := by
  refine ⟨h.ev, h.wr, ⟨by simpa using h.lr.len, ?_, ?_⟩, h.tm⟩
  · intro j cs' b' hj hb'
    rcases set_some_iff.1 hj with ⟨rfl, _, h3⟩ | ⟨_, h3⟩
    · cases h3
      rw [hb] at hb'; cases hb'
      exact ⟨ho, hu.imm, h0, hu.glob⟩
    · exact h.lr.obj j cs' b' h3 hb'
  · intro j j' c c' q q' hj hj' hl hl' he
    rcases set_some_iff.1 hj with ⟨rfl, _, h3⟩ | ⟨_, h3⟩ <;> rcases set_some_iff.1 hj' with ⟨rfl, _, h3'⟩ | ⟨_, h3'⟩
    · rfl
    · rw [hb] at hl; cases hl
      exact absurd he.symm (hu.loc j' c' q' h3' hl')
    · rw [hb] at hl'; cases hl'
      exact absurd he (hu.loc j c q h3 hl)
    · exact h.lr.inj j j' c c' q q' h3 h3' hl hl' he

theorem append_some {α : Type} {l : List α} {x y : α} {j : Nat} : (l ++ [x])[j]? = some y ↔ l[j]? = some y ∨ (j = l.length ∧ x = y) := by
  rw [List.getElem?_append]
  by_cases hj : j < l.length
  · simp [hj]; omega
  · rcases Nat.lt_or_ge l.length j with h' | h'
    · have h1 : l[j]? = none := List.getElem?_eq_none (by omega)
      have h2 : j - l.length ≠ 0 := by omega
      simp [hj, h1, List.getElem?_cons, h2]; omega
    · have h1 : j = l.length := by omega
      subst h1
      simp

theorem both_append {α β : Type} {l : List α} {m : List β} {x : α} {y : β} (hlen : m.length = l.length) {k : Nat} {a : α} {b : β} (hk : (l ++ [x])[k]? = some a) (hl : (m ++ [y])[k]? = some b) :
    (l[k]? = some a ∧ m[k]? = some b) ∨ (k = l.length ∧ a = x ∧ b = y) := by
  rcases append_some.1 hk with h1 | ⟨rfl, h1⟩
  · rcases append_some.1 hl with h2 | ⟨rfl, _⟩
    · exact .inl ⟨h1, h2⟩
    · rw [hlen] at h1; simp at h1
  · rcases append_some.1 hl with h2 | ⟨_, rfl⟩
    · rw [← hlen] at h2; simp at h2
    · exact .inr ⟨rfl, h1.symm, rfl⟩

theorem Inv.addLoc (h : Inv σ0 g0 w0 st g lam w tm) {p : Nat × Nat} {cs : List AV} (hu : Untr st g lam p.1) (h0 : w0.heap.size ≤ p.1) (ho : ObjAt g w p cs) :
    Inv σ0 g0 w0 { st with loc := st.loc ++ [some cs] } g (lam ++ [p]) w tm ∧ (lam ++ [p])[st.loc.length]? = some p := by
  have hlen := h.lr.len
  have hl : ∀ (i : Nat) (x : Nat × Nat), lam[i]? = some x → (lam ++ [p])[i]? = some x := fun i x hx => append_some.2 (.inl hx)
  refine ⟨⟨h.ev, h.wr, ⟨by simp [hlen], ?_, ?_⟩, h.tm.mono (Gh.Le.refl g) hl⟩, append_some.2 (.inr ⟨hlen.symm, rfl⟩)⟩
  · intro j cs' q hj hb'
    rcases both_append hlen hj hb' with ⟨h1, h2⟩ | ⟨_, h1, rfl⟩
    · exact h.lr.obj j cs' q h1 h2
    · cases h1
      exact ⟨ho, hu.imm, h0, hu.glob⟩
  · intro j j' c c' q q' hj hj' hl1 hl2 he
    rcases both_append hlen hj hl1 with ⟨a1, a2⟩ | ⟨a1, _, rfl⟩ <;> rcases both_append hlen hj' hl2 with ⟨b1, b2⟩ | ⟨b1, _, rfl⟩
    · exact h.lr.inj j j' c c' q q' a1 b1 a2 b2 he
    · exact absurd he (hu.loc j c q a1 a2)
    · exact absurd he.symm (hu.loc j' c' q' b1 b2)
    · rw [a1, b1]

theorem Inv.addImm (h : Inv σ0 g0 w0 st g lam w tm) {b : Nat} {o : Obj} (hu : Untr st g lam b) (h0 : w0.heap.size ≤ b) (ho : w.heap[b]? = some o) :
    ∃ g', g.Le g' ∧ g'.imm b = some o ∧ g'.β = g.β ∧ Inv σ0 g0 w0 st g' lam w tm := by
  have hle : g.Le { g with imm := fun x => if x = b then some o else g.imm x } := ⟨fun _ _ h => h, fun x y hx => by
      by_cases hxb : x = b
      · subst hxb; rw [hu.imm] at hx; cases hx
      · simpa [hxb] using hx⟩
  refine ⟨{ g with imm := fun x => if x = b then some o else g.imm x }, hle, by simp, rfl, ?_⟩
  refine ⟨⟨h.ev.le.trans hle, h.ev.os, h.ev.tape, h.ev.output, h.ev.size, h.ev.frame, ?_, h.ev.alNew⟩, ⟨h.wr.len, ?_, h.wr.inj, ?_⟩, ⟨h.lr.len, ?_, h.lr.inj⟩, h.tm.mono hle (fun _ _ h => h)⟩
  · intro x y hx
    by_cases hxb : x = b
    · subst hxb; exact .inr h0
    · simp [hxb] at hx; exact h.ev.immNew x y hx
  · intro id cs p h1 h2
    obtain ⟨ha, hi⟩ := h.wr.obj id cs p h1 h2
    exact ⟨ha.mono hle rfl, by simp [hu.glob id cs p h1 h2, hi]⟩
  · intro x y hx
    by_cases hxb : x = b
    · subst hxb; simp at hx; subst hx; exact ho
    · simp [hxb] at hx; exact h.wr.imm x y hx
  · intro i cs p h1 h2
    obtain ⟨ha, hi, h3⟩ := h.lr.obj i cs p h1 h2
    exact ⟨ha.mono hle rfl, by simp [hu.loc i cs p h1 h2, hi], h3⟩

theorem Inv.killGlob (h : Inv σ0 g0 w0 st g lam w tm) {i : Nat} {p : Nat × Nat} {cs : List AV} (hi : st.σ[i]? = some (some cs)) (hb : g.β[i]? = some p) :
    Inv σ0 g0 w0 { st with σ := st.σ.set i none } g lam w tm ∧ Untr { st with σ := st.σ.set i none } g lam p.1 ∧ Own σ0 g0 w0 p.1 ∧ ObjAt g w p cs := by
  obtain ⟨ha, h1⟩ := h.wr.obj i cs p hi hb
  refine ⟨⟨⟨h.ev.le, h.ev.os, h.ev.tape, h.ev.output, h.ev.size, h.ev.frame, h.ev.immNew, ?_⟩, ⟨by simpa using h.wr.len, ?_, ?_, h.wr.imm⟩, ⟨h.lr.len, ?_, h.lr.inj⟩, h.tm⟩, ⟨h1, ?_, ?_⟩, h.ev.alNew i cs p hi hb, ha⟩
  · intro id cs' q h2 h3; exact h.ev.alNew id cs' q (kill_some h2).2 h3
  · intro id cs' q h2 h3; exact h.wr.obj id cs' q (kill_some h2).2 h3
  · intro j j' c c' q q' hj hj'; exact h.wr.inj j j' c c' q q' (kill_some hj).2 (kill_some hj').2
  · intro j cs' q h2 h3
    obtain ⟨a1, a2, a3, a4⟩ := h.lr.obj j cs' q h2 h3
    exact ⟨a1, a2, a3, fun id cs'' q' hid => a4 id cs'' q' (kill_some hid).2⟩
  · intro j cs' q hj hb' he
    obtain ⟨hne, hj'⟩ := kill_some hj
    exact hne (h.wr.inj j i cs' cs q p hj' hi hb' hb he)
  · intro j cs' q h2 h3 he
    exact (h.lr.obj j cs' q h2 h3).2.2.2 i cs p hi hb he.symm

theorem Inv.reviveGlob (h : Inv σ0 g0 w0 st g lam w tm) {i : Nat} {p : Nat × Nat} {cs : List AV} (hb : g.β[i]? = some p) (hu : Untr st g lam p.1) (h0 : Own σ0 g0 w0 p.1) (ho : ObjAt g w p cs) :
    Inv σ0 g0 w0 { st with σ := st.σ.set i (some cs) } g lam w tm := by
  refine ⟨⟨h.ev.le, h.ev.os, h.ev.tape, h.ev.output, h.ev.size, h.ev.frame, h.ev.immNew, ?_⟩, ⟨by simpa using h.wr.len, ?_, ?_, h.wr.imm⟩, ⟨h.lr.len, ?_, h.lr.inj⟩, h.tm⟩
  · intro j cs' q hj hb'
    rcases set_some_iff.1 hj with ⟨rfl, _, h3⟩ | ⟨_, h3⟩
    · rw [hb] at hb'; cases hb'; exact h0
    · exact h.ev.alNew j cs' q h3 hb'
  · intro j cs' q hj hb'
    rcases set_some_iff.1 hj with ⟨rfl, _, h3⟩ | ⟨_, h3⟩
    · cases h3
      rw [hb] at hb'; cases hb'
      exact ⟨ho, hu.imm⟩
    · exact h.wr.obj j cs' q h3 hb'
  · intro j j' c c' q q' hj hj' hl hl' he
    rcases set_some_iff.1 hj with ⟨rfl, _, h3⟩ | ⟨_, h3⟩ <;> rcases set_some_iff.1 hj' with ⟨rfl, _, h3'⟩ | ⟨_, h3'⟩
    · rfl
    · rw [hb] at hl; cases hl
      exact absurd he.symm (hu.glob j' c' q' h3' hl')
    · rw [hb] at hl'; cases hl'
      exact absurd he (hu.glob j c q h3 hl)
    · exact h.wr.inj j j' c c' q q' h3 h3' hl hl' he
  · intro j cs' q h2 h3
    obtain ⟨a1, a2, a3, a4⟩ := h.lr.obj j cs' q h2 h3
    refine ⟨a1, a2, a3, fun id cs'' q' hid hid' => ?_⟩
    rcases set_some_iff.1 hid with ⟨rfl, _, h4⟩ | ⟨_, h4⟩
    · rw [hb] at hid'; cases hid'
      exact fun he => hu.loc j cs' q h2 h3 he.symm
    · exact a4 id cs'' q' h4 hid'

theorem Inv.addGlob (h : Inv σ0 g0 w0 st g lam w tm) {p : Nat × Nat} {cs : List AV} (hu : Untr st g lam p.1) (h0 : Own σ0 g0 w0 p.1) (ho : ObjAt g w p cs) :
    ∃ g', g.Le g' ∧ g'.β[st.σ.length]? = some p ∧ g'.imm = g.imm ∧ Inv σ0 g0 w0 { st with σ := st.σ ++ [some cs] } g' lam w tm := by
  have hlen := h.wr.len
  have hle : g.Le { g with β := g.β ++ [p] } := ⟨fun i x hx => append_some.2 (.inl hx), fun _ _ h => h⟩
  refine ⟨{ g with β := g.β ++ [p] }, hle, append_some.2 (.inr ⟨hlen.symm, rfl⟩), rfl, ⟨h.ev.le.trans hle, h.ev.os, h.ev.tape, h.ev.output, h.ev.size, h.ev.frame, h.ev.immNew, ?_⟩, ⟨by simp [hlen], ?_, ?_, h.wr.imm⟩, ⟨h.lr.len, ?_, h.lr.inj⟩, h.tm.mono hle (fun _ _ h => h)⟩
  · intro id cs' q h1 h2
    rcases both_append hlen h1 h2 with ⟨a1, a2⟩ | ⟨_, _, rfl⟩
    · exact h.ev.alNew id cs' q a1 a2
    · exact h0
  · intro id cs' q h1 h2
    rcases both_append hlen h1 h2 with ⟨a1, a2⟩ | ⟨_, h3, rfl⟩
    · obtain ⟨ha, hi⟩ := h.wr.obj id cs' q a1 a2
      exact ⟨ha.mono hle rfl, hi⟩
    · cases h3; exact ⟨ho.mono hle rfl, hu.imm⟩
  · intro j j' c c' q q' hj hj' hl hl' he
    rcases both_append hlen hj hl with ⟨a1, a2⟩ | ⟨a1, _, rfl⟩ <;> rcases both_append hlen hj' hl' with ⟨b1, b2⟩ | ⟨b1, _, rfl⟩
    · exact h.wr.inj j j' c c' q q' a1 b1 a2 b2 he
    · exact absurd he (hu.glob j c q a1 a2)
    · exact absurd he.symm (hu.glob j' c' q' b1 b2)
    · rw [a1, b1]
  · intro j cs' q h2 h3
    obtain ⟨a1, a2, a3, a4⟩ := h.lr.obj j cs' q h2 h3
    refine ⟨a1.mono hle rfl, a2, a3, fun id cs'' q' hid hid' => ?_⟩
    rcases both_append hlen hid hid' with ⟨e1, e2⟩ | ⟨_, _, rfl⟩
    · exact a4 id cs'' q' e1 e2
    · exact fun he => hu.loc j cs' q h2 h3 he.symm

theorem Inv.setTmp (h : Inv σ0 g0 w0 st g lam w tm) (d : Nat) {t : TV} {v : Value} (ht : TVR g lam t v) : Inv σ0 g0 w0 { st with tmps := st.tmps.set d t } g lam w (tm.set d v) :=
  ⟨h.ev, h.wr, h.lr, h.tm.set d ht⟩

end
end Go.Abs
