/- An abstract reading of the program, and what it answers. By an AI agent. -/
import Derived.Test.YtkbgehhnimpleaaGreatDoorAbsFul
import Derived.ProofKit
import Derived.LaidMore
import Derived.OpenShut
import Derived.Stop.Joined
import Derived.Carry
set_option linter.all false
/-! The frame of a law: the call begins in a world of which every block is taken as it stands. -/
namespace Go.Abs
open Go.ChangeShapes Go.WideShapes Go.ChangeAt Go.RowKit

def entG (W : World) : Gh := ⟨[], fun b => W.heap[b]?⟩
theorem entWR (W : World) : WR [] W (entG W) := ⟨rfl, by intro id cs p h; simp at h, by intro id id' cs cs' p p' h; simp at h, fun _ _ h => h⟩
theorem ev_below {W W' : World} {σ' : Store} {g' : Gh} (h : Ev [] (entG W) W σ' g' W') : Below W.heap.size W W' :=
  ⟨h.os, h.tape, h.output, h.size, fun b hb => h.frame b hb (by intro id cs p hh; simp at hh)⟩

theorem law_calls {E : Env} {f : FuncId} {as : List AV} {vs : List Value} {W : World} (hE : CallsOK E.P (run E)) (hA : Ans E f as [] (fun r _ => r = .sc (.bool true))) (hv : VRL (entG W) as vs) :
    Calls E.P f vs.toArray W fun e W' => e = .returned (.bool true) ∧ Below W.heap.size W W' := by
  obtain ⟨r, σ', hr, rfl⟩ := hA
  refine (hE f as [] _ σ' hr W (entG W) vs (entWR W) hv).mono fun e W' ⟨v, g', he, hvr, _, hev⟩ => ?_
  simp only [VR] at hvr
  subst hvr
  exact ⟨he, ev_below hev⟩

theorem VR_sc (g : Gh) (v : Value) : VR g (.sc v) v := by simp [VR]

section
variable {H : Type} {enc : TypeId × Value → H} {P : Program} {W : World}

/-- A slice of numbers among the arguments. -/
theorem arg_nums {t e : TypeId} {k : IntKind} {base : Nat} {v : Value} {d : DataW H} {p : List MemPlace} (ht : P.underlying t = some (.slice e)) (he : P.underlying e = some (.int k)) (hc : P.cellsOf e = 1)
    (hv : Value.okWide P W .any base t v) (h : DataW.Trod enc P W 0 (fun _ => true) true t v d p) :
    ∃ (bs : List Int) (a : AV), VR (entG W) a v ∧ Sl [] 1 a (bs.map fun n => .sc (.int k n)) bs.length ∧ ∀ n ∈ bs, (Lit.int k n).wf = true := by
  obtain ⟨fuel, hf⟩ := h
  obtain ⟨a0, len, cap, rfl⟩ := okWide_slice ht hv
  rcases open_ints ht he hc hf with ⟨hcs, _⟩ | ⟨a, len', cap', zs, hcs, _, hl, hm, hz, _, hcell, hwf⟩
  · simp [Value.cells] at hcs
    obtain ⟨rfl, rfl, rfl⟩ := hcs
    exact ⟨[], .sc (.slice none 0 0), by simp [VR], .nil, by simp⟩
  simp [Value.cells] at hcs
  obtain ⟨rfl, rfl, rfl⟩ := hcs
  simp only [if_true] at hz
  simp only [Value.okWide, ht, Cell.okWide, Cell.ok, World.has, World.shape?] at hv
  obtain ⟨_, _, _, hspot, row, n, hsh, _⟩ := hv
  obtain ⟨b, off, spot⟩ := a
  simp only at hspot hsh
  subst hspot
  split at hsh
  · rename_i c el fz hb
    refine ⟨zs.take len, .is ((zs.take len).map fun n => .sc (.int k n)) len false, ?_, ?_, fun n hn => hwf n (List.mem_of_mem_take hn)⟩
    · simp only [VR, entG]
      refine ⟨b, off, c, el, fz, cap, hb, rfl, hl, by simp, ?_⟩
      have e : ((c.toList.drop off).take ((zs.take len).map fun n => AV.sc (.int k n)).length) = (zs.take len).map fun n => Value.int k n := by
        apply List.ext_getElem?
        intro i
        by_cases hi : i < len
        · have hzl : (zs.take len).length = len := by simp; omega
          rw [List.getElem?_take, if_pos (by simp; omega), List.getElem?_drop, List.getElem?_map, List.getElem?_take, if_pos hi]
          have h1 := hcell i (by omega)
          rw [add_plain] at h1
          simp [World.cell?, hb] at h1
          rw [Array.getElem?_toList, h1, List.getElem?_eq_getElem (show i < zs.length by omega)]
          simp [List.getD, show i < zs.length by omega]
        · rw [List.getElem?_take, if_neg (by simp; omega), List.getElem?_eq_none (by simp; omega)]
      rw [e]
      generalize zs.take len = l
      induction l with
      | nil => exact VRL_nil
      | cons x l ih => exact VRL_cons.2 ⟨by simp [VR], ih⟩
    · have hzl : (zs.take len).length = len := by simp; omega
      rw [hzl]
      exact .imm (by simp; omega)
  · cases hsh

theorem VRL_ints {k : IntKind} {g : Gh} (l : List Int) : VRL g (l.map fun n => AV.sc (.int k n)) (l.map fun n => Value.int k n) := by
  induction l with
  | nil => exact VRL_nil
  | cons x l ih => exact VRL_cons.2 ⟨by simp [VR], ih⟩

/-- An array of numbers among the arguments. -/
theorem arg_array {t e : TypeId} {k : IntKind} {base n : Nat} {v : Value} {d : DataW H} {p : List MemPlace} (ht : P.underlying t = some (.array n e)) (he : P.underlying e = some (.int k)) (hc : P.cellsOf e = 1) (hct : P.cellsOf t = n)
    (hv : Value.okWide P W .any base t v) (h : DataW.Trod enc P W 0 (fun _ => true) true t v d p) :
    ∃ bs : List Int, bs.length = n ∧ VR (entG W) (.agg (bs.map fun x => .sc (.int k x))) v ∧ ∀ x ∈ bs, (Lit.int k x).wf = true := by
  obtain ⟨fuel, hf⟩ := h
  simp only [Value.okWide, ht] at hv
  obtain ⟨cs, rfl, hsz, -⟩ := hv
  obtain ⟨xs, m, -, -, hlen, hn, hel⟩ := DataW.trod_array ht hf
  rw [hct] at hsz
  have cell : ∀ i, i < n → ∃ x, cs.toList[i]? = some (.int k x) ∧ (Lit.int k x).wf = true := by
    intro i hi
    have h1 := hel i hi
    rw [List.getElem?_eq_getElem (by omega), hc, Nat.mul_one] at h1
    obtain ⟨x, h2, _, h3⟩ := DataW.trod_int he h1
    refine ⟨x, ?_, h3⟩
    have := congrArg (fun l => l[0]?) h2
    simpa [Value.cells] using this
  have all : ∀ l : List Value, (∀ i, i < l.length → ∃ x, l[i]? = some (Value.int k x) ∧ (Lit.int k x).wf = true) → ∃ bs : List Int, l = bs.map (fun x => Value.int k x) ∧ ∀ x ∈ bs, (Lit.int k x).wf = true := by
    intro l
    induction l with
    | nil => intro _; exact ⟨[], rfl, by simp⟩
    | cons a l ih =>
      intro hall
      obtain ⟨x, h1, h2⟩ := hall 0 (by simp)
      simp at h1
      subst h1
      obtain ⟨bs, rfl, h3⟩ := ih fun i hi => by simpa using hall (i + 1) (by simpa using hi)
      exact ⟨x :: bs, rfl, by intro y hy; simp at hy; rcases hy with rfl | hy; exact h2; exact h3 y hy⟩
  obtain ⟨bs, hbs, hwf⟩ := all cs.toList (fun i hi => cell i (by simp at hi; omega))
  refine ⟨bs, ?_, ?_, hwf⟩
  · have := congrArg List.length hbs
    simp at this
    omega
  · simp only [VR]
    exact ⟨cs, rfl, by rw [hbs]; exact VRL_ints bs⟩
end
end Go.Abs
