/- An abstract reading of the program, and what it answers. By an AI agent. -/
import Derived.Test.YtkbgehhnimpleaaGreatDoorAbsLim
set_option linter.all false
namespace Go.Abs

/-! ### Evaluating in open terms -/

theorem wrap_i64 {n : Int} (h1 : -9223372036854775808 ≤ n) (h2 : n < 9223372036854775808) : IntKind.i64.wrap n = n := by
  simp [IntKind.wrap, IntKind.bits, IntKind.signed]
  omega
theorem wrap_u64 {n : Int} (h1 : 0 ≤ n) (h2 : n < 18446744073709551616) : IntKind.u64.wrap n = n := by
  simp [IntKind.wrap, IntKind.bits, IntKind.signed]
  omega
theorem wrap_u8 {n : Int} (h1 : 0 ≤ n) (h2 : n < 256) : IntKind.u8.wrap n = n := by
  simp [IntKind.wrap, IntKind.bits, IntKind.signed]
  omega

def bodyOf (fn : Func) : Code := fn.body.getD .skip

theorem run_body {E : Env} (n : Nat) {f : FuncId} {fn : Func} {args : List AV} {σ : Store} {r : AV × Store} (hp : E.prim f = none) (hf : E.P.funcs[f]? = some fn) (hs : (fn.body.isSome && (splitD (bodyOf fn)).isNone) = true)
    (h : afinish E.P fn (acode E f (run E) (drawOf E (run E)) n (bodyOf fn) (astart fn args σ)) = some r) : run E f args σ = some r := by
  simp only [Bool.and_eq_true, Option.isNone_iff_eq_none] at hs
  cases hb : fn.body with
  | none => rw [hb] at hs; simp at hs
  | some c =>
    have hc : bodyOf fn = c := by simp [bodyOf, hb]
    rw [hc] at h hs
    exact run_fn n hp hf hb hs.2 h

section
variable {E : Env} {f : FuncId} {call : CallF} {d : RegionF} {n : Nat} {st st1 : St} {r : Option (AExit × St)}

theorem acode_skip : acode E f call d n .skip st = some (.normal, st) := rfl
theorem acode_ret : acode E f call d n .ret st = some (.ret, st) := rfl
theorem acode_exit {i : Nat} : acode E f call d n (.exit i) st = some (.exit i, st) := rfl
theorem acode_seq {x y : Code} : acode E f call d n (.seq x y) st = (match acode E f call d n x st with
  | some (.normal, st') => acode E f call d n y st'
  | r => r) := rfl

theorem acode_region {i : Nat} {ops : Array Oper} {b : Bool} : acode E f call d n (.region i ops b) st = (match (if b then d f ops st else aopers E f call ops ops.toList st) with
  | some st' => some (.normal, st')
  | none => none) := rfl
theorem acode_cond {c : Operand} {x y : Code} : acode E f call d n (.cond c x y) st = (match opd st c with
  | some (.v (.sc (.bool b))) => if b then acode E f call d n x st else acode E f call d n y st
  | _ => none) := rfl
theorem acode_block {i : Nat} {c : Code} : acode E f call d n (.block i c) st = (match acode E f call d n c st with
  | some (.exit id', st') => if id' = i then some (.normal, st') else some (.exit id', st')
  | r => r) := rfl

theorem s_seq {x y : Code} (h : acode E f call d n x st = some (.normal, st1)) (k : acode E f call d n y st1 = r) : acode E f call d n (.seq x y) st = r := by
  simp only [acode, h, k]
theorem s_seq_ret {x y : Code} (h : acode E f call d n x st = some (.ret, st1)) : acode E f call d n (.seq x y) st = some (.ret, st1) := by
  simp only [acode, h]
theorem s_seq_exit {x y : Code} {i : Nat} (h : acode E f call d n x st = some (.exit i, st1)) : acode E f call d n (.seq x y) st = some (.exit i, st1) := by
  simp only [acode, h]
theorem s_reg {id : Nat} {ops : Array Oper} (h : aopers E f call ops ops.toList st = some st1) : acode E f call d n (.region id ops false) st = some (.normal, st1) := by
  simp only [acode, h, Bool.false_eq_true, if_false]
theorem s_draw {id : Nat} {ops : Array Oper} (h : d f ops st = some st1) : acode E f call d n (.region id ops true) st = some (.normal, st1) := by
  simp only [acode, h, if_true]
theorem s_cons {ops : Array Oper} {o : Oper} {l : List Oper} {t : TV} {r : Option St} (h : aoperT E f call ops st o = some (t, st1)) (k : aopers E f call ops l (st1.put o.dst t) = r) : aopers E f call ops (o :: l) st = r := by
  simp only [aopers, aoper, h, k]
theorem s_nil {ops : Array Oper} : aopers E f call ops [] st = some st := rfl
theorem s_if {c : Operand} {x y : Code} {b : Bool} (h : opd st c = some (.v (.sc (.bool b)))) (k : (if b then acode E f call d n x st else acode E f call d n y st) = r) : acode E f call d n (.cond c x y) st = r := by
  simp only [acode, h, k]
theorem s_block {id : Nat} {c : Code} (h : acode E f call d n c st = some (.normal, st1)) : acode E f call d n (.block id c) st = some (.normal, st1) := by
  simp only [acode, h]
theorem s_block_exit {id : Nat} {c : Code} (h : acode E f call d n c st = some (.exit id, st1)) : acode E f call d n (.block id c) st = some (.normal, st1) := by
  simp only [acode, h, if_true]
theorem s_block_ret {id : Nat} {c : Code} (h : acode E f call d n c st = some (.ret, st1)) : acode E f call d n (.block id c) st = some (.ret, st1) := by
  simp only [acode, h]

/-- A loop of m rounds: I tells what stands ahead of each. -/
theorem aloop_rounds {g : St → Option (AExit × St)} (I : Nat → St) (m : Nat) (hr : ∀ k, k < m → g (I k) = some (.normal, I (k + 1))) {ex : AExit} {st' : St} (hx : ex ≠ .normal) (he : g (I m) = some (ex, st')) :
    ∀ {fuel : Nat}, m < fuel → aloop g fuel (I 0) = some (ex, st') := by
  have key : ∀ (j : Nat), j ≤ m → ∀ {fuel : Nat}, m - j < fuel → aloop g fuel (I j) = some (ex, st') := by
    intro j
    generalize hd : m - j = dd
    induction dd generalizing j with
    | zero =>
      intro hj fuel hf
      have : j = m := by omega
      subst this
      cases fuel with
      | zero => omega
      | succ fuel =>
        simp only [aloop, he]
        cases ex with
        | normal => exact absurd rfl hx
        | ret => rfl
        | exit i => rfl
    | succ dd ih =>
      intro hj fuel hf
      cases fuel with
      | zero => omega
      | succ fuel =>
        simp only [aloop, hr j (by omega)]
        exact ih (j + 1) (by omega) (by omega) (by omega)
  intro fuel hf
  exact key 0 (Nat.zero_le m) (by omega)

theorem s_loop {c : Code} (I : Nat → St) (m : Nat) (hr : ∀ k, k < m → acode E f call d n c (forget E f (I k)) = some (.normal, I (k + 1))) {ex : AExit} {st' : St} (hx : ex ≠ .normal) (he : acode E f call d n c (forget E f (I m)) = some (ex, st')) (hf : m < n) : acode E f call d n (.loop c) (I 0) = some (ex, st') := by
  simp only [acode]
  exact aloop_rounds I m hr hx he hf

/-- A loop, by what its rounds' heads remember. -/
theorem s_loopF {c : Code} (I : Nat → St) (m : Nat) {st0 : St} (h0 : forget E f st0 = I 0) (hr : ∀ k, k < m → ∃ s, acode E f call d n c (I k) = some (.normal, s) ∧ forget E f s = I (k + 1)) {ex : AExit} {st' : St} (hx : ex ≠ .normal)
    (he : acode E f call d n c (I m) = some (ex, st')) (hf : m < n) : acode E f call d n (.loop c) st0 = some (ex, st') := by
  simp only [acode]
  have key : ∀ (dd j : Nat), m - j = dd → j ≤ m → ∀ (st : St) (fuel : Nat), forget E f st = I j → dd < fuel → aloop (fun st => acode E f call d n c (forget E f st)) fuel st = some (ex, st') := by
    intro dd
    induction dd with
    | zero =>
      intro j hj hjm st fuel hst hfu
      have : j = m := by omega
      subst this
      cases fuel with
      | zero => omega
      | succ fuel =>
        simp only [aloop, hst, he]
        cases ex with
        | normal => exact absurd rfl hx
        | ret => rfl
        | exit i => rfl
    | succ dd ih =>
      intro j hj hjm st fuel hst hfu
      cases fuel with
      | zero => omega
      | succ fuel =>
        obtain ⟨s, h1, h2⟩ := hr j (by omega)
        simp only [aloop, hst, h1]
        exact ih (j + 1) (by omega) (by omega) s fuel h2 (by omega)
  exact key m 0 (by omega) (Nat.zero_le m) st0 n h0 hf

/-- One round, and what the next one's head remembers of it. -/
def round (E : Env) (f : FuncId) (call : CallF) (d : RegionF) (n : Nat) (c : Code) (st : St) : Option (AExit × St) := (acode E f call d n c st).map fun q => (q.1, forget E f q.2)

theorem s_loopR {c : Code} (I : Nat → St) (m : Nat) {st0 : St} (h0 : forget E f st0 = I 0) (hr : ∀ k, k < m → round E f call d n c (I k) = some (.normal, I (k + 1))) {ex : AExit} {st' : St} (hx : ex ≠ .normal)
    (he : acode E f call d n c (I m) = some (ex, st')) (hf : m < n) : acode E f call d n (.loop c) st0 = some (ex, st') :=
  s_loopF I m h0 (fun k hk => by
    have := hr k hk
    simp only [round, Option.map_eq_some_iff, Prod.mk.injEq] at this
    obtain ⟨⟨e, s⟩, h1, rfl, h2⟩ := this
    exact ⟨s, h1, h2⟩) hx he hf

/-- All loops of a code, the outer ones first. -/
def loopsOf : Code → List Code
  | .seq a b => loopsOf a ++ loopsOf b
  | .cond _ a b => loopsOf a ++ loopsOf b
  | .block _ c => loopsOf c
  | .scope c => loopsOf c
  | .loop c => c :: loopsOf c
  | _ => []
def loopAt (fn : Func) (i : Nat) : Code := (loopsOf (bodyOf fn)).getD i .skip

/-- All regions of a code, in the order of the text. -/
def regsOf : Code → List (Array Oper)
  | .seq a b => regsOf a ++ regsOf b
  | .cond _ a b => regsOf a ++ regsOf b
  | .block _ c => regsOf c
  | .scope c => regsOf c
  | .loop c => regsOf c
  | .region _ ops _ => [ops]
  | _ => []
def regAt (fn : Func) (i : Nat) : Array Oper := (regsOf (bodyOf fn)).getD i #[]

theorem ldsChk_none {ops : Array Oper} {cls : List Cls} {Ts : List St} (h : (cls.all fun c => decide (c ≠ .load)) = true) : ldsChk E ops cls Ts = true := by
  unfold ldsChk
  rw [List.all_eq_true] at h ⊢
  intro i _
  split
  · rename_i hc
    have := h _ (List.mem_of_getElem? hc)
    simp at this
  · rfl
end
end Go.Abs
