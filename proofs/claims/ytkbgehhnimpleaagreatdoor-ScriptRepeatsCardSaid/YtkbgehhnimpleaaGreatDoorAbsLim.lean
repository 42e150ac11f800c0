/- An abstract reading of the program, and what it answers. By an AI agent. -/
import Derived.Test.YtkbgehhnimpleaaGreatDoorAbsMain
set_option linter.all false
namespace Go.Abs

/-! ### Without fuel -/

/-- What a call answers with fuel enough. -/
noncomputable def lim (c : Nat → CallF) : CallF := fun f args σ => open Classical in
  if h : ∃ r n, c n f args σ = some r then some h.choose else none

def Mono (c : Nat → CallF) : Prop := ∀ {n m : Nat}, n ≤ m → Sub (c n) (c m)

theorem lim_iff {c : Nat → CallF} (hc : Mono c) {f : FuncId} {args : List AV} {σ : Store} {r : AV × Store} : lim c f args σ = some r ↔ ∃ n, c n f args σ = some r := by
  unfold lim
  constructor
  · intro h
    split at h
    · rename_i hx
      cases h
      exact hx.choose_spec
    · cases h
  · rintro ⟨n, h⟩
    have hx : ∃ r n, c n f args σ = some r := ⟨r, n, h⟩
    rw [dif_pos hx]
    obtain ⟨m, hm⟩ := hx.choose_spec
    have h1 := hc (Nat.le_max_left n m) f args σ _ h
    have h2 := hc (Nat.le_max_right n m) f args σ _ hm
    rw [h1] at h2
    exact h2.symm

section
variable {E : Env} {c : Nat → CallF} (hc : Mono c)
include hc

theorem aoperT_cont {fid : FuncId} {ops : Array Oper} {o : Oper} {st : St} {r : TV × St} (he : aoperT E fid (lim c) ops st o = some r) : ∃ n, aoperT E fid (c n) ops st o = some r := by
  unfold aoperT at *
  split at he
  · rename_i hw
    split at he
    · rename_i h1; exact ⟨0, by first | exact he | (simp only [h1]; exact he) | (simp only [hw, h1]; exact he)⟩
    · rename_i h1; exact ⟨0, by first | exact he | (simp only [h1]; exact he) | (simp only [hw, h1]; exact he)⟩
    · rename_i f args st1 h1
      split at he
      · rename_i r1 σ' hcr
        obtain ⟨n, hn⟩ := (lim_iff hc).1 hcr
        exact ⟨n, by first | exact he | (simp only [h1, hn]; exact he) | (simp only [hw, h1, hn]; exact he)⟩
      · cases he
    · cases he
  · rename_i hw; exact ⟨0, by first | exact he | (rw [hw]; exact he)⟩
  · cases he

theorem aoper_cont {fid : FuncId} {ops : Array Oper} {o : Oper} {st st' : St} (he : aoper E fid (lim c) ops st o = some st') : ∃ n, aoper E fid (c n) ops st o = some st' := by
  unfold aoper at *
  split at he
  · rename_i t st1 h1
    obtain ⟨n, hn⟩ := aoperT_cont hc h1
    exact ⟨n, by rw [hn]; exact he⟩
  · cases he

theorem aopers_cont {fid : FuncId} {ops : Array Oper} : ∀ {l : List Oper} {st st' : St}, aopers E fid (lim c) ops l st = some st' → ∃ n, aopers E fid (c n) ops l st = some st'
  | [], _, _, he => ⟨0, he⟩
  | o :: rest, st, st', he => by
    simp only [aopers] at he ⊢
    split at he
    · rename_i st1 h1
      obtain ⟨n, hn⟩ := aoper_cont hc h1
      obtain ⟨m, hm⟩ := aopers_cont he
      refine ⟨max n m, ?_⟩
      rw [aoper_mono (hc (Nat.le_max_left n m)) hn]
      exact aopers_mono (hc (Nat.le_max_right n m)) hm
    · cases he

theorem adval_cont {fid : FuncId} {ops : Array Oper} {o : Oper} {st : St} {r : Cls × TV × Store × Store} (he : adval E fid (lim c) ops o st = some r) : ∃ n, adval E fid (c n) ops o st = some r := by
  unfold adval at *
  split at he
  · rename_i hw; exact ⟨0, by first | exact he | (rw [hw]; exact he)⟩
  · rename_i hw
    split at he
    · rename_i h1; exact ⟨0, by first | exact he | (simp only [h1]; exact he) | (simp only [hw, h1]; exact he)⟩
    · rename_i h1
      split at he
      · rename_i h2; exact ⟨0, by first | exact he | (simp only [h1, h2]; exact he) | (simp only [hw, h1, h2]; exact he)⟩
      · rename_i h2
        split at he
        · rename_i h3; exact ⟨0, by first | exact he | (simp only [h1, h2, h3]; exact he) | (simp only [hw, h1, h2, h3]; exact he)⟩
        · rename_i h3
          split at he
          · rename_i h4; exact ⟨0, by first | exact he | (simp only [h1, h2, h3, h4]; exact he) | (simp only [hw, h1, h2, h3, h4]; exact he)⟩
          · rename_i h4
            split at he
            · rename_i F args h5
              split at he
              · rename_i r1 σ1 hcr
                obtain ⟨n, hn⟩ := (lim_iff hc).1 hcr
                exact ⟨n, by first | exact he | (simp only [h1, h2, h3, h4, h5, hn]; exact he) | (simp only [hw, h1, h2, h3, h4, h5, hn]; exact he)⟩
              · cases he
            · rename_i h5
              split at he
              · rename_i t st2 hcr
                obtain ⟨n, hn⟩ := aoperT_cont hc hcr
                exact ⟨n, by first | exact he | (simp only [h1, h2, h3, h4, h5, hn]; exact he) | (simp only [hw, h1, h2, h3, h4, h5, hn]; exact he)⟩
              · cases he
  · cases he

theorem adrawL_cont {fid : FuncId} {ops : Array Oper} : ∀ {l : List Oper} {st : St} {r : List (Cls × St)}, adrawL E fid (lim c) ops l st = some r → ∃ n, adrawL E fid (c n) ops l st = some r
  | [], _, _, he => ⟨0, he⟩
  | o :: rest, st, r, he => by
    simp only [adrawL] at he ⊢
    split at he
    · rename_i k t σ' l' h1
      split at he
      · rename_i r' h2
        obtain ⟨n, hn⟩ := adval_cont hc h1
        obtain ⟨m, hm⟩ := adrawL_cont h2
        refine ⟨max n m, ?_⟩
        rw [adval_mono (hc (Nat.le_max_left n m)) hn]
        simp only
        rw [adrawL_mono (hc (Nat.le_max_right n m)) hm]
        exact he
      · cases he
    · cases he

theorem adrawR_cont {fid : FuncId} {ops : Array Oper} {st st' : St} (he : adrawR E fid (lim c) ops st = some st') : ∃ n, adrawR E fid (c n) ops st = some st' := by
  unfold adrawR adrawR0 at *
  split at he
  · rename_i r hr
    obtain ⟨n, hn⟩ := adrawL_cont hc hr
    exact ⟨n, by rw [hn]; exact he⟩
  · cases he

abbrev drawOf (E : Env) (call : CallF) : RegionF := fun fid ops st => adrawR E fid call ops st

theorem acode_up {fid : FuncId} {n m k : Nat} (h : n ≤ m) {x : Code} {st : St} {r : AExit × St} (he : acode E fid (c n) (drawOf E (c n)) k x st = some r) : acode E fid (c m) (drawOf E (c m)) k x st = some r :=
  acode_mono (hc h) (fun fid ops st r hr => adrawR_mono (hc h) hr) (Nat.le_refl k) x he

theorem aloop_cont {fid : FuncId} {k : Nat} {x : Code} (ih : ∀ {st : St} {r : AExit × St}, acode E fid (lim c) (drawOf E (lim c)) k x st = some r → ∃ n, acode E fid (c n) (drawOf E (c n)) k x st = some r) :
    ∀ {j : Nat} {st : St} {r : AExit × St}, aloop (fun st => acode E fid (lim c) (drawOf E (lim c)) k x (forget E fid st)) j st = some r → ∃ n, aloop (fun st => acode E fid (c n) (drawOf E (c n)) k x (forget E fid st)) j st = some r
  | 0, st, r, he => by simp [aloop] at he
  | j + 1, st, r, he => by
    simp only [aloop] at he
    split at he
    · rename_i st1 h1
      obtain ⟨n, hn⟩ := ih h1
      obtain ⟨m, hm⟩ := aloop_cont ih he
      refine ⟨max n m, ?_⟩
      simp only [aloop, acode_up hc (Nat.le_max_left n m) hn]
      exact aloop_mono (fun st r hr => acode_up hc (Nat.le_max_right n m) hr) (Nat.le_refl j) hm
    · rename_i r1 hne
      obtain ⟨n, hn⟩ := ih he
      refine ⟨n, ?_⟩
      simp only [aloop, hn]
      obtain ⟨ex, st2⟩ := r
      cases ex
      · exact absurd he (hne st2)
      · rfl
      · rfl

theorem acode_cont {fid : FuncId} {k : Nat} : ∀ (x : Code) {st : St} {r : AExit × St}, acode E fid (lim c) (drawOf E (lim c)) k x st = some r → ∃ n, acode E fid (c n) (drawOf E (c n)) k x st = some r := by
  intro x
  induction x with
  | region id ops b =>
    intro st r he
    simp only [acode] at he ⊢
    split at he
    · rename_i st1 h1
      cases b
      · simp only [Bool.false_eq_true, if_false] at h1 ⊢
        obtain ⟨n, hn⟩ := aopers_cont hc h1
        exact ⟨n, by rw [hn]; exact he⟩
      · simp only [if_true] at h1 ⊢
        obtain ⟨n, hn⟩ := adrawR_cont hc h1
        refine ⟨n, ?_⟩
        simp only [drawOf, hn]; exact he
    · cases he
  | seq x y ihx ihy =>
    intro st r he
    simp only [acode] at he
    split at he
    · rename_i st1 h1
      obtain ⟨n, hn⟩ := ihx h1
      obtain ⟨m, hm⟩ := ihy he
      refine ⟨max n m, ?_⟩
      simp only [acode, acode_up hc (Nat.le_max_left n m) hn]
      exact acode_up hc (Nat.le_max_right n m) hm
    · rename_i r1 hne
      obtain ⟨n, hn⟩ := ihx he
      refine ⟨n, ?_⟩
      simp only [acode, hn]
      obtain ⟨ex, st2⟩ := r
      cases ex
      · exact absurd he (hne st2)
      · rfl
      · rfl
  | cond b x y ihx ihy =>
    intro st r he
    simp only [acode] at he ⊢
    split at he
    · rename_i b' hb
      cases b'
      · simp only [Bool.false_eq_true, if_false] at he ⊢; exact ihy he
      · simp only [if_true] at he ⊢; exact ihx he
    · cases he
  | block id x ih =>
    intro st r he
    simp only [acode] at he
    split at he
    · rename_i id' st1 h1
      obtain ⟨n, hn⟩ := ih h1
      exact ⟨n, by simp only [acode, hn]; exact he⟩
    · rename_i r1 hne
      obtain ⟨n, hn⟩ := ih he
      refine ⟨n, ?_⟩
      simp only [acode, hn]
      obtain ⟨ex, st2⟩ := r
      cases ex
      · rfl
      · rfl
      · rename_i id'; exact absurd he (hne id' st2)
  | loop x ih =>
    intro st r he
    simp only [acode] at he ⊢
    exact aloop_cont hc ih he
  | scope x ih =>
    intro st r he
    simp only [acode] at he ⊢
    exact ih he
  | _ => intro st r he; first | exact ⟨0, he⟩ | (simp [acode] at he; done)

theorem abody0_cont {k : Nat} {f : FuncId} {fn : Func} {x : Code} {args : List AV} {σ : Store} {r : AV × Store} (h : abody0 E (lim c) k f fn x args σ = some r) : ∃ n, abody0 E (c n) k f fn x args σ = some r := by
  unfold abody0 at *
  unfold afinish at h
  split at h
  · rename_i st h1
    obtain ⟨n, hn⟩ := acode_cont hc x h1
    exact ⟨n, by rw [show acode E f (c n) (fun fid ops st => adrawR E fid (c n) ops st) k x (astart fn args σ) = _ from hn]; exact h⟩
  · rename_i st h1
    obtain ⟨n, hn⟩ := acode_cont hc x h1
    exact ⟨n, by rw [show acode E f (c n) (fun fid ops st => adrawR E fid (c n) ops st) k x (astart fn args σ) = _ from hn]; exact h⟩
  · cases h

theorem adeferred_cont {k : Nat} {f : FuncId} {args : List AV} {σ : Store} {r : AV × Store} (h : adeferred E (lim c) k f args σ = some r) : ∃ n, adeferred E (c n) k f args σ = some r := by
  unfold adeferred at *
  split at h
  · rename_i hca
    split at h
    · rename_i fn hf
      split at h
      · rename_i x hb
        obtain ⟨n, hn⟩ := abody0_cont hc h
        exact ⟨n, by first | exact hn | (rw [if_pos hca]; exact hn)⟩
      · cases h
    · cases h
  · cases h

theorem abodyD_cont {k : Nat} {f : FuncId} {fn : Func} {s : DefS} {args : List AV} {σ : Store} {r : AV × Store} (h : abodyD E (lim c) k f fn s args σ = some r) : ∃ n, abodyD E (c n) k f fn s args σ = some r := by
  have fin : ∀ (ex : AExit) (st1 st2 st3 : St) (F : FuncId) (first caps : List AV) (y : AV) (σ4 : Store), (ex = .normal ∨ ex = .ret) →
      acode E f (lim c) (drawOf E (lim c)) k s.a (astart fn args σ) = some (.normal, st1) → aoper E f (lim c) s.ops st1 s.o1 = some st2 → awanted s.ops st2.tmps s.o2 = some true → avOpd st2 s.f = some (.fn F first caps) → st2.loc.isEmpty = true →
      acode E f (lim c) (drawOf E (lim c)) k s.r (st2.put s.o2.dst undefT) = some (ex, st3) → adeferred E (lim c) k F (first ++ caps) st3.σ = some (y, σ4) → ares' E.P { st3 with σ := σ4 } fn.results.toList = some r → ∃ n, abodyD E (c n) k f fn s args σ = some r := by
    intro ex st1 st2 st3 F first caps y σ4 hex h1 h2 h3 h4 h5 h6 h7 h8
    obtain ⟨n1, e1⟩ := acode_cont hc _ h1
    obtain ⟨n2, e2⟩ := aoper_cont hc h2
    obtain ⟨n3, e3⟩ := acode_cont hc _ h6
    obtain ⟨n4, e4⟩ := adeferred_cont hc h7
    refine ⟨max (max n1 n2) (max n3 n4), ?_⟩
    have a1 := acode_up hc (m := max (max n1 n2) (max n3 n4)) (by omega) e1
    have a2 := aoper_mono (hc (show n2 ≤ max (max n1 n2) (max n3 n4) by omega)) e2
    have a3 := acode_up hc (m := max (max n1 n2) (max n3 n4)) (by omega) e3
    have a4 := adeferred_mono (hc (show n4 ≤ max (max n1 n2) (max n3 n4) by omega)) (Nat.le_refl k) e4
    unfold abodyD
    rw [show acode E f _ (fun fid ops st => adrawR E fid _ ops st) k s.a (astart fn args σ) = _ from a1]
    simp only [a2, h3, h4, h5, if_true]
    rw [show acode E f _ (fun fid ops st => adrawR E fid _ ops st) k s.r (st2.put s.o2.dst undefT) = _ from a3]
    rcases hex with rfl | rfl <;> simp only [a4] <;> exact h8
  unfold abodyD at h
  split at h
  · rename_i st1 h1
    split at h
    · rename_i st2 h2
      split at h
      · rename_i F first caps h3 h4
        split at h
        · rename_i h5
          split at h
          · rename_i st3 h6
            split at h
            · rename_i y σ4 h7
              exact fin .normal st1 st2 st3 F first caps y σ4 (.inl rfl) h1 h2 h3 h4 h5 h6 h7 h
            · cases h
          · rename_i st3 h6
            split at h
            · rename_i y σ4 h7
              exact fin .ret st1 st2 st3 F first caps y σ4 (.inr rfl) h1 h2 h3 h4 h5 h6 h7 h
            · cases h
          · cases h
        · cases h
      · cases h
    · cases h
  · cases h

theorem abody_cont {k : Nat} {f : FuncId} {args : List AV} {σ : Store} {r : AV × Store} (h : abody E (lim c) k f args σ = some r) : ∃ n, abody E (c n) k f args σ = some r := by
  unfold abody at *
  split at h
  · rename_i hp; exact ⟨0, by first | exact h | (rw [hp]; exact h)⟩
  · rename_i hp
    split at h
    · rename_i fn hf
      split at h
      · rename_i x hb
        split at h
        · rename_i s hs
          obtain ⟨n, hn⟩ := abodyD_cont hc h
          exact ⟨n, by first | exact hn | (simp only [hf, hb, hs]; exact hn) | (simp only [hp, hf, hb, hs]; exact hn)⟩
        · rename_i hs
          obtain ⟨n, hn⟩ := abody0_cont hc h
          exact ⟨n, by first | exact hn | (simp only [hf, hb, hs]; exact hn) | (simp only [hp, hf, hb, hs]; exact hn)⟩
      · cases h
    · cases h

end

/-- THE MACHINE WITHOUT FUEL. -/
noncomputable def run (E : Env) : CallF := lim (aeval E)

theorem aeval_Mono (E : Env) : Mono (aeval E) := fun h => aeval_mono E h

theorem run_iff {E : Env} {f : FuncId} {args : List AV} {σ : Store} {r : AV × Store} : run E f args σ = some r ↔ ∃ n, aeval E n f args σ = some r := lim_iff (aeval_Mono E)

theorem run_of {E : Env} (n : Nat) {f : FuncId} {args : List AV} {σ : Store} {r : AV × Store} (h : abody E (run E) n f args σ = some r) : run E f args σ = some r := by
  obtain ⟨m, hm⟩ := abody_cont (aeval_Mono E) h
  refine run_iff.2 ⟨max m n + 1, ?_⟩
  exact abody_mono E (aeval_mono E (Nat.le_max_left m n)) (Nat.le_max_right m n) _ _ _ _ hm

/-- A function's body, by its own. -/
theorem run_fn {E : Env} (n : Nat) {f : FuncId} {fn : Func} {c : Code} {args : List AV} {σ : Store} {r : AV × Store} (hp : E.prim f = none) (hf : E.P.funcs[f]? = some fn) (hb : fn.body = some c) (hs : splitD c = none)
    (h : afinish E.P fn (acode E f (run E) (drawOf E (run E)) n c (astart fn args σ)) = some r) : run E f args σ = some r := by
  refine run_of n ?_
  unfold abody
  rw [hp]
  simp only [hf, hb, hs]
  exact h

theorem run_ok {E : Env} (hm : E.P.follows .mixedOrders = true) (hat : ∀ f k, E.at_ f = some k → AtOK E.P f k) (heq : ∀ a b, E.eqb a b = true → a = b)
    (hprim : ∀ f p, E.prim f = some p → ∀ args σ r σ', p args σ = some (r, σ') → CallOK E.P f args σ r σ') : CallsOK E.P (run E) := by
  intro f args σ r σ' h
  obtain ⟨n, hn⟩ := run_iff.1 h
  exact aeval_ok hm hat heq hprim n f args σ r σ' hn

end Go.Abs
