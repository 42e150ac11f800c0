/- An abstract reading of the program, and what it answers. By an AI agent. -/
import Derived.Test.YtkbgehhnimpleaaGreatDoorAbsSym
set_option linter.all false
namespace Go.Abs

/-! ### Going through a body step by step: what is left to be done is data -/

inductive Item where
  | code (c : Code)
  | ops (all : Array Oper) (l : List Oper)
  | drw (all : Array Oper) (l : List Oper) (cls : List (Cls × Bool))
  | blk (id : Nat)
  | lp (c : Code) (m : Nat)

/-- Is it a reading of the frame's own cells? -/
def lkT : TV → Bool
  | .v _ => false
  | _ => true
def lkOf (o : Oper) (st : St) : Bool := match o.op with
  | .load _ x => match opd st x with
    | some t => lkT t
    | none => false
  | _ => false
def fl : Cls → Bool → Bool
  | .load, b => b
  | _, _ => false
def clsOf : List Oper → St → List (Cls × St) → List (Cls × Bool)
  | o :: l, st, (c, s) :: r => (c, fl c (lkOf o st)) :: clsOf l s r
  | _, _, _ => []

/-- Readings of a region that could stand nowhere else. -/
def ldFree (ops : Array Oper) (cls : List (Cls × Bool)) : Bool := (List.range ops.size).all fun i => match cls[i]? with
  | some (.load, b) => (rngOf (ancAll ops.toList []) ops.size (memOf (if b then Cls.l else Cls.σ) (cls.map (·.1))) i).isEmpty
  | _ => true

def drwOK (ops : Array Oper) (cls : List (Cls × Bool)) : Bool := drawChk ops (cls.map (·.1)) && ldFree ops cls

noncomputable def drawRest (E : Env) (f : FuncId) (ops : Array Oper) (l : List Oper) (cls : List (Cls × Bool)) (st : St) : Option St := match adrawL E f (run E) ops l st with
  | some r => if drwOK ops (cls ++ clsOf l st r) = true then some ((st :: r.map (·.2)).getLast (by simp)) else none
  | none => none

theorem clsOf_fst {E : Env} {f : FuncId} {call : CallF} {ops : Array Oper} : ∀ {l : List Oper} {st : St} {r : List (Cls × St)}, adrawL E f call ops l st = some r → (clsOf l st r).map (·.1) = r.map (·.1)
  | [], st, r, h => by simp only [adrawL, Option.some.injEq] at h; subst h; rfl
  | o :: l, st, r, h => by
    simp only [adrawL] at h
    split at h
    · split at h
      · rename_i h2
        cases h
        simp only [clsOf, List.map_cons, clsOf_fst h2]
      · cases h
    · cases h

theorem clsOf_get {E : Env} {f : FuncId} {call : CallF} {ops : Array Oper} : ∀ {l : List Oper} {st : St} {r : List (Cls × St)}, adrawL E f call ops l st = some r → ∀ (i : Nat) o s, l[i]? = some o → (st :: r.map (·.2))[i]? = some s → ∃ c, (r.map (·.1))[i]? = some c ∧ (clsOf l st r)[i]? = some (c, fl c (lkOf o s))
  | [], st, r, h, i, o, s, h1, _ => by simp at h1
  | o' :: l, st, r, h, i, o, s, h1, h2 => by
    simp only [adrawL] at h
    split at h
    · split at h
      · rename_i h3
        cases h
        cases i with
        | zero =>
          simp at h1 h2
          subst h1 h2
          exact ⟨_, rfl, rfl⟩
        | succ i =>
          simp only [List.getElem?_cons_succ, List.map_cons] at h1 h2
          obtain ⟨c, e1, e2⟩ := clsOf_get h3 i o s h1 h2
          exact ⟨c, by simpa using e1, by simpa [clsOf] using e2⟩
      · cases h
    · cases h

theorem adval_load {E : Env} {f : FuncId} {call : CallF} {ops : Array Oper} {o : Oper} {st : St} {t : TV} {σ' l' : Store} (h : adval E f call ops o st = some (.load, t, σ', l')) :
    ∃ T x u y, o.op = .load T x ∧ opd st x = some u ∧ ld E.P st T u = some y := by
  unfold adval at h
  repeat' split at h
  all_goals try (cases h; done)
  rename_i hq
  unfold aldQ at hq
  split at hq
  · rename_i T x ho
    split at hq
    · rename_i u hu
      simp only [Option.map_eq_some_iff] at hq
      obtain ⟨y, hy, _⟩ := hq
      exact ⟨T, x, u, y, ho, hu, hy⟩
    · cases hq
  · cases hq

theorem drawRest_ok {E : Env} {f : FuncId} {ops : Array Oper} {st s : St} (h : drawRest E f ops ops.toList [] st = some s) : adrawR0 E f (run E) ops st = some s := by
  unfold drawRest at h
  split at h
  · rename_i r hr
    split at h
    · rename_i hc
      simp only [List.nil_append, drwOK, Bool.and_eq_true, clsOf_fst hr] at hc
      unfold adrawR0
      rw [hr]
      have hl : ldsChk E ops (r.map (·.1)) (st :: r.map (·.2)) = true := by
        obtain ⟨T, e1, e2, e3⟩ := seq_exists hr
        unfold ldsChk
        rw [List.all_eq_true]
        intro i hi
        have hi' : i < ops.size := by simpa using hi
        have hf := hc.2
        unfold ldFree at hf
        rw [List.all_eq_true] at hf
        have hfi := hf i hi
        split
        · rename_i hcl
          have hoi : ops.toList[i]? = some ops[i] := by simp [hi']
          obtain ⟨c, t, σ', l', h1, h2, h3⟩ := e3 i _ hoi
          have e4 := e2 i (by simp; omega)
          obtain ⟨c', e5, e6⟩ := clsOf_get hr i _ _ hoi e4
          rw [hcl] at h2 e5
          cases h2
          cases e5
          rw [e6] at hfi
          obtain ⟨Ty, x, u, y, h4, h5, h6⟩ := adval_load h1
          have hk : lkOf ops[i] (T i) = lkT u := by simp only [lkOf, h4, h5]
          simp only [fl, hk, clsOf_fst hr] at hfi
          unfold ldChk
          have hoi' : ops[i]? = some ops[i] := by simp [hi']
          rw [hoi', e4]
          simp only [h4, h5, h6]
          simp only [List.isEmpty_iff] at hfi
          cases u <;> simp [lkT] at hfi <;> simp [hfi]
        · rfl
      simp only [hc.1, hl, and_self, if_true]
      exact h
    · cases h
  · cases h

section
variable (E : Env) (f : FuncId) (n : Nat)

noncomputable def go : Item → Option (AExit × St) → Option (AExit × St)
  | .code c, some (.normal, st) => acode E f (run E) (drawOf E (run E)) n c st
  | .ops all l, some (.normal, st) => (aopers E f (run E) all l st).map fun s => (.normal, s)
  | .drw all l cls, some (.normal, st) => (drawRest E f all l cls st).map fun s => (.normal, s)
  | .lp c m, some (.normal, st) => aloop (fun st => acode E f (run E) (drawOf E (run E)) n c (forget E f st)) m st
  | .blk id, some (.exit id', st) => if id' = id then some (.normal, st) else some (.exit id', st)
  | _, r => r

noncomputable def goes : List Item → Option (AExit × St) → Option (AExit × St)
  | [], r => r
  | i :: k, r => goes k (go E f n i r)

/-- All that is left comes to an end that is fine. -/
def WP (k : List Item) (ex : AExit) (st : St) (Q : AExit → St → Prop) : Prop := ∃ e s, goes E f n k (some (ex, st)) = some (e, s) ∧ Q e s

/-- A call answers, and the answer is fine. -/
def Ans (F : FuncId) (args : List AV) (σ : Store) (R : AV → Store → Prop) : Prop := ∃ r σ', run E F args σ = some (r, σ') ∧ R r σ'
end

theorem go_none {E : Env} {f : FuncId} {n : Nat} (i : Item) : go E f n i none = none := by cases i <;> rfl
theorem goes_none {E : Env} {f : FuncId} {n : Nat} : ∀ k : List Item, goes E f n k none = none
  | [] => rfl
  | i :: k => by simp only [goes, go_none, goes_none k]

theorem Ans.mono {E : Env} {F : FuncId} {args : List AV} {σ : Store} {R S : AV → Store → Prop} (h : Ans E F args σ R) (k : ∀ r σ', R r σ' → S r σ') : Ans E F args σ S := by
  obtain ⟨r, σ', h1, h2⟩ := h
  exact ⟨r, σ', h1, k r σ' h2⟩

theorem Ans_of_run {E : Env} {F : FuncId} {args : List AV} {σ σ' : Store} {r : AV} (h : run E F args σ = some (r, σ')) (R : AV → Store → Prop) : Ans E F args σ R = R r σ' := by
  apply propext
  constructor
  · rintro ⟨r1, σ1, h1, h2⟩
    rw [h] at h1
    cases h1
    exact h2
  · intro h2
    exact ⟨r, σ', h, h2⟩

/-- Just that answer. -/
def Is (r0 : AV) (σ0 : Store) (r : AV) (σ : Store) : Prop := r = r0 ∧ σ = σ0
theorem Is_self {r : AV} {σ : Store} : Is r σ r σ = True := by simp [Is]
theorem Is_iff {r0 r : AV} {σ0 σ : Store} : Is r0 σ0 r σ = (r = r0 ∧ σ = σ0) := rfl

theorem Ans.run_eq {E : Env} {F : FuncId} {args : List AV} {σ σ' : Store} {r : AV} (h : Ans E F args σ (Is r σ')) : run E F args σ = some (r, σ') := by
  obtain ⟨r1, σ1, h1, h2, h3⟩ := h
  rw [h1, h2, h3]

/-- A contract as an equation. -/
theorem Ans.eq {E : Env} {F : FuncId} {args : List AV} {σ σ' : Store} {r : AV} (h : Ans E F args σ (Is r σ')) (R : AV → Store → Prop) : Ans E F args σ R = R r σ' := Ans_of_run h.run_eq R

section
variable {E : Env} {f : FuncId} {n : Nat} {k : List Item} {st : St} {Q : AExit → St → Prop}

theorem WP_congr {k k' : List Item} {ex ex' : AExit} {st st' : St} (h : goes E f n k (some (ex, st)) = goes E f n k' (some (ex', st'))) : WP E f n k ex st Q = WP E f n k' ex' st' Q := by
  unfold WP; rw [h]

theorem WP_nil {ex : AExit} : WP E f n [] ex st Q = Q ex st := by
  apply propext
  constructor
  · rintro ⟨e, s, h, hq⟩
    simp only [goes, Option.some.injEq, Prod.mk.injEq] at h
    obtain ⟨rfl, rfl⟩ := h
    exact hq
  · intro h
    exact ⟨ex, st, rfl, h⟩

theorem WP_seq {a b : Code} : WP E f n (.code (.seq a b) :: k) .normal st Q = WP E f n (.code a :: .code b :: k) .normal st Q := by
  apply WP_congr
  simp only [goes, go, acode_seq]
  congr 1
  split
  · rename_i h; rw [h]
  · rename_i r h
    cases hr : acode E f (run E) (drawOf E (run E)) n a st with
    | none => rfl
    | some q =>
      obtain ⟨e, s⟩ := q
      cases e with
      | normal => exact absurd hr (h s)
      | ret => rfl
      | exit i => rfl

theorem WP_skip : WP E f n (.code .skip :: k) .normal st Q = WP E f n k .normal st Q := rfl
theorem WP_ret : WP E f n (.code .ret :: k) .normal st Q = WP E f n k .ret st Q := rfl
theorem WP_exit {i : Nat} : WP E f n (.code (.exit i) :: k) .normal st Q = WP E f n k (.exit i) st Q := rfl
theorem WP_label {i : Nat} : WP E f n (.code (.label i) :: k) .normal st Q = WP E f n k .normal st Q := rfl
theorem WP_scope {c : Code} : WP E f n (.code (.scope c) :: k) .normal st Q = WP E f n (.code c :: k) .normal st Q := rfl
theorem WP_code_ret {c : Code} : WP E f n (.code c :: k) .ret st Q = WP E f n k .ret st Q := rfl
theorem WP_code_exit {c : Code} {i : Nat} : WP E f n (.code c :: k) (.exit i) st Q = WP E f n k (.exit i) st Q := rfl
theorem WP_blk_normal {i : Nat} : WP E f n (.blk i :: k) .normal st Q = WP E f n k .normal st Q := rfl
theorem WP_blk_ret {i : Nat} : WP E f n (.blk i :: k) .ret st Q = WP E f n k .ret st Q := rfl
theorem WP_blk_exit {i : Nat} : WP E f n (.blk i :: k) (.exit i) st Q = WP E f n k .normal st Q := by
  apply WP_congr; simp [goes, go]
theorem WP_blk_exit' {i j : Nat} (h : (j == i) = false) : WP E f n (.blk i :: k) (.exit j) st Q = WP E f n k (.exit j) st Q := by
  have h : j ≠ i := by simpa using h
  apply WP_congr; simp [goes, go, h]
theorem WP_block {i : Nat} {c : Code} : WP E f n (.code (.block i c) :: k) .normal st Q = WP E f n (.code c :: .blk i :: k) .normal st Q := by
  apply WP_congr
  simp only [goes, go, acode_block]
  congr 1
  split
  · rename_i h; rw [h]
  · rename_i r h
    cases hr : acode E f (run E) (drawOf E (run E)) n c st with
    | none => rfl
    | some q =>
      obtain ⟨e, s⟩ := q
      cases e with
      | normal => rfl
      | ret => rfl
      | exit i => exact absurd hr (h i s)

/-! Branches -/

def CondK (E : Env) (f : FuncId) (n : Nat) (x y : Code) (k : List Item) (st : St) (Q : AExit → St → Prop) : Option TV → Prop
  | some (.v (.sc (.bool b))) => if b then WP E f n (.code x :: k) .normal st Q else WP E f n (.code y :: k) .normal st Q
  | _ => False

theorem WP_cond {c : Operand} {x y : Code} : WP E f n (.code (.cond c x y) :: k) .normal st Q = CondK E f n x y k st Q (opd st c) := by
  unfold CondK
  split
  · rename_i b h
    cases b with
    | true => apply WP_congr; simp only [goes, go, acode_cond, h, if_true]
    | false => apply WP_congr; simp only [goes, go, acode_cond, h, Bool.false_eq_true, if_false]
  · rename_i h
    simp only [WP, eq_iff_iff, iff_false]
    rintro ⟨e, s, h1, _⟩
    simp only [goes, go, acode_cond] at h1
    rw [goes_none] at h1
    cases h1

theorem CondK_t {x y : Code} : CondK E f n x y k st Q (some (.v (.sc (.bool true)))) = WP E f n (.code x :: k) .normal st Q := rfl
theorem CondK_f {x y : Code} : CondK E f n x y k st Q (some (.v (.sc (.bool false)))) = WP E f n (.code y :: k) .normal st Q := rfl
theorem CondK_dt {x y : Code} {p : Prop} [Decidable p] (h : p) : CondK E f n x y k st Q (some (.v (.sc (.bool (decide p))))) = WP E f n (.code x :: k) .normal st Q := by simp [CondK, h]
theorem CondK_df {x y : Code} {p : Prop} [Decidable p] (h : ¬ p) : CondK E f n x y k st Q (some (.v (.sc (.bool (decide p))))) = WP E f n (.code y :: k) .normal st Q := by simp [CondK, h]
theorem CondK_split {x y : Code} {p : Prop} [Decidable p] (h1 : p → WP E f n (.code x :: k) .normal st Q) (h2 : ¬ p → WP E f n (.code y :: k) .normal st Q) : CondK E f n x y k st Q (some (.v (.sc (.bool (decide p))))) := by
  by_cases h : p
  · rw [CondK_dt h]; exact h1 h
  · rw [CondK_df h]; exact h2 h
theorem CondK_bool {x y : Code} {b : Bool} (h1 : b = true → WP E f n (.code x :: k) .normal st Q) (h2 : b = false → WP E f n (.code y :: k) .normal st Q) : CondK E f n x y k st Q (some (.v (.sc (.bool b)))) := by
  cases b
  · exact h2 rfl
  · exact h1 rfl

/-! Regions -/

theorem WP_region {i : Nat} {ops : Array Oper} : WP E f n (.code (.region i ops false) :: k) .normal st Q = WP E f n (.ops ops ops.toList :: k) .normal st Q := by
  apply WP_congr
  simp only [goes, go, acode_region]
  congr 1
  simp only [Bool.false_eq_true, if_false]
  cases aopers E f (run E) ops ops.toList st <;> rfl

theorem WP_ops_nil {all : Array Oper} : WP E f n (.ops all [] :: k) .normal st Q = WP E f n k .normal st Q := rfl
theorem WP_drw_nil {all : Array Oper} {cls : List (Cls × Bool)} (h : drwOK all cls = true) : WP E f n (.drw all [] cls :: k) .normal st Q = WP E f n k .normal st Q := by
  apply WP_congr
  simp [goes, go, drawRest, adrawL, clsOf, h]

/-- Going on behind a call. -/
def After (E : Env) (f : FuncId) (n : Nat) (all : Array Oper) (l : List Oper) (k : List Item) (st : St) (d : Option Tmp) (Q : AExit → St → Prop) (r : AV) (σ' : Store) : Prop :=
  WP E f n (.ops all l :: k) .normal ({ st with σ := σ' }.put d (.v r)) Q

def arK (E : Env) (f : FuncId) (n : Nat) (all : Array Oper) (l : List Oper) (k : List Item) (d : Option Tmp) (Q : AExit → St → Prop) : Option AR → Prop
  | some (.val t st') => WP E f n (.ops all l :: k) .normal (st'.put d t) Q
  | some (.skip st') => WP E f n (.ops all l :: k) .normal (st'.put d undefT) Q
  | some (.call F args st') => Ans E F args st'.σ (After E f n all l k st' d Q)
  | none => False

theorem WP_none {k : List Item} {x : Item} {ex : AExit} (h : go E f n x (some (ex, st)) = none) : WP E f n (x :: k) ex st Q = False := by
  simp only [WP, eq_iff_iff, iff_false]
  rintro ⟨e, s, h1, _⟩
  simp only [goes, h, goes_none] at h1
  cases h1

theorem WP_wanted {all : Array Oper} {o : Oper} {l : List Oper} (hw : awanted all st.tmps o = some true) : WP E f n (.ops all (o :: l) :: k) .normal st Q = arK E f n all l k o.dst Q (aop E f o st) := by
  cases ha : aop E f o st with
  | none =>
    refine (WP_none ?_).trans rfl
    simp only [go, aopers, aoper, aoperT, hw, ha]; rfl
  | some ar =>
    cases ar with
    | val t st' =>
      simp only [arK]
      apply WP_congr
      simp only [goes, go, aopers, aoper, aoperT, hw, ha]
    | skip st' =>
      simp only [arK]
      apply WP_congr
      simp only [goes, go, aopers, aoper, aoperT, hw, ha]
    | call F args st' =>
      simp only [arK]
      unfold Ans After
      apply propext
      constructor
      · rintro ⟨e, s, h1, hq⟩
        simp only [goes, go, aopers, aoper, aoperT, hw, ha] at h1
        cases hr : run E F args st'.σ with
        | none => rw [hr] at h1; simp [goes_none] at h1
        | some q =>
          obtain ⟨r, σ'⟩ := q
          rw [hr] at h1
          exact ⟨r, σ', rfl, e, s, h1, hq⟩
      · rintro ⟨r, σ', hr, e, s, h1, hq⟩
        refine ⟨e, s, ?_, hq⟩
        simp only [goes, go, aopers, aoper, aoperT, hw, ha, hr]
        exact h1

theorem WP_op {all : Array Oper} {l : List Oper} {d : Option Tmp} {op : Op} {ty : TypeId} {p : String} {a : Array Edge} : WP E f n (.ops all (⟨d, op, ty, p, a, none⟩ :: l) :: k) .normal st Q = arK E f n all l k d Q (aop E f ⟨d, op, ty, p, a, none⟩ st) :=
  WP_wanted rfl

/-- An operation that has a guard. -/
def GuardK (E : Env) (f : FuncId) (n : Nat) (all : Array Oper) (o : Oper) (l : List Oper) (k : List Item) (st : St) (Q : AExit → St → Prop) : Option Bool → Prop
  | some true => arK E f n all l k o.dst Q (aop E f o st)
  | some false => WP E f n (.ops all l :: k) .normal (st.put o.dst undefT) Q
  | none => False

theorem WP_guard {all : Array Oper} {l : List Oper} {d : Option Tmp} {op : Op} {ty : TypeId} {p : String} {a : Array Edge} {gd : Nat × Bool} : WP E f n (.ops all (⟨d, op, ty, p, a, some gd⟩ :: l) :: k) .normal st Q = GuardK E f n all ⟨d, op, ty, p, a, some gd⟩ l k st Q (awanted all st.tmps ⟨d, op, ty, p, a, some gd⟩) := by
  cases hw : awanted all st.tmps ⟨d, op, ty, p, a, some gd⟩ with
  | none =>
    refine (WP_none ?_).trans rfl
    simp only [go, aopers, aoper, aoperT, hw]; rfl
  | some b =>
    cases b with
    | true => exact WP_wanted hw
    | false =>
      simp only [GuardK]
      apply WP_congr
      simp only [goes, go, aopers, aoper, aoperT, hw]

theorem GuardK_t {all : Array Oper} {l : List Oper} {o : Oper} : GuardK E f n all o l k st Q (some true) = arK E f n all l k o.dst Q (aop E f o st) := rfl
theorem GuardK_f {all : Array Oper} {l : List Oper} {o : Oper} : GuardK E f n all o l k st Q (some false) = WP E f n (.ops all l :: k) .normal (st.put o.dst undefT) Q := rfl
theorem GuardK_split {all : Array Oper} {l : List Oper} {o : Oper} {b : Bool} (h1 : b = true → arK E f n all l k o.dst Q (aop E f o st)) (h2 : b = false → WP E f n (.ops all l :: k) .normal (st.put o.dst undefT) Q) : GuardK E f n all o l k st Q (some b) := by
  cases b
  · exact h2 rfl
  · exact h1 rfl

theorem arK_val {all : Array Oper} {l : List Oper} {d : Option Tmp} {t : TV} {st' : St} : arK E f n all l k d Q (some (.val t st')) = WP E f n (.ops all l :: k) .normal (st'.put d t) Q := rfl
theorem arK_skip {all : Array Oper} {l : List Oper} {d : Option Tmp} {st' : St} : arK E f n all l k d Q (some (.skip st')) = WP E f n (.ops all l :: k) .normal (st'.put d undefT) Q := rfl
theorem arK_call {all : Array Oper} {l : List Oper} {d : Option Tmp} {F : FuncId} {args : List AV} {st' : St} : arK E f n all l k d Q (some (.call F args st')) = Ans E F args st'.σ (After E f n all l k st' d Q) := rfl
theorem After_eq {all : Array Oper} {l : List Oper} {d : Option Tmp} {r : AV} {σ σ' : Store} {loc : Store} {ts : List TV} : After E f n all l k ⟨σ, loc, ts⟩ d Q r σ' = WP E f n (.ops all l :: k) .normal (St.put ⟨σ', loc, ts⟩ d (.v r)) Q := rfl

/-! Regions that draw their order -/

theorem WP_draw {i : Nat} {ops : Array Oper} (h : WP E f n (.drw ops ops.toList [] :: k) .normal (prefrz ops.toList st) Q) : WP E f n (.code (.region i ops true) :: k) .normal st Q := by
  obtain ⟨e, s, h1, hq⟩ := h
  refine ⟨e, s, ?_, hq⟩
  simp only [goes, go, acode_region, if_true] at h1 ⊢
  rw [← h1]
  cases hd : drawRest E f ops ops.toList [] (prefrz ops.toList st) with
  | none => rw [hd] at h1; simp [goes_none] at h1
  | some s1 =>
    have : drawOf E (run E) f ops st = some s1 := drawRest_ok hd
    rw [this]
    rfl

def AfterD (E : Env) (f : FuncId) (n : Nat) (all : Array Oper) (l : List Oper) (cls : List (Cls × Bool)) (k : List Item) (loc : Store) (ts : List TV) (d : Option Tmp) (Q : AExit → St → Prop) (r : AV) (σ' : Store) : Prop :=
  WP E f n (.drw all l cls :: k) .normal (St.put ⟨σ', loc, ts⟩ d (.v r)) Q

def dvK (E : Env) (f : FuncId) (n : Nat) (all : Array Oper) (l : List Oper) (cls : List (Cls × Bool)) (k : List Item) (ts : List TV) (d : Option Tmp) (Q : AExit → St → Prop) (b : Bool) : Option (Cls × TV × Store × Store) → Prop
  | some (c, t, σ', l') => WP E f n (.drw all l (cls ++ [(c, fl c b)]) :: k) .normal (St.put ⟨σ', l', ts⟩ d t) Q
  | none => False

theorem drawRest_cons {all : Array Oper} {o : Oper} {l : List Oper} {cls : List (Cls × Bool)} : drawRest E f all (o :: l) cls st = match adval E f (run E) all o st with
    | some (c, t, σ', l') => drawRest E f all l (cls ++ [(c, fl c (lkOf o st))]) (St.put { σ := σ', loc := l', tmps := st.tmps } o.dst t)
    | none => none := by
  unfold drawRest
  simp only [adrawL]
  cases adval E f (run E) all o st with
  | none => rfl
  | some q =>
    obtain ⟨c, t, σ', l'⟩ := q
    simp only
    cases adrawL E f (run E) all l (St.put { σ := σ', loc := l', tmps := st.tmps } o.dst t) with
    | none => rfl
    | some r => simp [List.append_assoc, clsOf]

theorem WP_drw {all : Array Oper} {o : Oper} {l : List Oper} {cls : List (Cls × Bool)} : WP E f n (.drw all (o :: l) cls :: k) .normal st Q = dvK E f n all l cls k st.tmps o.dst Q (lkOf o st) (adval E f (run E) all o st) := by
  cases ha : adval E f (run E) all o st with
  | none =>
    refine (WP_none ?_).trans rfl
    simp only [go, drawRest_cons, ha]; rfl
  | some q =>
    obtain ⟨c, t, σ', l'⟩ := q
    simp only [dvK]
    apply WP_congr
    simp only [goes, go, drawRest_cons, ha]

theorem dvK_some {all : Array Oper} {l : List Oper} {cls : List (Cls × Bool)} {ts : List TV} {d : Option Tmp} {c : Cls} {t : TV} {σ' l' : Store} {b : Bool} : dvK E f n all l cls k ts d Q b (some (c, t, σ', l')) = WP E f n (.drw all l (cls ++ [(c, fl c b)]) :: k) .normal (St.put ⟨σ', l', ts⟩ d t) Q := rfl

theorem AfterD_eq {all : Array Oper} {l : List Oper} {cls : List (Cls × Bool)} {d : Option Tmp} {r : AV} {σ' : Store} {loc : Store} {ts : List TV} : AfterD E f n all l cls k loc ts d Q r σ' = WP E f n (.drw all l cls :: k) .normal (St.put ⟨σ', loc, ts⟩ d (.v r)) Q := rfl

/-! Loops -/

def LoopQ (E : Env) (f : FuncId) (n : Nat) (k : List Item) (I : Nat → St → Prop) (j : Nat) (Q : AExit → St → Prop) (e : AExit) (s : St) : Prop := match e with
  | .normal => ∃ j', j' < j ∧ I j' (forget E f s)
  | e => WP E f n k e s Q

theorem LoopQ_normal {I : Nat → St → Prop} {j : Nat} {s : St} : LoopQ E f n k I j Q .normal s = ∃ j', j' < j ∧ I j' (forget E f s) := rfl
theorem LoopQ_ret {I : Nat → St → Prop} {j : Nat} {s : St} : LoopQ E f n k I j Q .ret s = WP E f n k .ret s Q := rfl
theorem LoopQ_exit {I : Nat → St → Prop} {j : Nat} {s : St} {i : Nat} : LoopQ E f n k I j Q (.exit i) s = WP E f n k (.exit i) s Q := rfl

/-- A loop by an invariant: I j says what stands at a round's head, j how many rounds there are to come at most. -/
theorem WP_loop {c : Code} (I : Nat → St → Prop) (m : Nat) (h0 : I m (forget E f st)) (hn : m < n) (hs : ∀ j s, j ≤ m → I j s → WP E f n [.code c] .normal s (LoopQ E f n k I j Q)) : WP E f n (.code (.loop c) :: k) .normal st Q := by
  have key : ∀ (j fuel : Nat), j < fuel → j ≤ m → ∀ st : St, I j (forget E f st) → ∃ e s, aloop (fun st => acode E f (run E) (drawOf E (run E)) n c (forget E f st)) fuel st = some (e, s) ∧ e ≠ .normal ∧ WP E f n k e s Q := by
    intro j
    induction j using Nat.strongRecOn with
    | _ j ih =>
      intro fuel hf hjm st hi
      cases fuel with
      | zero => omega
      | succ fuel =>
        obtain ⟨e, s, h1, h2⟩ := hs j _ hjm hi
        simp only [goes, go] at h1
        cases e with
        | normal =>
          obtain ⟨j', hj', hi'⟩ := h2
          obtain ⟨e2, s2, h3, h4, h5⟩ := ih j' hj' fuel (by omega) (by omega) s hi'
          refine ⟨e2, s2, ?_, h4, h5⟩
          simp only [aloop, h1]
          exact h3
        | ret =>
          refine ⟨.ret, s, ?_, by simp, h2⟩
          simp only [aloop, h1]
        | exit i =>
          refine ⟨.exit i, s, ?_, by simp, h2⟩
          simp only [aloop, h1]
  obtain ⟨e, s, h1, h2, e2, s2, h3, h4⟩ := key m n hn (Nat.le_refl m) st h0
  refine ⟨e2, s2, ?_, h4⟩
  simp only [goes, go, acode]
  rw [h1]
  exact h3

/-! Rounds one by one -/

theorem WP_unroll {c : Code} : WP E f n (.code (.loop c) :: k) .normal st Q = WP E f n (.lp c n :: k) .normal st Q := rfl
theorem WP_lp_ret {c : Code} {m : Nat} : WP E f n (.lp c m :: k) .ret st Q = WP E f n k .ret st Q := rfl
theorem WP_lp_exit {c : Code} {m i : Nat} : WP E f n (.lp c m :: k) (.exit i) st Q = WP E f n k (.exit i) st Q := rfl
theorem WP_lp {c : Code} {m : Nat} : WP E f n (.lp c (m + 1) :: k) .normal st Q = WP E f n (.code c :: .lp c m :: k) .normal (forget E f st) Q := by
  apply WP_congr
  simp only [goes, go, aloop]
  congr 1
  cases acode E f (run E) (drawOf E (run E)) n c (forget E f st) with
  | none => rfl
  | some q =>
    obtain ⟨e, s⟩ := q
    cases e <;> rfl

/-! Bodies -/

def Fin (E : Env) (rs : List ResultVar) (R : AV → Store → Prop) (e : AExit) (s : St) : Prop := match e with
  | .exit _ => False
  | _ => match ares E.P s rs with
    | some (r, s') => R r s'.σ
    | none => False

def FinK (R : AV → Store → Prop) : Option (AV × St) → Prop
  | some (r, s') => R r s'.σ
  | none => False
theorem FinK_some {R : AV → Store → Prop} {r : AV} {s : St} : FinK R (some (r, s)) = R r s.σ := rfl
theorem Fin_normal {rs : List ResultVar} {R : AV → Store → Prop} {s : St} : Fin E rs R .normal s = FinK R (ares E.P s rs) := by
  unfold Fin FinK; cases ares E.P s rs <;> rfl
theorem Fin_ret {rs : List ResultVar} {R : AV → Store → Prop} {s : St} : Fin E rs R .ret s = FinK R (ares E.P s rs) := by
  unfold Fin FinK; cases ares E.P s rs <;> rfl

theorem Ans_body {fn : Func} {args : List AV} {σ : Store} {R : AV → Store → Prop} {rs : List ResultVar} {st0 : St} (n : Nat) (hp : E.prim f = none) (hf : E.P.funcs[f]? = some fn) (hs : (fn.body.isSome && (splitD (bodyOf fn)).isNone) = true)
    (hr : fn.results.toList = rs) (h0 : astart fn args σ = st0) (h : WP E f n [.code (bodyOf fn)] .normal st0 (Fin E rs R)) : Ans E f args σ R := by
  subst hr h0
  obtain ⟨e, s, h1, h2⟩ := h
  simp only [goes, go] at h1
  have key : ∀ q, ares E.P s fn.results.toList = some q → (e = .normal ∨ e = .ret) → R q.1 q.2.σ → Ans E f args σ R := by
    intro q hq he hR
    refine ⟨q.1, q.2.σ, run_body n hp hf hs ?_, hR⟩
    rw [h1]
    rcases he with rfl | rfl <;> simp only [afinish, hq, Option.map]
  unfold Fin at h2
  split at h2
  · cases h2
  · rename_i hne
    cases hq : ares E.P s fn.results.toList with
    | none => rw [hq] at h2; cases h2
    | some q =>
      rw [hq] at h2
      refine key q hq ?_ h2
      cases e with
      | normal => exact .inl rfl
      | ret => exact .inr rfl
      | exit i => exact absurd rfl (hne i)

end
end Go.Abs
