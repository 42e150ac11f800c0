/- An abstract reading of the program, and what it answers. By an AI agent. -/
import Derived.Test.YtkbgehhnimpleaaGreatDoorAbsStep
set_option linter.all false
namespace Go.Abs

/-! ### A region that draws its order -/

def adrawL (E : Env) (fid : FuncId) (call : CallF) (ops : Array Oper) : List Oper → St → Option (List (Cls × St))
  | [], _ => some []
  | o :: rest, st => match adval E fid call ops o st with
    | some (c, t, σ', l') => match adrawL E fid call ops rest (St.put { σ := σ', loc := l', tmps := st.tmps } o.dst t) with
      | some r => some ((c, St.put { σ := σ', loc := l', tmps := st.tmps } o.dst t) :: r)
      | none => none
    | none => none

def dstAt (ops : Array Oper) (j : Nat) : Option Tmp := (ops[j]?).bind (·.dst)
def isAfter (o : Oper) (j : Nat) : Bool := o.after.any fun e => Region.binds .any e && e.on == j
def isAfterAt (ops : Array Oper) (i j : Nat) : Bool := match ops[i]? with
  | some o => isAfter o j
  | none => false
def memOf (f : Cls → Bool) (cls : List Cls) (j : Nat) : Bool := match cls[j]? with
  | some c => f c
  | none => false

/-- All that lies ahead of an operation. -/
def anc1 (acc : List (List Nat)) : List Edge → List Nat → List Nat
  | [], r => r
  | e :: es, r => anc1 acc es (if Region.binds .any e then (e.on :: acc.getD e.on []).filter (fun x => !r.contains x) ++ r else r)

def ancAll : List Oper → List (List Nat) → List (List Nat)
  | [], acc => acc
  | o :: os, acc => ancAll os (acc ++ [anc1 acc o.after.toList []])

def aft (A : List (List Nat)) (i j : Nat) : Bool := (A.getD i []).contains j

def chainChk (A : List (List Nat)) (mem : Nat → Bool) (i : Nat) : Bool := !mem i || (List.range i).all fun j => !mem j || (List.range i).any fun p => decide (j ≤ p) && mem p && aft A i p

def drawChkA (A : List (List Nat)) (ops : Array Oper) (cls : List Cls) : Bool := (List.range ops.size).all fun i => match ops[i]? with
  | none => true
  | some o =>
    ((List.range ops.size).all fun j => j == i || o.dst.isNone || dstAt ops j != o.dst) &&
    ((o.looksAt ops).all fun t => (List.range ops.size).all fun j => dstAt ops j != some t || ((decide (j < i) && isAfter o j) || (decide (i < j) && aft A j i))) &&
    (o.after.all fun e => !Region.binds .any e || decide (e.on < i)) &&
    chainChk A (memOf Cls.σ cls) i && chainChk A (memOf Cls.l cls) i

/-- Does the region's order of the text tell what any of its orders does? -/
def drawChk (ops : Array Oper) (cls : List Cls) : Bool := drawChkA (ancAll ops.toList []) ops cls

/-- At which other places a reading may stand. -/
def rngOf (A : List (List Nat)) (n : Nat) (mem : Nat → Bool) (i : Nat) : List Nat := (List.range (n + 1)).filter fun m =>
  (m == 0 || mem (m - 1)) &&
  ((List.range n).all fun j => !mem j || ((!aft A i j || decide (j < m)) && (!aft A j i || decide (m ≤ j)))) &&
  !(decide (m ≤ i) && (List.range i).all fun j => decide (j < m) || !mem j)

def ldChk (E : Env) (ops : Array Oper) (cls : List Cls) (Ts : List St) (i : Nat) : Bool := match ops[i]?, Ts[i]? with
  | some o, some st => match o.op with
    | .load T x => match opd st x with
      | some t => match ld E.P st T t with
        | some y => (rngOf (ancAll ops.toList []) ops.size (memOf (match t with | .v _ => Cls.σ | _ => Cls.l) cls) i).all fun m => match Ts[m]? with
          | some st' => match ld E.P st' T t with
            | some y' => E.eqb y' y
            | none => false
          | none => false
        | none => false
      | none => false
    | _ => false
  | _, _ => false

def ldsChk (E : Env) (ops : Array Oper) (cls : List Cls) (Ts : List St) : Bool := (List.range ops.size).all fun i => match cls[i]? with
  | some .load => ldChk E ops cls Ts i
  | _ => true

def adrawR0 (E : Env) (fid : FuncId) (call : CallF) (ops : Array Oper) (st : St) : Option St := match adrawL E fid call ops ops.toList st with
  | some r => if drawChk ops (r.map (·.1)) = true ∧ ldsChk E ops (r.map (·.1)) (st :: r.map (·.2)) = true then some ((st :: r.map (·.2)).getLast (by simp)) else none
  | none => none

def frzAll : List Operand → St → St
  | [], st => st
  | x :: xs, st => match frzO st x with
    | some (_, st') => frzAll xs st'
    | none => frzAll xs st

/-- What a region captures is frozen ahead of it. -/
def prefrz : List Oper → St → St
  | [], st => st
  | o :: os, st => match o.op with
    | .makeFunc _ _ caps => prefrz os (frzAll caps.toList st)
    | _ => prefrz os st

def adrawR (E : Env) (fid : FuncId) (call : CallF) (ops : Array Oper) (st : St) : Option St := adrawR0 E fid call ops (prefrz ops.toList st)

structure DrawChk (ops : Array Oper) (cls : List Cls) (i : Nat) (o : Oper) : Prop where
  own : ∀ (j : Nat) d, o.dst = some d → dstAt ops j = some d → j = i
  looks : ∀ (t j : Nat), t ∈ o.looksAt ops → dstAt ops j = some t → (j < i ∧ isAfter o j = true) ∨ (i < j ∧ aft (ancAll ops.toList []) j i = true)
  low : ∀ e ∈ o.after, Region.binds .any e = true → e.on < i
  chainσ : memOf Cls.σ cls i = true → ∀ (j : Nat), j < i → memOf Cls.σ cls j = true → ∃ p, p < i ∧ j ≤ p ∧ memOf Cls.σ cls p = true ∧ aft (ancAll ops.toList []) i p = true
  chainl : memOf Cls.l cls i = true → ∀ (j : Nat), j < i → memOf Cls.l cls j = true → ∃ p, p < i ∧ j ≤ p ∧ memOf Cls.l cls p = true ∧ aft (ancAll ops.toList []) i p = true

theorem dstAt_lt {ops : Array Oper} {j : Nat} {d : Tmp} (h : dstAt ops j = some d) : j < ops.size := by
  unfold dstAt at h
  rcases Nat.lt_or_ge j ops.size with h' | h'
  · exact h'
  · rw [Array.getElem?_eq_none h'] at h; simp at h

theorem chainChk_ok {ops : Array Oper} {mem : Nat → Bool} {i : Nat} (h : chainChk (ancAll ops.toList []) mem i = true) (hc : mem i = true) : ∀ (j : Nat), j < i → mem j = true → ∃ p, p < i ∧ j ≤ p ∧ mem p = true ∧ aft (ancAll ops.toList []) i p = true := by
  intro j hj hcj
  unfold chainChk at h
  simp only [hc, Bool.not_true, Bool.false_or] at h
  rw [List.all_eq_true] at h
  have := h j (List.mem_range.2 hj)
  simp only [hcj, Bool.not_true, Bool.false_or, List.any_eq_true, List.mem_range, Bool.and_eq_true, decide_eq_true_eq] at this
  obtain ⟨p, hp, ⟨h1, h2⟩, h3⟩ := this
  exact ⟨p, hp, h1, h2, h3⟩

theorem drawChk_ok {ops : Array Oper} {cls : List Cls} (h : drawChk ops cls = true) {i : Nat} {o : Oper} (hi : ops[i]? = some o) : DrawChk ops cls i o := by
  have hlt : i < ops.size := (Array.getElem?_eq_some_iff.1 hi).1
  unfold drawChk drawChkA at h
  rw [List.all_eq_true] at h
  have h1 := h i (List.mem_range.2 hlt)
  simp only [hi, Bool.and_eq_true] at h1
  obtain ⟨⟨⟨⟨a1, a2⟩, a3⟩, a4⟩, a5⟩ := h1
  refine ⟨?_, ?_, ?_, chainChk_ok a4, chainChk_ok a5⟩
  · intro j d hd hj
    rw [List.all_eq_true] at a1
    have := a1 j (List.mem_range.2 (dstAt_lt hj))
    simp [hd, hj] at this
    exact this
  · intro t j ht hj
    rw [List.all_eq_true] at a2
    have h2 := a2 t ht
    rw [List.all_eq_true] at h2
    have := h2 j (List.mem_range.2 (dstAt_lt hj))
    simpa [hj] using this
  · intro e he hb
    have := Array.all_eq_true_iff_forall_mem.1 a3 e he
    simpa [hb] using this

/-- What is said of all that lies ahead. -/
def AncInv (ops : Array Oper) (acc : List (List Nat)) : Prop := ∀ (i : Nat) (l : List Nat), acc[i]? = some l → ∀ j ∈ l, ∃ k, isAfterAt ops i k = true ∧ (j = k ∨ (k < i ∧ ∃ l', acc[k]? = some l' ∧ j ∈ l'))

theorem anc1_mem {acc : List (List Nat)} {j : Nat} : ∀ {es : List Edge} {r : List Nat}, j ∈ anc1 acc es r → j ∈ r ∨ ∃ e ∈ es, Region.binds .any e = true ∧ (j = e.on ∨ j ∈ acc.getD e.on [])
  | [], r, h => .inl h
  | e :: es, r, h => by
    simp only [anc1] at h
    rcases anc1_mem h with h1 | ⟨e', h2, h3⟩
    · split at h1
      · rename_i hb
        rcases List.mem_append.1 h1 with h1 | h1
        · have := (List.mem_filter.1 h1).1
          right
          rcases List.mem_cons.1 this with h2 | h2
          · exact ⟨e, by simp, hb, .inl h2⟩
          · exact ⟨e, by simp, hb, .inr h2⟩
        · exact .inl h1
      · exact .inl h1
    · exact .inr ⟨e', by simp [h2], h3⟩

theorem ancAll_ok {ops : Array Oper} : ∀ {os : List Oper} {acc : List (List Nat)}, AncInv ops acc → (∀ (k : Nat) o, os[k]? = some o → ops[acc.length + k]? = some o) → AncInv ops (ancAll os acc)
  | [], acc, h, _ => h
  | o :: os, acc, h, hops => by
    simp only [ancAll]
    refine ancAll_ok ?_ (fun k o' ho' => by
      have := hops (k + 1) o' (by simpa using ho')
      rw [List.length_append]
      simp only [List.length_singleton]
      rw [← this]
      congr 1
      omega)
    intro i l hi j hj
    rcases append_some.1 hi with hi | ⟨rfl, rfl⟩
    · obtain ⟨k, h1, h2⟩ := h i l hi j hj
      refine ⟨k, h1, h2.imp id ?_⟩
      rintro ⟨h3, l', h4, h5⟩
      exact ⟨h3, l', append_some.2 (.inl h4), h5⟩
    · obtain ⟨e, h1, h2, h3⟩ := (anc1_mem hj).resolve_left (by simp)
      have ho := hops 0 o rfl
      refine ⟨e.on, ?_, h3.imp id ?_⟩
      · simp only [Nat.add_zero] at ho
        simp only [isAfterAt, ho, isAfter]
        rw [Array.any_eq_true']
        exact ⟨e, by simpa using h1, by simp [h2]⟩
      · intro h4
        rw [List.getD_eq_getElem?_getD] at h4
        cases hg : acc[e.on]? with
        | none => rw [hg] at h4; simp at h4
        | some l' =>
          rw [hg] at h4
          refine ⟨?_, l', append_some.2 (.inl hg), by simpa using h4⟩
          rcases Nat.lt_or_ge e.on acc.length with h5 | h5
          · exact h5
          · rw [List.getElem?_eq_none h5] at hg; cases hg

theorem aft_listed {ops : Array Oper} {listed : Array Bool} (hd : ∀ (j : Nat) o, listed.getD j false = true → ops[j]? = some o → ∀ k, isAfter o k = true → listed.getD k false = true) :
    ∀ (i j : Nat), (∀ k, isAfterAt ops i k = true → listed.getD k false = true) → aft (ancAll ops.toList []) i j = true → listed.getD j false = true := by
  have hinv : AncInv ops (ancAll ops.toList []) := ancAll_ok (fun i l hi => by simp at hi) (fun k o ho => by simpa using ho)
  intro i
  induction i using Nat.strongRecOn with
  | _ i ih =>
    intro j hi hj
    unfold aft at hj
    rw [List.getD_eq_getElem?_getD] at hj
    cases hg : (ancAll ops.toList [])[i]? with
    | none => rw [hg] at hj; simp at hj
    | some l =>
      rw [hg] at hj
      obtain ⟨k, h1, h2⟩ := hinv i l hg j (by simpa using hj)
      rcases h2 with rfl | ⟨h2, l', h3, h4⟩
      · exact hi _ h1
      · refine ih k h2 j (fun k' hk' => ?_) ?_
        · unfold isAfterAt at hk'
          split at hk'
          · rename_i o ho
            exact hd k o (hi k h1) ho k' hk'
          · cases hk'
        · unfold aft
          rw [List.getD_eq_getElem?_getD, h3]
          simpa using h4

theorem adrawL_length {E : Env} {fid : FuncId} {call : CallF} {ops : Array Oper} : ∀ {l : List Oper} {st : St} {r : List (Cls × St)}, adrawL E fid call ops l st = some r → r.length = l.length
  | [], st, r, h => by simp only [adrawL, Option.some.injEq] at h; subst h; rfl
  | o :: rest, st, r, h => by
    simp only [adrawL] at h
    split at h
    · split at h
      · rename_i h2
        cases h
        simp [adrawL_length h2]
      · cases h
    · cases h

theorem seq_exists {E : Env} {fid : FuncId} {call : CallF} {ops : Array Oper} : ∀ {l : List Oper} {st : St} {r : List (Cls × St)}, adrawL E fid call ops l st = some r →
    ∃ T : Nat → St, T 0 = st ∧ (∀ i, i ≤ l.length → (st :: r.map (·.2))[i]? = some (T i)) ∧ ∀ (i : Nat) o, l[i]? = some o → ∃ c t σ' l', adval E fid call ops o (T i) = some (c, t, σ', l') ∧ (r.map (·.1))[i]? = some c ∧ T (i + 1) = St.put { σ := σ', loc := l', tmps := (T i).tmps } o.dst t
  | [], st, r, h => by
    simp only [adrawL, Option.some.injEq] at h
    subst h
    exact ⟨fun _ => st, rfl, fun i hi => by simp at hi; subst hi; rfl, fun i o hi => by simp at hi⟩
  | o :: rest, st, r, h => by
    simp only [adrawL] at h
    split at h
    · rename_i c t σ' l' h1
      split at h
      · rename_i r' h2
        cases h
        obtain ⟨T, e1, e2, e3⟩ := seq_exists h2
        refine ⟨fun i => match i with | 0 => st | i + 1 => T i, rfl, ?_, ?_⟩
        · intro i hi
          cases i with
          | zero => rfl
          | succ i =>
            simp only [List.map_cons, List.getElem?_cons_succ]
            exact e2 i (by simp at hi; exact hi)
        · intro i o' hi
          cases i with
          | zero =>
            simp at hi
            subst hi
            exact ⟨c, t, σ', l', h1, rfl, e1⟩
          | succ i =>
            simp at hi
            simp only [List.map_cons, List.getElem?_cons_succ]
            exact e3 i o' hi
      · cases h
    · cases h

theorem put_tmps (st : St) (dst : Option Tmp) (t : TV) (s : Nat) : (st.put dst t).tmps[s]? = if dst = some s then (if s < st.tmps.length then some t else none) else st.tmps[s]? := by
  cases dst with
  | none => simp [St.put]
  | some d =>
    simp only [St.put, List.getElem?_set]
    by_cases h : d = s
    · subst h; simp
    · simp [h]

theorem put_len (st : St) (dst : Option Tmp) (t : TV) : (st.put dst t).tmps.length = st.tmps.length := by
  cases dst <;> simp [St.put]
theorem put_loc (st : St) (dst : Option Tmp) (t : TV) : (st.put dst t).loc = st.loc := by
  cases dst <;> simp [St.put]
theorem put_σ (st : St) (dst : Option Tmp) (t : TV) : (st.put dst t).σ = st.σ := by
  cases dst <;> simp [St.put]

theorem getD_lt {listed : Array Bool} {j : Nat} (h : listed.getD j false = true) : j < listed.size := by
  rcases Nat.lt_or_ge j listed.size with h' | h'
  · exact h'
  · simp [Array.getElem?_eq_none h'] at h

theorem getD_set {listed : Array Bool} {i j : Nat} (hi : i < listed.size) : (listed.setIfInBounds i true).getD j false = true ↔ (j = i ∨ listed.getD j false = true) := by
  by_cases hij : i = j
  · subst hij; simp [hi]
  · rw [getD_set_ne false hij]
    constructor
    · exact .inr
    · rintro (h | h)
      · exact absurd h.symm hij
      · exact h

/-- How far those operations are done that turn something. -/
structure Prog (mem : Nat → Bool) (n : Nat) (listed : Array Bool) (m : Nat) : Prop where
  le : m ≤ n
  it : ∀ j, mem j = true → (listed.getD j false = true ↔ j < m)
  norm : m = 0 ∨ mem (m - 1) = true

theorem Prog.stay {mem : Nat → Bool} {n m i : Nat} {listed : Array Bool} (h : Prog mem n listed m) (hi : i < listed.size) (hm : mem i = false) : Prog mem n (listed.setIfInBounds i true) m := by
  refine ⟨h.le, fun j hj => ?_, h.norm⟩
  have hji : j ≠ i := by rintro rfl; rw [hm] at hj; cases hj
  rw [getD_set_ne false (Ne.symm hji)]
  exact h.it j hj

theorem Prog.go {mem : Nat → Bool} {n m i : Nat} {listed : Array Bool} (h : Prog mem n listed m) (hi : i < listed.size) (hin : i < n) (hm : mem i = true) (hun : listed.getD i false = false)
    (hch : ∀ j, j < i → mem j = true → ∃ p, p < i ∧ j ≤ p ∧ mem p = true ∧ listed.getD p false = true) :
    m ≤ i ∧ (∀ j, m ≤ j → j < i → mem j = false) ∧ Prog mem n (listed.setIfInBounds i true) (i + 1) := by
  have hmi : m ≤ i := by
    rcases Nat.lt_or_ge i m with h1 | h1
    · have := (h.it i hm).2 h1; rw [hun] at this; cases this
    · exact h1
  have hbt : ∀ j, m ≤ j → j < i → mem j = false := by
    intro j h1 h2
    cases hc : mem j with
    | false => rfl
    | true =>
      exfalso
      obtain ⟨p, hp1, hp2, hp3, hp4⟩ := hch j h2 hc
      have := (h.it p hp3).1 hp4
      omega
  refine ⟨hmi, hbt, by omega, fun j hj => ?_, .inr (by simpa using hm)⟩
  rw [getD_set hi]
  constructor
  · rintro (rfl | h3)
    · omega
    · have := (h.it j hj).1 h3; omega
  · intro hji
    rcases Nat.lt_or_ge j i with h3 | h3
    · right
      rcases Nat.lt_or_ge j m with h4 | h4
      · exact (h.it j hj).2 h4
      · have := hbt j h4 h3; rw [hj] at this; cases this
    · left; omega

section
variable {σ0 : Store} {g0 : Gh} {w0 : World}

/-- Which slots have been written. -/
def Written (ops : Array Oper) (listed : Array Bool) (s : Nat) : Prop := ∃ j, listed.getD j false = true ∧ dstAt ops j = some s

/-- In the midst of a drawn region. -/
def Mid (E : Env) (ops : Array Oper) (cls : List Cls) (T : Nat → St) (σ0 : Store) (g0 : Gh) (w0 : World) (D : List Deferred) (listed : Array Bool) (a : Act) (w : World) : Prop :=
  listed.size = ops.size ∧ a.defers = D ∧ (∀ (j : Nat) o, listed.getD j false = true → ops[j]? = some o → ∀ k, isAfter o k = true → listed.getD k false = true) ∧
  ∃ (M : List TV) (g : Gh) (lam : List (Nat × Nat)) (m l : Nat),
    Inv σ0 g0 w0 { σ := (T m).σ, loc := (T l).loc, tmps := M } g lam w a.tmps.toList ∧ M.length = (T 0).tmps.length ∧
    (∀ s : Nat, (Written ops listed s → M[s]? = (T ops.size).tmps[s]?) ∧ (¬ Written ops listed s → M[s]? = (T 0).tmps[s]?)) ∧
    Prog (memOf Cls.σ cls) ops.size listed m ∧ Prog (memOf Cls.l cls) ops.size listed l

theorem rd_v {a b : St} {x : AV} {n : Nat} (h : a.σ = b.σ) : rd a (.v x) n = rd b (.v x) n := by
  cases x <;> simp [rd, h]
theorem rd_l {a b : St} {t : TV} {n : Nat} (ht : ∀ x, t ≠ .v x) (h : a.loc = b.loc) : rd a t n = rd b t n := by
  cases t with
  | v x => exact absurd rfl (ht x)
  | lp i off => simp [rd, h]
  | _ => simp [rd]
theorem ld_v {P : Program} {T : TypeId} {a b : St} {x : AV} (h : a.σ = b.σ) : ld P a T (.v x) = ld P b T (.v x) := by
  unfold ld
  simp only [rd_v (n := 1) h]
  split
  · split
    · rename_i n _; rw [rd_v h]
    · rfl
  · rfl
  · rfl
theorem ld_l {P : Program} {T : TypeId} {a b : St} {t : TV} (ht : ∀ x, t ≠ .v x) (h : a.loc = b.loc) : ld P a T t = ld P b T t := by
  unfold ld
  simp only [rd_l (n := 1) ht h]
  split
  · split
    · rename_i n _; rw [rd_l ht h]
    · rfl
  · rfl
  · rfl

/-- A reading's other places: it reads the same there. -/
theorem rng_ok {A : List (List Nat)} {mem : Nat → Bool} {n i m : Nat} {listed : Array Bool} (h : Prog mem n listed m) (hun : listed.getD i false = false)
    (h1 : ∀ j, aft A i j = true → listed.getD j false = true) (h2 : ∀ j, aft A j i = true → listed.getD j false = true → listed.getD i false = true) :
    m ∈ rngOf A n mem i ∨ (m ≤ i ∧ ∀ j, m ≤ j → j < i → mem j = false) := by
  by_cases hmi : m ≤ i ∧ ∀ j, m ≤ j → j < i → mem j = false
  · exact .inr hmi
  · left
    unfold rngOf
    rw [List.mem_filter]
    refine ⟨List.mem_range.2 (by have := h.le; omega), ?_⟩
    simp only [Bool.and_eq_true, Bool.or_eq_true, beq_iff_eq, Bool.not_eq_true', Bool.and_eq_false_iff, decide_eq_false_iff_not]
    refine ⟨⟨h.norm, ?_⟩, ?_⟩
    · rw [List.all_eq_true]
      intro j _
      cases hmj : mem j with
      | false => rfl
      | true =>
        simp only [Bool.not_true, Bool.false_or, Bool.and_eq_true, Bool.or_eq_true, Bool.not_eq_true', decide_eq_true_eq]
        refine ⟨?_, ?_⟩
        · cases hij : aft A i j with
          | false => exact .inl rfl
          | true => exact .inr ((h.it j hmj).1 (h1 j hij))
        · cases hij : aft A j i with
          | false => exact .inl rfl
          | true =>
            right
            rcases Nat.lt_or_ge j m with h3 | h3
            · have := h2 j hij ((h.it j hmj).2 h3)
              rw [hun] at this; cases this
            · exact h3
    · by_cases hle : m ≤ i
      · right
        cases ha : (List.range i).all fun j => decide (j < m) || !mem j with
        | false => rfl
        | true =>
          exfalso
          apply hmi
          refine ⟨hle, fun j h3 h4 => ?_⟩
          rw [List.all_eq_true] at ha
          have := ha j (List.mem_range.2 h4)
          simp only [Bool.or_eq_true, decide_eq_true_eq, Bool.not_eq_true'] at this
          rcases this with h5 | h5
          · omega
          · exact h5
      · exact .inl hle

theorem adrawR0_ok {E : Env} (hm : E.P.follows .mixedOrders = true) (hat : ∀ f k, E.at_ f = some k → AtOK E.P f k) (heq : ∀ a b, E.eqb a b = true → a = b) {call : CallF} (hcall : CallsOK E.P call) {fid : FuncId} {ops : Array Oper} {st st' : St} (he : adrawR0 E fid call ops st = some st') (id : Nat)
    {g : Gh} {lam : List (Nat × Nat)} {w : World} {a : Act} {Q : Exit → Act → World → Prop} (h : Inv σ0 g0 w0 st g lam w a.tmps.toList)
    (hQ : ∀ (a' : Act) w' g' lam', a'.defers = a.defers → Inv σ0 g0 w0 st' g' lam' w' a'.tmps.toList → Q .normal a' w') : (Code.region id ops true).wp E.P Q a w := by
  unfold adrawR0 at he
  split at he
  · rename_i r hr
    split at he
    · rename_i hchk
      obtain ⟨hchk, hlds⟩ := hchk
      obtain ⟨T, e0, eT, estep⟩ := seq_exists hr
      have hrl := adrawL_length hr
      rw [Array.length_toList] at eT
      have en : T ops.size = st' := by
        have h1 := eT ops.size (Nat.le_refl _)
        simp only [Option.some.injEq] at he
        subst he
        rw [List.getLast_eq_getElem]
        rw [List.getElem?_eq_getElem (by simp [hrl])] at h1
        simp only [Option.some.injEq] at h1
        rw [← h1]
        congr 1
        simp [hrl]
      clear he
      generalize hcls : r.map (·.1) = cls at hchk hlds estep
      generalize hTs : (st :: r.map (·.2)) = Ts at hlds eT
      have estep : ∀ (i : Nat) o, ops[i]? = some o → ∃ c t σ' l', adval E fid call ops o (T i) = some (c, t, σ', l') ∧ cls[i]? = some c ∧ T (i + 1) = St.put { σ := σ', loc := l', tmps := (T i).tmps } o.dst t := fun i o hi => estep i o (by simpa using hi)
      have hC := fun {i : Nat} {o : Oper} (hi : ops[i]? = some o) => drawChk_ok hchk hi
      -- lengths
      have hlen : ∀ i, i ≤ ops.size → (T i).tmps.length = st.tmps.length := by
        intro i
        induction i with
        | zero => intro _; rw [e0]
        | succ i ih =>
          intro hi
          obtain ⟨o, ho⟩ : ∃ o, ops[i]? = some o := ⟨ops[i], Array.getElem?_eq_getElem (by omega)⟩
          obtain ⟨c, t, σ', l', _, _, h2⟩ := estep i o ho
          rw [h2, put_len]
          exact ih (by omega)
      -- what isn't written stays
      have keep : ∀ (s i k : Nat), i ≤ k → k ≤ ops.size → (∀ j, i ≤ j → j < k → dstAt ops j ≠ some s) → (T k).tmps[s]? = (T i).tmps[s]? := by
        intro s i k hik
        induction k with
        | zero => intro _ _; have : i = 0 := by omega
                  subst this; rfl
        | succ k ih =>
          intro hk hn
          by_cases hki : i = k + 1
          · subst hki; rfl
          · obtain ⟨o, ho⟩ : ∃ o, ops[k]? = some o := ⟨ops[k], Array.getElem?_eq_getElem (by omega)⟩
            obtain ⟨c, t, σ', l', _, _, h2⟩ := estep k o ho
            rw [h2, put_tmps, if_neg, ih (by omega) (by omega) (fun j h1 h2 => hn j h1 (by omega))]
            have := hn k (by omega) (by omega)
            simpa [dstAt, ho] using this
      have sig : ∀ (i k : Nat), i ≤ k → k ≤ ops.size → (∀ j, i ≤ j → j < k → memOf Cls.σ cls j = false) → (T k).σ = (T i).σ := by
        intro i k hik
        induction k with
        | zero => intro _ _; have : i = 0 := by omega
                  subst this; rfl
        | succ k ih =>
          intro hk hn
          by_cases hki : i = k + 1
          · subst hki; rfl
          · obtain ⟨o, ho⟩ : ∃ o, ops[k]? = some o := ⟨ops[k], Array.getElem?_eq_getElem (by omega)⟩
            obtain ⟨c, t, σ', l', h1, hc, h2⟩ := estep k o ho
            have hnc : c.σ = false := by have := hn k (by omega) (by omega); simpa [memOf, hc] using this
            rw [h2, put_σ, ← ih (by omega) (by omega) (fun j h1 h2 => hn j h1 (by omega))]
            exact (adval_σ h1).1 hnc
      have sigl : ∀ (i k : Nat), i ≤ k → k ≤ ops.size → (∀ j, i ≤ j → j < k → memOf Cls.l cls j = false) → (T k).loc = (T i).loc := by
        intro i k hik
        induction k with
        | zero => intro _ _; have : i = 0 := by omega
                  subst this; rfl
        | succ k ih =>
          intro hk hn
          by_cases hki : i = k + 1
          · subst hki; rfl
          · obtain ⟨o, ho⟩ : ∃ o, ops[k]? = some o := ⟨ops[k], Array.getElem?_eq_getElem (by omega)⟩
            obtain ⟨c, t, σ', l', h1, hc, h2⟩ := estep k o ho
            have hnc : c.l = false := by have := hn k (by omega) (by omega); simpa [memOf, hc] using this
            rw [h2, put_loc, ← ih (by omega) (by omega) (fun j h1 h2 => hn j h1 (by omega))]
            exact (adval_σ h1).2 hnc
      have nowr : ∀ s, (∀ j, dstAt ops j ≠ some s) → (T ops.size).tmps[s]? = (T 0).tmps[s]? := fun s hs => keep s 0 ops.size (by omega) (Nat.le_refl _) (fun j _ _ => hs j)
      have memlt : ∀ (f : Cls → Bool) j, memOf f cls j = true → j < ops.size := by
        intro f j hj
        unfold memOf at hj
        rcases Nat.lt_or_ge j cls.length with h1 | h1
        · rw [← hcls] at h1; simp [hrl] at h1; exact h1
        · rw [List.getElem?_eq_none h1] at hj; cases hj
      -- the induction
      have main : ∀ (fuel : Nat) (listed : Array Bool) (a' : Act) (w' : World), ((List.range ops.size).countP fun j => !listed.getD j false) ≤ fuel → Mid E ops cls T σ0 g0 w0 a.defers listed a' w' → wpAny E.P .any ops Q fuel listed a' w' := by
        have done : ∀ (listed : Array Bool) (a' : Act) (w' : World), (∀ j, j < ops.size → listed.getD j false = true) → Mid E ops cls T σ0 g0 w0 a.defers listed a' w' → Q .normal a' w' := by
          rintro listed a' w' hall ⟨hsz, hdef, _, M, g', lam', m, l, hi, hml, hM, hpσ, hpl⟩
          refine hQ a' w' g' lam' hdef ?_
          have hst : st' = { σ := (T m).σ, loc := (T l).loc, tmps := M } := by
            rw [← en]
            have h1 : (T ops.size).tmps = M := by
              apply List.ext_getElem?
              intro s
              by_cases hw : Written ops listed s
              · rw [(hM s).1 hw]
              · rw [(hM s).2 hw, nowr s]
                intro j hj
                exact hw ⟨j, hall j (dstAt_lt hj), hj⟩
            have h2 : (T ops.size).loc = (T l).loc := by
              refine sigl l ops.size hpl.le (Nat.le_refl _) (fun j h1 h2 => ?_)
              cases hc : memOf Cls.l cls j with
              | false => rfl
              | true => have := (hpl.it j hc).1 (hall j h2); omega
            have h3 : (T ops.size).σ = (T m).σ := by
              refine sig m ops.size hpσ.le (Nat.le_refl _) (fun j h1 h2 => ?_)
              cases hc : memOf Cls.σ cls j with
              | false => rfl
              | true => have := (hpσ.it j hc).1 (hall j h2); omega
            rw [← h1, ← h2, ← h3]
          rw [hst]
          exact hi
        have ready_nil : ∀ (listed : Array Bool), listed.size = ops.size → Region.ready .any ops listed = [] → ∀ j, j < ops.size → listed.getD j false = true := by
          intro listed hsz hr j
          induction j using Nat.strongRecOn with
          | _ j ih =>
            intro hj
            cases hl : listed.getD j false with
            | true => rfl
            | false =>
              exfalso
              obtain ⟨o, ho⟩ : ∃ o, ops[j]? = some o := ⟨ops[j], Array.getElem?_eq_getElem hj⟩
              have hlt : listed.getD j true = false := by
                simp only [Array.getD_eq_getD_getElem?] at hl ⊢
                rw [Array.getElem?_eq_getElem (by omega)] at hl ⊢
                simpa using hl
              have : j ∈ Region.ready .any ops listed := mem_ready.2 ⟨hlt, o, ho, fun e he hb => ih e.on ((hC ho).low e he hb) (by have := (hC ho).low e he hb; omega)⟩
              rw [hr] at this
              cases this
        intro fuel
        induction fuel with
        | zero =>
          intro listed a' w' hcnt hmid
          have hall : ∀ j, j < ops.size → listed.getD j false = true := by
            intro j hj
            have h0 := List.countP_eq_zero.1 (Nat.le_zero.1 hcnt) j (List.mem_range.2 hj)
            simpa using h0
          refine ⟨?_, done listed a' w' hall hmid⟩
          cases hr : Region.ready .any ops listed with
          | nil => rfl
          | cons i l =>
            have hi : i ∈ Region.ready .any ops listed := by rw [hr]; simp
            obtain ⟨h1, o, ho, _⟩ := mem_ready.1 hi
            have hlt : i < ops.size := (Array.getElem?_eq_some_iff.1 ho).1
            have h2 := hall i hlt
            have hsz := hmid.1
            simp only [Array.getD_eq_getD_getElem?] at h1 h2
            rw [Array.getElem?_eq_getElem (by omega)] at h1 h2
            simp at h1 h2
            rw [h1] at h2; cases h2
        | succ fuel ih =>
          intro listed a' w' hcnt hmid
          refine ⟨fun hr => done listed a' w' (ready_nil listed hmid.1 hr) hmid, fun i hi => ?_⟩
          obtain ⟨hun, o, ho, hall⟩ := mem_ready.1 hi
          have hlt : i < ops.size := (Array.getElem?_eq_some_iff.1 ho).1
          obtain ⟨hsz, hdef, hdown, M, g', lam', m, l, hinv, hml, hM, hpσ, hpl⟩ := hmid
          have hunf : listed.getD i false = false := by
            simp only [Array.getD_eq_getD_getElem?] at hun ⊢
            rw [Array.getElem?_eq_getElem (by omega)] at hun ⊢
            simpa using hun
          have hafter : ∀ j, isAfter o j = true → listed.getD j false = true := by
            intro j hj
            unfold isAfter at hj
            rw [Array.any_eq_true'] at hj
            obtain ⟨e, he, hb⟩ := hj
            simp only [Bool.and_eq_true, beq_iff_eq] at hb
            have := hall e he hb.1
            rw [hb.2] at this
            exact this
          obtain ⟨c, t, σ', l', hval, hcl, hnext⟩ := estep i o ho
          have hmσ : memOf Cls.σ cls i = c.σ := by simp [memOf, hcl]
          have hmlc : memOf Cls.l cls i = c.l := by simp [memOf, hcl]
          have hops : ∀ s ∈ o.looksAt ops, M[s]? = (T i).tmps[s]? := by
            intro s hs
            by_cases hw : Written ops listed s
            · obtain ⟨j, hj, hd⟩ := hw
              rw [(hM s).1 ⟨j, hj, hd⟩]
              obtain ⟨oj, hoj⟩ : ∃ oj, ops[j]? = some oj := ⟨ops[j]'(dstAt_lt hd), Array.getElem?_eq_getElem (dstAt_lt hd)⟩
              rcases (hC ho).looks s j hs hd with ⟨h1, h2⟩ | ⟨h1, h2⟩
              · refine keep s i ops.size (by omega) (Nat.le_refl _) (fun k h3 h4 hk => ?_)
                have := (hC hoj).own k s (by simpa [dstAt, hoj] using hd) hk
                omega
              · exfalso
                have := aft_listed hdown j i (fun k hk => hdown j oj hj hoj k (by simpa only [isAfterAt, hoj] using hk)) h2
                rw [hunf] at this; cases this
            · rw [(hM s).2 hw]
              refine (keep s 0 i (by omega) (by omega) (fun k _ h4 hk => ?_)).symm
              rcases (hC ho).looks s k hs hk with ⟨h1, h2⟩ | ⟨h1, _⟩
              · exact hw ⟨k, hafter k h2, hk⟩
              · omega
          have hcnt' : ((List.range ops.size).countP fun j => !(listed.setIfInBounds i true).getD j false) ≤ fuel := by
            have key : ∀ (l : List Nat), i ∈ l → (l.countP fun j => !(listed.setIfInBounds i true).getD j false) < (l.countP fun j => !listed.getD j false) := by
              intro l
              induction l with
              | nil => intro h; cases h
              | cons x l ihl =>
                intro hx
                have mono : (l.countP fun j => !(listed.setIfInBounds i true).getD j false) ≤ (l.countP fun j => !listed.getD j false) := by
                  apply List.countP_mono_left
                  intro y _ hy
                  simp only [Bool.not_eq_true'] at hy ⊢
                  cases hq : listed.getD y false with
                  | false => rfl
                  | true => rw [(getD_set (by omega)).2 (.inr hq)] at hy; cases hy
                rw [List.countP_cons, List.countP_cons]
                by_cases hxi : x = i
                · subst hxi
                  have e1 : (listed.setIfInBounds x true).getD x false = true := (getD_set (by omega)).2 (.inl rfl)
                  rw [e1, hunf]
                  simp only [Bool.not_true, Bool.not_false, Bool.false_eq_true, if_false, if_true]
                  omega
                · have hmem : i ∈ l := by
                    rcases List.mem_cons.1 hx with h | h
                    · exact absurd h.symm hxi
                    · exact h
                  have := ihl hmem
                  have e1 : (listed.setIfInBounds i true).getD x false = listed.getD x false := getD_set_ne false (Ne.symm hxi)
                  rw [e1]
                  omega
            have := key (List.range ops.size) (List.mem_range.2 hlt)
            omega
          have hanc : ∀ j, aft (ancAll ops.toList []) i j = true → listed.getD j false = true := fun j hj => aft_listed hdown i j (fun k hk => hafter k (by simpa only [isAfterAt, ho] using hk)) hj
          -- where memory stands
          have stσ : c.σ = true → (T m).σ = (T i).σ ∧ Prog (memOf Cls.σ cls) ops.size (listed.setIfInBounds i true) (i + 1) := by
            intro hc
            obtain ⟨h1, h2, h3⟩ := hpσ.go (by omega) hlt (by rw [hmσ, hc]) hunf (fun j hj hcj => by
              obtain ⟨p, q1, q2, q3, q4⟩ := (hC ho).chainσ (by rw [hmσ, hc]) j hj hcj
              exact ⟨p, q1, q2, q3, hanc p q4⟩)
            exact ⟨(sig m i h1 (by omega) h2).symm, h3⟩
          have stl : c.l = true → (T l).loc = (T i).loc ∧ Prog (memOf Cls.l cls) ops.size (listed.setIfInBounds i true) (i + 1) := by
            intro hc
            obtain ⟨h1, h2, h3⟩ := hpl.go (by omega) hlt (by rw [hmlc, hc]) hunf (fun j hj hcj => by
              obtain ⟨p, q1, q2, q3, q4⟩ := (hC ho).chainl (by rw [hmlc, hc]) j hj hcj
              exact ⟨p, q1, q2, q3, hanc p q4⟩)
            exact ⟨(sigl l i h1 (by omega) h2).symm, h3⟩
          have hdown' : ∀ (j : Nat) o', (listed.setIfInBounds i true).getD j false = true → ops[j]? = some o' → ∀ k, isAfter o' k = true → (listed.setIfInBounds i true).getD k false = true := by
            intro j o' hj ho' k hk
            rcases (getD_set (by omega)).1 hj with rfl | hj
            · rw [ho] at ho'; cases ho'
              exact (getD_set (by omega)).2 (.inr (hafter k hk))
            · exact (getD_set (by omega)).2 (.inr (hdown j o' hj ho' k hk))
          -- a reading
          have hread : c = .load → ∀ Ty x u, o.op = .load Ty x → opd (T i) x = some u → ∀ y, ld E.P (T i) Ty u = some y → ld E.P { σ := (T m).σ, loc := (T l).loc, tmps := M } Ty u = some y := by
            rintro rfl Ty x u hop hu y hy
            unfold ldsChk at hlds
            rw [List.all_eq_true] at hlds
            have h1 := hlds i (List.mem_range.2 hlt)
            simp only [hcl] at h1
            unfold ldChk at h1
            simp only [ho, eT i (by omega), hop, hu, hy] at h1
            rw [List.all_eq_true] at h1
            have hA : ∀ j, aft (ancAll ops.toList []) i j = true → listed.getD j false = true := fun j hj => hanc j hj
            have hB : ∀ j, aft (ancAll ops.toList []) j i = true → listed.getD j false = true → listed.getD i false = true := by
              intro j hj hl
              refine aft_listed hdown j i (fun k hk => ?_) hj
              unfold isAfterAt at hk
              split at hk
              · rename_i o' ho'
                exact hdown j o' hl ho' k hk
              · cases hk
            have same : ∀ k, k ≤ ops.size → (match Ts[k]? with | some st' => (match ld E.P st' Ty u with | some y' => E.eqb y' y | none => false) | none => false) = true → ld E.P (T k) Ty u = some y := by
              intro k hk he
              simp only [eT k hk] at he
              split at he
              · rename_i y' hy'
                rw [hy', heq _ _ he]
              · cases he
            cases u with
            | v x0 =>
              rw [ld_v (a := { σ := (T m).σ, loc := (T l).loc, tmps := M }) (b := T m) rfl]
              rcases rng_ok hpσ hunf hA hB with h2 | ⟨h2, h3⟩
              · exact same m hpσ.le (h1 m h2)
              · rw [ld_v (a := T m) (b := T i) (sig m i h2 (by omega) h3).symm]
                exact hy
            | _ =>
              rw [ld_l (a := { σ := (T m).σ, loc := (T l).loc, tmps := M }) (b := T l) (fun x hx => by cases hx) rfl]
              rcases rng_ok hpl hunf hA hB with h2 | ⟨h2, h3⟩
              · exact same l hpl.le (h1 l h2)
              · rw [ld_l (a := T l) (b := T i) (fun x hx => by cases hx) (sigl l i h2 (by omega) h3).symm]
                exact hy
          -- the operation
          have step := adval_ok (σm := (T m).σ) (lm := (T l).loc) (M := M) hat hcall hinv hval (by rw [hml, hlen i (by omega), hlen 0 (by omega)]) hops (fun hc => (stσ hc).1) (fun hc => (stl hc).1) hread
            (Q := Q) (K := wpAny E.P .any ops Q fuel (listed.setIfInBounds i true))
            (fun v w2 g2 lam2 hi2 ht => by
              refine ih _ _ _ hcnt' ?_
              have hfin : Inv σ0 g0 w0 (St.put { σ := if c.σ then σ' else (T m).σ, loc := if c.l then l' else (T l).loc, tmps := M } o.dst t) g2 lam2 w2 (a'.put o.dst v).tmps.toList := hi2.put (a := a') o.dst ht
              refine ⟨by simpa using hsz, by rw [put_defers]; exact hdef, hdown', (St.put { σ := (T m).σ, loc := (T l).loc, tmps := M } o.dst t).tmps, g2, lam2, if c.σ then i + 1 else m, if c.l then i + 1 else l, ?_, by rw [put_len]; exact hml, ?_, ?_, ?_⟩
              · have q1 : (T (if c.σ then i + 1 else m)).σ = if c.σ then σ' else (T m).σ := by
                  split
                  · rw [hnext, put_σ]
                  · rfl
                have q2 : (T (if c.l then i + 1 else l)).loc = if c.l then l' else (T l).loc := by
                  split
                  · rw [hnext, put_loc]
                  · rfl
                rw [q1, q2]
                have e : (St.put { σ := if c.σ then σ' else (T m).σ, loc := if c.l then l' else (T l).loc, tmps := M } o.dst t) = { σ := if c.σ then σ' else (T m).σ, loc := if c.l then l' else (T l).loc, tmps := (St.put { σ := (T m).σ, loc := (T l).loc, tmps := M } o.dst t).tmps } := by
                  cases o.dst <;> rfl
                rw [← e]
                exact hfin
              · intro s
                rw [put_tmps]
                have hwr : Written ops (listed.setIfInBounds i true) s ↔ (o.dst = some s ∨ Written ops listed s) := by
                  constructor
                  · rintro ⟨j, h1, h2⟩
                    rcases (getD_set (by omega)).1 h1 with rfl | h1
                    · left; simpa [dstAt, ho] using h2
                    · exact .inr ⟨j, h1, h2⟩
                  · rintro (h1 | ⟨j, h1, h2⟩)
                    · exact ⟨i, (getD_set (by omega)).2 (.inl rfl), by simpa [dstAt, ho] using h1⟩
                    · exact ⟨j, (getD_set (by omega)).2 (.inr h1), h2⟩
                constructor
                · intro hw
                  by_cases hd : o.dst = some s
                  · rw [if_pos hd]
                    have h1 : (T ops.size).tmps[s]? = (T (i + 1)).tmps[s]? := by
                      refine keep s (i + 1) ops.size (by omega) (Nat.le_refl _) (fun j h1 h2 hj => ?_)
                      have := (hC ho).own j s hd hj
                      omega
                    rw [h1, hnext, put_tmps, if_pos hd]
                    have := hlen i (by omega)
                    have h0 := hlen 0 (by omega)
                    simp only
                    rw [hml, h0, this]
                  · rw [if_neg hd]
                    rcases hwr.1 hw with h1 | h1
                    · exact absurd h1 hd
                    · exact (hM s).1 h1
                · intro hw
                  have hd : ¬ o.dst = some s := fun h1 => hw (hwr.2 (.inl h1))
                  rw [if_neg hd]
                  exact (hM s).2 (fun h1 => hw (hwr.2 (.inr h1)))
              · cases hc : c.σ with
                | true => exact (stσ hc).2
                | false => exact hpσ.stay (by omega) (by rw [hmσ, hc])
              · cases hc : c.l with
                | true => exact (stl hc).2
                | false => exact hpl.stay (by omega) (by rw [hmlc, hc]))
          unfold wpOp
          simp only [ho]
          by_cases hw : Region.wanted o (yielded ops a'.tmps) = true
          · rw [if_pos hw] at step ⊢
            exact .inl step
          · rw [if_neg hw] at step ⊢
            exact step
      have hrep : ∀ j, (Array.replicate ops.size false).getD j false = false := by
        intro j
        rw [Array.getD_eq_getD_getElem?, Array.getElem?_replicate]
        split <;> rfl
      have prog0 : ∀ mem : Nat → Bool, Prog mem ops.size (Array.replicate ops.size false) 0 := fun mem => ⟨by omega, fun j _ => ⟨fun h1 => (by rw [hrep] at h1; cases h1), fun h1 => (by omega)⟩, .inl rfl⟩
      refine wp_region_any hm (main ops.size (Array.replicate ops.size false) a _ ?_ ?_)
      · have := List.countP_le_length (p := fun j => !(Array.replicate ops.size false).getD j false) (l := List.range ops.size)
        simpa using this
      · refine ⟨by simp, rfl, (fun j o hj => (by rw [hrep] at hj; cases hj)), st.tmps, g, lam, 0, 0, ?_, by rw [e0], ?_, prog0 _, prog0 _⟩
        · rw [e0]
          exact (h.same (w' := { w with drawn := w.drawn + 1 }) rfl rfl rfl rfl)
        · intro s
          refine ⟨?_, fun _ => by rw [e0]⟩
          rintro ⟨j, h1, _⟩
          rw [hrep] at h1; cases h1
    · cases he
  · cases he

theorem frzAll_ok {lam : List (Nat × Nat)} {w : World} {a : Act} : ∀ {xs : List Operand} {st : St} {g : Gh}, Inv σ0 g0 w0 st g lam w a.tmps.toList → ∃ g', Inv σ0 g0 w0 (frzAll xs st) g' lam w a.tmps.toList
  | [], st, g, h => ⟨g, h⟩
  | x :: xs, st, g, h => by
    simp only [frzAll]
    split
    · rename_i y st' h1
      obtain ⟨g1, _, i1, _⟩ := frzO_ok h h1
      exact frzAll_ok i1
    · exact frzAll_ok h

theorem prefrz_ok {lam : List (Nat × Nat)} {w : World} {a : Act} : ∀ {os : List Oper} {st : St} {g : Gh}, Inv σ0 g0 w0 st g lam w a.tmps.toList → ∃ g', Inv σ0 g0 w0 (prefrz os st) g' lam w a.tmps.toList
  | [], st, g, h => ⟨g, h⟩
  | o :: os, st, g, h => by
    simp only [prefrz]
    split
    · obtain ⟨g1, i1⟩ := frzAll_ok h
      exact prefrz_ok i1
    · exact prefrz_ok h

theorem adrawR_ok {E : Env} (hm : E.P.follows .mixedOrders = true) (hat : ∀ f k, E.at_ f = some k → AtOK E.P f k) (heq : ∀ a b, E.eqb a b = true → a = b) {call : CallF} (hcall : CallsOK E.P call) {fid : FuncId} {ops : Array Oper} {st st' : St} (he : adrawR E fid call ops st = some st') (id : Nat)
    {g : Gh} {lam : List (Nat × Nat)} {w : World} {a : Act} {Q : Exit → Act → World → Prop} (h : Inv σ0 g0 w0 st g lam w a.tmps.toList)
    (hQ : ∀ (a' : Act) w' g' lam', a'.defers = a.defers → Inv σ0 g0 w0 st' g' lam' w' a'.tmps.toList → Q .normal a' w') : (Code.region id ops true).wp E.P Q a w := by
  obtain ⟨g1, i1⟩ := prefrz_ok (os := ops.toList) h
  exact adrawR0_ok hm hat heq hcall he id i1 hQ

end
end Go.Abs
