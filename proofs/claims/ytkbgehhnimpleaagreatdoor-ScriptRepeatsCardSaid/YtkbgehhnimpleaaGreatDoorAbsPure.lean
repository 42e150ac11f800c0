/- An abstract reading of the program, and what it answers. By an AI agent. -/
import Derived.Test.YtkbgehhnimpleaaGreatDoorAbsOps
set_option linter.all false
namespace Go.Abs

/-! ### Operations on plain values -/

def pbin (op : BinOp) : Value → Value → Option Value
  | .int k a, .int k' b => match op with
    | .shl => if b < 0 then none else some (.int k (k.wrap (a * 2 ^ (min b.toNat k.bits))))
    | .shr => if b < 0 then none else some (.int k (a.fdiv (2 ^ (min b.toNat k.bits))))
    | .add => if k = k' then some (.int k (k.wrap (a + b))) else none
    | .sub => if k = k' then some (.int k (k.wrap (a - b))) else none
    | .mul => if k = k' then some (.int k (k.wrap (a * b))) else none
    | .quo => if k = k' then (if b = 0 then none else some (.int k (k.wrap (a.tdiv b)))) else none
    | .rem => if k = k' then (if b = 0 then none else some (.int k (a.tmod b))) else none
    | .and => if k = k' then some (.int k (k.wrap (BitVec.ofInt k.bits a &&& BitVec.ofInt k.bits b).toNat)) else none
    | .or => if k = k' then some (.int k (k.wrap (BitVec.ofInt k.bits a ||| BitVec.ofInt k.bits b).toNat)) else none
    | .xor => if k = k' then some (.int k (k.wrap (BitVec.ofInt k.bits a ^^^ BitVec.ofInt k.bits b).toNat)) else none
    | .andNot => if k = k' then some (.int k (k.wrap (BitVec.ofInt k.bits a &&& ~~~ BitVec.ofInt k.bits b).toNat)) else none
    | .eql => if k = k' then some (.bool (a == b)) else none
    | .neq => if k = k' then some (.bool (a != b)) else none
    | .lss => if k = k' then some (.bool (decide (a < b))) else none
    | .leq => if k = k' then some (.bool (decide (a ≤ b))) else none
    | .gtr => if k = k' then some (.bool (decide (a > b))) else none
    | .geq => if k = k' then some (.bool (decide (a ≥ b))) else none
  | .string x, .string y => match op with
    | .add => if ((x.size + y.size : Nat) : Int) > IntKind.i64.max then none else some (.string (x ++ y))
    | .eql => some (.bool (x.toList == y.toList))
    | .neq => some (.bool !(x.toList == y.toList))
    | .lss => some (.bool (Op.bytesLess x.toList y.toList))
    | .leq => some (.bool (Op.bytesLess x.toList y.toList || x.toList == y.toList))
    | .gtr => some (.bool !(Op.bytesLess x.toList y.toList || x.toList == y.toList))
    | .geq => some (.bool !(Op.bytesLess x.toList y.toList))
    | _ => none
  | _, _ => none

theorem pbin_ok {P : Program} {op : BinOp} {T : TypeId} {ox oy : Operand} {x y v : Value} (h : pbin op x y = some v) (w : World) :
    (do eqGuard op T ox oy x y; binOp op T x y : Sem Value).run P w = .ok v w := by
  cases x with
  | int k a =>
    cases y with
    | int k' b =>
      have hg : (eqGuard op T ox oy (.int k a) (.int k' b)).run P w = .ok () w := by
        unfold eqGuard
        split <;> rfl
      simp only [Sem.run_bind, hg, Result.andThen_ok]
      cases op <;> simp only [pbin] at h
      case shl =>
        split at h
        · cases h
        · rename_i hb; cases h; simp [binOp, Op.shift, hb]
      case shr =>
        split at h
        · cases h
        · rename_i hb; cases h; simp [binOp, Op.shift, hb]
      all_goals
        split at h
        · rename_i hk
          subst hk
          first
            | (cases h; simp [binOp, Op.intArith, Op.intBits, Op.intCmp]; done)
            | (split at h
               · cases h
               · rename_i hb; cases h; simp [binOp, Op.intDiv, hb])
        · cases h
    | _ => simp [pbin] at h
  | string x =>
    cases y with
    | string y =>
      have hg : (eqGuard op T ox oy (.string x) (.string y)).run P w = .ok () w := by
        unfold eqGuard
        split <;> rfl
      simp only [Sem.run_bind, hg, Result.andThen_ok]
      cases op <;> simp only [pbin] at h <;> first
        | (cases h; done)
        | (cases h; simp [binOp, Op.stringOp]; done)
        | (split at h
           · cases h
           · rename_i hb; cases h; simp only [binOp, Op.stringOp, if_neg hb]; rfl)
    | _ => simp [pbin] at h
  | _ => simp [pbin] at h

/-- A part of an aggregate. -/
def apart (P : Program) (T : TypeId) (cs : List AV) (off : Nat) : Option AV := match isAggB P T with
  | some true => match szOf P T with
    | some n => some (.agg ((cs.drop off).take n))
    | none => none
  | some false => cs[off]?
  | none => none

theorem apart_ok {P : Program} {g : Gh} {T : TypeId} {cs : List AV} {xs : Array Value} (h : VRL g cs xs.toList) {off : Nat} {y : AV} (he : apart P T cs off = some y) (w : World) :
    ∃ v, (part T xs off).run P w = .ok v w ∧ VR g y v := by
  unfold apart at he
  split at he
  · rename_i hagg
    split at he
    · rename_i n hn
      cases he
      refine ⟨.agg (xs.extract off (off + n)), by simp [part, run_isAgg hagg, run_sizeOf' hn], ?_⟩
      simp only [VR]
      refine ⟨_, rfl, ?_⟩
      have h1 := VRL_take n (VRL_drop off h)
      have h2 : (xs.extract off (off + n)).toList = (xs.toList.drop off).take n := by
        rw [Array.toList_extract, List.extract_eq_take_drop]
        rw [Nat.add_sub_cancel_left]
      rw [h2]; exact h1
    · cases he
  · rename_i hagg
    obtain ⟨v, hv, hr⟩ := VRL_get h he
    refine ⟨v, ?_, hr⟩
    have : xs[off]? = some v := by simpa using hv
    simp [part, run_isAgg hagg, this]
  · cases he

def ptrNil : AV → Option Bool
  | .sc (.pointer none) => some true
  | .ip _ => some false
  | .gp _ _ => some false
  | _ => none
def slNil : AV → Option Bool
  | .sc (.slice none _ _) => some true
  | .is _ _ _ => some false
  | .gs _ _ _ _ _ => some false
  | _ => none
def fnNil : AV → Option Bool
  | .sc .nilFunc => some true
  | .fn _ _ _ => some false
  | _ => none

theorem ptrNil_ok {g : Gh} {x : AV} {v : Value} (h : VR g x v) {b : Bool} (hb : ptrNil x = some b) : (b = true ∧ v = .pointer none) ∨ (b = false ∧ ∃ a, v = .pointer (some a)) := by
  unfold ptrNil at hb
  split at hb <;> (try simp only [VR] at h)
  · cases hb; exact .inl ⟨rfl, h⟩
  · cases hb; obtain ⟨b', off, c, T, fz, _, rfl, _⟩ := h; exact .inr ⟨rfl, _, rfl⟩
  · cases hb; obtain ⟨b', _, rfl⟩ := h; exact .inr ⟨rfl, _, rfl⟩
  · cases hb
theorem slNil_ok {g : Gh} {x : AV} {v : Value} (h : VR g x v) {b : Bool} (hb : slNil x = some b) : (b = true ∧ ∃ l c, v = .slice none l c) ∨ (b = false ∧ ∃ a l c, v = .slice (some a) l c) := by
  unfold slNil at hb
  split at hb <;> (try simp only [VR] at h)
  · cases hb; exact .inl ⟨rfl, _, _, h⟩
  · cases hb; obtain ⟨b', off, c, T, fz, cap, _, rfl, _⟩ := h; exact .inr ⟨rfl, _, _, _, rfl⟩
  · cases hb; obtain ⟨b', c, off', _, rfl, _⟩ := h; exact .inr ⟨rfl, _, _, _, rfl⟩
  · cases hb
theorem fnNil_ok {g : Gh} {x : AV} {v : Value} (h : VR g x v) {b : Bool} (hb : fnNil x = some b) : (b = true ∧ v = .nilFunc) ∨ (b = false ∧ ∃ f xs ys, v = .func f xs ys) := by
  unfold fnNil at hb
  split at hb <;> (try simp only [VR] at h)
  · cases hb; exact .inl ⟨rfl, h⟩
  · cases hb; obtain ⟨xs, ys, rfl, _⟩ := h; exact .inr ⟨rfl, _, _, _, rfl⟩
  · cases hb

def nilEq (f : AV → Option Bool) (x y : AV) : Option Bool := match f x, f y with
  | some true, some b => some b
  | some false, some true => some false
  | _, _ => none

def boolEq : AV → AV → Option Bool
  | .sc (.bool a), .sc (.bool b) => some (a == b)
  | _, _ => none
def intEq : AV → AV → Option Bool
  | .sc (.int k a), .sc (.int k' b) => if k = k' then some (a == b) else none
  | _, _ => none
def strEq : AV → AV → Option Bool
  | .sc (.string a), .sc (.string b) => some (a.toList == b.toList)
  | _, _ => none

def eqF (P : Program) (eq : TypeId → AV → AV → Option Bool) (xs ys : List AV) : List Field → Option Bool
  | [] => some true
  | f :: fs => if f.name ≠ "_" then
      match apart P f.type xs f.offset, apart P f.type ys f.offset with
      | some a, some b => match eq f.type a b with
        | some true => eqF P eq xs ys fs
        | some false => some false
        | none => none
      | _, _ => none
    else eqF P eq xs ys fs

def aggEq (f : List AV → List AV → Option Bool) : AV → AV → Option Bool
  | .agg xs, .agg ys => f xs ys
  | _, _ => none

def aeq (P : Program) : Nat → TypeId → AV → AV → Option Bool
  | 0, _, _, _ => none
  | d + 1, T, x, y => match P.underlying T with
    | some .bool => boolEq x y
    | some (.int _) => intEq x y
    | some .string => strEq x y
    | some (.pointer _) => nilEq ptrNil x y
    | some (.slice _) => nilEq slNil x y
    | some (.func _ _ _) => nilEq fnNil x y
    | some (.struct fs) => if P.stoodInHeld T then none else aggEq (fun xs ys => eqF P (aeq P d) xs ys fs.toList) x y
    | _ => none

theorem run_eqFields {P : Program} {g : Gh} {eq : TypeId → AV → AV → Option Bool} {d : Nat}
    (heq : ∀ T x y b v u (w : World), eq T x y = some b → VR g x v → VR g y u → (Op.equalIn d T v u).run P w = .ok b w)
    {xs ys : List AV} {vs us : Array Value} (hx : VRL g xs vs.toList) (hy : VRL g ys us.toList) :
    ∀ (fs : List Field) (b : Bool) (w : World), eqF P eq xs ys fs = some b → (Op.eqFields d vs us fs).run P w = .ok b w
  | [], b, w, h => by simp [eqF] at h; subst h; simp [Op.eqFields]
  | f :: fs, b, w, h => by
    simp only [eqF] at h
    simp only [Op.eqFields]
    split at h
    · rename_i hn
      rw [if_pos hn]
      split at h
      · rename_i x1 x2 h1 h2
        obtain ⟨v1, r1, e1⟩ := apart_ok hx h1 w
        obtain ⟨v2, r2, e2⟩ := apart_ok hy h2 w
        split at h
        · rename_i h3
          simp only [Sem.run_bind, r1, r2, Result.andThen_ok, heq _ _ _ _ _ _ w h3 e1 e2, Bool.not_true, Bool.false_eq_true, if_false]
          exact run_eqFields heq hx hy fs b w h
        · rename_i h3
          cases h
          simp [r1, r2, heq _ _ _ _ _ _ w h3 e1 e2]
        · cases h
      · cases h
    · rename_i hn
      rw [if_neg hn]
      exact run_eqFields heq hx hy fs b w h

theorem aeq_ok {P : Program} {g : Gh} : ∀ (d D : Nat), d ≤ D → ∀ (T : TypeId) (x y : AV) (b : Bool) (v u : Value) (w : World), aeq P d T x y = some b → VR g x v → VR g y u →
    (Op.equalIn D T v u).run P w = .ok b w
  | 0, _, _, _, _, _, _, _, _, _, h, _, _ => by simp [aeq] at h
  | d + 1, D, hD, T, x, y, b, v, u, w, h, hx, hy => by
    obtain ⟨D, rfl⟩ : ∃ E, D = E + 1 := ⟨D - 1, by omega⟩
    simp only [aeq] at h
    split at h
    · rename_i hu
      unfold boolEq at h
      split at h
      · simp only [VR] at hx hy; subst hx hy; cases h
        simp [Op.equalIn, run_underlying hu]
      · cases h
    · rename_i hu
      unfold intEq at h
      split at h
      · simp only [VR] at hx hy; subst hx hy
        split at h
        · rename_i hk; subst hk; cases h
          simp [Op.equalIn, run_underlying hu]
        · cases h
      · cases h
    · rename_i hu
      unfold strEq at h
      split at h
      · simp only [VR] at hx hy; subst hx hy; cases h
        exact run_equalIn_string w D T _ _ hu
      · cases h
    · rename_i hu
      unfold nilEq at h
      split at h
      · rename_i h1 h2
        rcases ptrNil_ok hx h1 with ⟨_, rfl⟩ | ⟨h3, _⟩
        · cases h
          rcases ptrNil_ok hy h2 with ⟨rfl, rfl⟩ | ⟨rfl, a, rfl⟩ <;> simp [Op.equalIn, run_underlying hu]
        · cases h3
      · rename_i h1 h2
        rcases ptrNil_ok hx h1 with ⟨h3, _⟩ | ⟨_, a, rfl⟩
        · cases h3
        · cases h
          rcases ptrNil_ok hy h2 with ⟨_, rfl⟩ | ⟨h3, _⟩
          · simp [Op.equalIn, run_underlying hu]
          · cases h3
      · cases h
    · rename_i hu
      unfold nilEq at h
      split at h
      · rename_i h1 h2
        rcases slNil_ok hx h1 with ⟨_, l, c, rfl⟩ | ⟨h3, _⟩
        · cases h
          rcases slNil_ok hy h2 with ⟨rfl, l', c', rfl⟩ | ⟨rfl, a, l', c', rfl⟩ <;> simp [Op.equalIn, run_underlying hu]
        · cases h3
      · rename_i h1 h2
        rcases slNil_ok hx h1 with ⟨h3, _⟩ | ⟨_, a, l, c, rfl⟩
        · cases h3
        · cases h
          rcases slNil_ok hy h2 with ⟨_, l', c', rfl⟩ | ⟨h3, _⟩
          · simp [Op.equalIn, run_underlying hu]
          · cases h3
      · cases h
    · rename_i hu
      unfold nilEq at h
      split at h
      · rename_i h1 h2
        rcases fnNil_ok hx h1 with ⟨_, rfl⟩ | ⟨h3, _⟩
        · cases h
          rcases fnNil_ok hy h2 with ⟨rfl, rfl⟩ | ⟨rfl, f, xs, ys, rfl⟩ <;> simp [Op.equalIn, run_underlying hu]
        · cases h3
      · rename_i h1 h2
        rcases fnNil_ok hx h1 with ⟨h3, _⟩ | ⟨_, f, xs, ys, rfl⟩
        · cases h3
        · cases h
          rcases fnNil_ok hy h2 with ⟨_, rfl⟩ | ⟨h3, _⟩
          · simp [Op.equalIn, run_underlying hu]
          · cases h3
      · cases h
    · rename_i fs hu
      split at h
      · cases h
      · rename_i hst
        unfold aggEq at h
        split at h
        · rename_i xs ys
          simp only [VR] at hx hy
          obtain ⟨vs, rfl, h1⟩ := hx
          obtain ⟨us, rfl, h2⟩ := hy
          have hf : P.fieldsOf T = fs := by simp [Program.fieldsOf, hu]
          rw [run_equalIn_struct w D T vs us (by rw [hf]; exact hu) (by simpa using hst), hf]
          exact run_eqFields (fun T x y b v u w h hx hy => aeq_ok d D (by omega) T x y b v u w h hx hy) h1 h2 fs.toList b w h
        · cases h
    · cases h

/-- '==' and '!=' on what is no number and no text. -/
def eqKind (P : Program) (T : TypeId) : AV → Bool
  | .agg _ => !P.eqGuardType P.depth T
  | .ip _ => true
  | .gp _ _ => true
  | .is _ _ _ => true
  | .gs _ _ _ _ _ => true
  | .fn _ _ _ => true
  | .sc (.bool _) => true
  | .sc (.pointer none) => true
  | .sc (.slice none _ _) => true
  | .sc .nilFunc => true
  | _ => false

def aeqOp (P : Program) (op : BinOp) (T : TypeId) (x y : AV) : Option AV :=
  if eqKind P T x = true then match op, aeq P 20 T x y with
    | .eql, some b => some (.sc (.bool b))
    | .neq, some b => some (.sc (.bool (!b)))
    | _, _ => none
  else none

theorem eqKind_ok {P : Program} {g : Gh} {T : TypeId} {x : AV} {v : Value} (h : eqKind P T x = true) (hx : VR g x v) (op : BinOp) (ox oy : Operand) (u : Value) (w : World) :
    (eqGuard op T ox oy v u).run P w = .ok () w ∧ binOp .eql T v u = (do pure (.bool (← Op.equal T v u))) ∧ binOp .neq T v u = (do pure (.bool (!(← Op.equal T v u)))) := by
  have plain : ∀ v : Value, v ≠ .nilIface → (∀ xs, v ≠ .agg xs) → (eqGuard op T ox oy v u).run P w = .ok () w := by
    intro v h1 h2
    cases op <;> first
      | rfl
      | (cases v <;> first
          | exact absurd rfl h1
          | exact absurd rfl (h2 _)
          | rfl)
  cases x with
  | agg cs =>
    simp only [VR] at hx
    obtain ⟨xs, rfl, _⟩ := hx
    simp only [eqKind, Bool.not_eq_true'] at h
    refine ⟨?_, by cases u <;> rfl, by cases u <;> rfl⟩
    cases op <;> first
      | rfl
      | (cases u <;> first
          | rfl
          | simp [eqGuard, h])
  | ip cs =>
    simp only [VR] at hx; obtain ⟨b', off, c, T', fz, _, rfl, _⟩ := hx
    exact ⟨plain _ (by simp) (by simp), by cases u <;> rfl, by cases u <;> rfl⟩
  | gp id off =>
    simp only [VR] at hx; obtain ⟨b', _, rfl⟩ := hx
    exact ⟨plain _ (by simp) (by simp), by cases u <;> rfl, by cases u <;> rfl⟩
  | «is» cs len ex =>
    simp only [VR] at hx; obtain ⟨b', off, c, T', fz, cap, _, rfl, _⟩ := hx
    exact ⟨plain _ (by simp) (by simp), by cases u <;> rfl, by cases u <;> rfl⟩
  | gs id off len sz cap =>
    simp only [VR] at hx; obtain ⟨b', c, off', _, rfl, _⟩ := hx
    exact ⟨plain _ (by simp) (by simp), by cases u <;> rfl, by cases u <;> rfl⟩
  | fn f a b =>
    simp only [VR] at hx; obtain ⟨xs, ys, rfl, _⟩ := hx
    exact ⟨plain _ (by simp) (by simp), by cases u <;> rfl, by cases u <;> rfl⟩
  | tup cs => simp [eqKind] at h
  | sc v0 =>
    have : v = v0 := by simpa [VR] using hx
    subst this
    cases v with
    | bool b => exact ⟨plain _ (by simp) (by simp), by cases u <;> rfl, by cases u <;> rfl⟩
    | nilFunc => exact ⟨plain _ (by simp) (by simp), by cases u <;> rfl, by cases u <;> rfl⟩
    | pointer a => cases a with
      | none => exact ⟨plain _ (by simp) (by simp), by cases u <;> rfl, by cases u <;> rfl⟩
      | some a => simp [eqKind] at h
    | slice a l c => cases a with
      | none => exact ⟨plain _ (by simp) (by simp), by cases u <;> rfl, by cases u <;> rfl⟩
      | some a => simp [eqKind] at h
    | _ => simp [eqKind] at h

theorem aeqOp_ok {P : Program} {g : Gh} {op : BinOp} {T : TypeId} {ox oy : Operand} {x y r : AV} {v u : Value} (h : aeqOp P op T x y = some r) (hx : VR g x v) (hy : VR g y u) (w : World) :
    ∃ z, (do eqGuard op T ox oy v u; binOp op T v u : Sem Value).run P w = .ok z w ∧ VR g r z := by
  unfold aeqOp at h
  split at h
  · rename_i hk
    obtain ⟨h1, h2, h3⟩ := eqKind_ok hk hx op ox oy u w
    split at h
    · rename_i b hb
      cases h
      have := aeq_ok 20 Op.maxDepth (by decide) T x y b v u w hb hx hy
      exact ⟨.bool b, by simp [h1, h2, Op.equal, this], by simp [VR]⟩
    · rename_i b hb
      cases h
      have := aeq_ok 20 Op.maxDepth (by decide) T x y b v u w hb hx hy
      exact ⟨.bool (!b), by simp [h1, h3, Op.equal, this], by simp [VR]⟩
    · cases h
  · cases h

/-- A binary operation. -/
def abin (P : Program) (op : BinOp) (T : TypeId) : AV → AV → Option AV
  | .sc (.int k a), .sc (.int k' b) => (pbin op (.int k a) (.int k' b)).map .sc
  | .sc (.string a), .sc (.string b) => (pbin op (.string a) (.string b)).map .sc
  | x, y => aeqOp P op T x y

theorem abin_ok {P : Program} {g : Gh} {op : BinOp} {T : TypeId} {ox oy : Operand} {x y r : AV} {v u : Value} (h : abin P op T x y = some r) (hx : VR g x v) (hy : VR g y u) (w : World) :
    ∃ z, (do eqGuard op T ox oy v u; binOp op T v u : Sem Value).run P w = .ok z w ∧ VR g r z := by
  unfold abin at h
  split at h
  · simp only [VR] at hx hy; subst hx hy
    simp only [Option.map_eq_some_iff] at h
    obtain ⟨z, hz, rfl⟩ := h
    exact ⟨z, pbin_ok hz w, by simp [VR]⟩
  · simp only [VR] at hx hy; subst hx hy
    simp only [Option.map_eq_some_iff] at h
    obtain ⟨z, hz, rfl⟩ := h
    exact ⟨z, pbin_ok hz w, by simp [VR]⟩
  · exact aeqOp_ok h hx hy w

/-- A unary operation. -/
def aun (op : UnOp) : AV → Option AV
  | .sc (.bool b) => match op with
    | .not => some (.sc (.bool (!b)))
    | _ => none
  | .sc (.int k n) => match op with
    | .neg => some (.sc (.int k (k.wrap (0 - n))))
    | .xor => some (.sc (.int k (k.wrap (BitVec.ofInt k.bits (if k.signed then -1 else k.max) ^^^ BitVec.ofInt k.bits n).toNat)))
    | _ => none
  | _ => none

theorem aun_ok {P : Program} {g : Gh} {op : UnOp} {x r : AV} {v : Value} (h : aun op x = some r) (hx : VR g x v) (w : World) : ∃ z, (Op.unary op v).run P w = .ok z w ∧ VR g r z := by
  unfold aun at h
  split at h
  · simp only [VR] at hx; subst hx
    split at h
    · cases h; exact ⟨_, by simp [Op.unary]; rfl, by simp [VR]⟩
    · cases h
  · simp only [VR] at hx; subst hx
    split at h
    · cases h; exact ⟨_, by simp [Op.unary, Op.intArith]; rfl, by simp [VR]⟩
    · cases h; exact ⟨_, by simp only [Op.unary, Op.intBits]; rfl, by simp [VR]⟩
    · cases h
  · cases h

/-- A conversion between whole numbers. -/
def acvt (P : Program) (src dst : TypeId) : AV → Option AV
  | .sc (.int _ n) => match P.underlying src, P.underlying dst with
    | some _, some (.int k) => some (.sc (.int k (k.wrap n)))
    | _, _ => none
  | _ => none

theorem acvt_ok {P : Program} {g : Gh} {src dst : TypeId} {x r : AV} {v : Value} (h : acvt P src dst x = some r) (hx : VR g x v) (w : World) : ∃ z, (convert src dst v).run P w = .ok z w ∧ VR g r z := by
  unfold acvt at h
  split at h
  · rename_i k0 n0
    simp only [VR] at hx; subst hx
    split at h
    · rename_i d k hs hd
      cases h
      refine ⟨.int k (k.wrap n0), ?_, by simp only [VR]⟩
      simp only [convert, Sem.run_bind, run_underlying hs, run_underlying hd, Result.andThen_ok]
      cases d <;> rfl
    · cases h
  · cases h

end Go.Abs
