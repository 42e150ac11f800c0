/- An abstract reading of the program, and what it answers. By an AI agent. -/
import Derived.Test.YtkbgehhnimpleaaGreatDoorAbsApp
import Derived.Laws.LoneSync
set_option linter.all false
namespace Go.Abs

/-! ### sync/atomic -/

inductive AtK where
  | load (k : IntKind)
  | store
  | add (k : IntKind)
  | cas (k : IntKind)
  | swap (k : IntKind)
  deriving DecidableEq

def AtK.sem : AtK → Array Value → Sem Value
  | .load k => Extern.Atomic.loadT (.int k)
  | .store => Extern.Atomic.storeT
  | .add k => Extern.Atomic.update (Op.intArith .add) k true
  | .cas k => Extern.Atomic.casT (.int k)
  | .swap k => Extern.Atomic.swapT (.int k)

/-- Function f is that one of package sync/atomic. -/
structure AtOK (P : Program) (f : FuncId) (a : AtK) : Prop where
  it : ∃ fn, P.funcs[f]? = some fn ∧ (fn.name == "runtime.NumGoroutine") = false ∧ fn.body.isNone = true ∧ Extern.findNext fn = none ∧ Extern.find fn = some a.sem

/-- What an operation of sync/atomic does. -/
def aatom (st : St) : AtK → List AV → Option (AV × St)
  | .load k, [p] => match rd st (.v p) 1 with
    | some [.sc (.int k' n)] => if k' = k then some (.sc (.int k n), st) else none
    | _ => none
  | .store, [p, x] => match rd st (.v p) 1 with
    | some [_] => (wr st (.v p) [x]).map fun st' => (.tup [], st')
    | _ => none
  | .add k, [p, .sc (.int _ d)] => match rd st (.v p) 1 with
    | some [.sc (.int k' n)] => if k' = k then (wr st (.v p) [.sc (.int k (k.wrap (n + d)))]).map fun st' => (.sc (.int k (k.wrap (n + d))), st') else none
    | _ => none
  | .cas k, [.gp id off, .sc (.int _ x), .sc (.int k2 y)] => match rd st (.v (.gp id off)) 1 with
    | some [.sc (.int k' n)] => if k' = k then (if n = x then (wr st (.v (.gp id off)) [.sc (.int k2 y)]).map fun st' => (.sc (.bool true), st') else some (.sc (.bool false), st)) else none
    | _ => none
  | .swap k, [p, .sc (.int k2 y)] => match rd st (.v p) 1 with
    | some [.sc (.int k' n)] => if k' = k then (wr st (.v p) [.sc (.int k2 y)]).map fun st' => (.sc (.int k n), st') else none
    | _ => none
  | _, _ => none

section
variable {σ0 : Store} {g0 : Gh} {w0 : World} {st : St} {g : Gh} {lam : List (Nat × Nat)} {w : World} {tm : List Value}

theorem rd1_ok (h : Inv σ0 g0 w0 st g lam w tm) {p x : AV} {v : Value} (hp : VR g p v) (he : rd st (.v p) 1 = some [x]) :
    ∃ b off u, v = .pointer (some ⟨b, off, none⟩) ∧ w.cell? ⟨b, off, none⟩ = some u ∧ VR g x u := by
  obtain ⟨b, off, vs, rfl, h1, h2, h3⟩ := rd_ok h (t := .v p) hp he
  match vs, h2, h1, h3 with
  | [u], _, h1, h3 =>
    have := h3 0 u rfl
    exact ⟨b, off, u, rfl, by simpa using this, (VRL_cons.1 h1).1⟩

theorem wr1_ok {P : Program} (h : Inv σ0 g0 w0 st g lam w tm) {p x : AV} {b off : Nat} {u u0 : Value} (hp : VR g p (.pointer (some ⟨b, off, none⟩))) (hx : VR g x u) {st' : St} (he : wr st (.v p) [x] = some st') (hc : w.cell? ⟨b, off, none⟩ = some u0) :
    ∃ w', (∀ m, (store ⟨b, off, none⟩ u m).run P w = .ok () w') ∧ Inv σ0 g0 w0 st' g lam w' tm ∧ w.frozen? ⟨b, off, none⟩ = false := by
  obtain ⟨addr, w', e, hrun, hinv⟩ := wr_ok (P := P) h (t := .v p) hp (VRL_cons.2 ⟨hx, VRL_nil⟩) he
  cases e
  have hcell : cellOk x = true := by
    cases p with
    | gp id off =>
      simp only [wr] at he
      split at he
      · simp only [Option.map_eq_some_iff] at he
        obtain ⟨cs', hs, _⟩ := he
        unfold splice at hs
        split at hs
        · rename_i hh; simpa using hh.2
        · cases hs
      · cases he
    | _ => simp [wr] at he
  have h1 := VR_oneCell hx hcell
  simp only [storeCells, Sem.run_bind] at hrun
  have e0 : (⟨b, off, none⟩ : Addr).add 0 = ⟨b, off, none⟩ := by simp [Addr.add]
  rw [e0, run_store P w _ u .plain h1, hc] at hrun
  have hfz : w.frozen? ⟨b, off, none⟩ = false := by
    cases hf : w.frozen? ⟨b, off, none⟩ with
    | false => rfl
    | true => rw [hf] at hrun; simp [Result.andThen] at hrun
  refine ⟨w', fun m => ?_, hinv, hfz⟩
  rw [hfz] at hrun
  simp at hrun
  rw [run_store P w _ u m h1, hc]
  simp [hfz, hrun]

theorem VRL1 {g : Gh} {a : AV} {vs : List Value} (h : VRL g [a] vs) : ∃ v, vs = [v] ∧ VR g a v := by
  simp only [VRL] at h
  obtain ⟨v, vs', rfl, h1, rfl⟩ := h
  exact ⟨v, rfl, h1⟩
theorem VRL2 {g : Gh} {a b : AV} {vs : List Value} (h : VRL g [a, b] vs) : ∃ v u, vs = [v, u] ∧ VR g a v ∧ VR g b u := by
  simp only [VRL] at h
  obtain ⟨v, vs', rfl, h1, u, vs'', rfl, h2, rfl⟩ := h
  exact ⟨v, u, rfl, h1, h2⟩
theorem VRL3 {g : Gh} {a b c : AV} {vs : List Value} (h : VRL g [a, b, c] vs) : ∃ v u x, vs = [v, u, x] ∧ VR g a v ∧ VR g b u ∧ VR g c x := by
  simp only [VRL] at h
  obtain ⟨v, vs', rfl, h1, u, vs'', rfl, h2, x, vs3, rfl, h3, rfl⟩ := h
  exact ⟨v, u, x, rfl, h1, h2, h3⟩

theorem gp_free (h : Inv σ0 g0 w0 st g lam w tm) {id off : Nat} {x : AV} {v : Value} (hp : VR g (.gp id off) v) (he : rd st (.v (.gp id off)) 1 = some [x]) :
    ∃ a, v = .pointer (some a) ∧ w.frozen? a = false := by
  simp only [VR] at hp
  obtain ⟨p, h1, rfl⟩ := hp
  simp only [rd] at he
  split at he
  · rename_i cs hcs
    obtain ⟨⟨c, T, h2, _⟩, _⟩ := h.wr.obj id cs p hcs h1
    exact ⟨_, rfl, by simp [World.frozen?, h2]⟩
  · cases he

theorem aatom_ok {P : Program} (h : Inv σ0 g0 w0 st g lam w tm) {a : AtK} {args : List AV} {r : AV} {st' : St} (he : aatom st a args = some (r, st')) {vs : List Value} (hv : VRL g args vs) :
    ∃ u w', (a.sem vs.toArray).run P w = .ok u w' ∧ Inv σ0 g0 w0 st' g lam w' tm ∧ VR g r u := by
  unfold aatom at he
  split at he
  · -- load
    rename_i k p
    obtain ⟨v, rfl, hp⟩ := VRL1 hv
    split at he
    · rename_i k' n hr
      obtain ⟨b, off, u, rfl, hc, hu⟩ := rd1_ok h hp hr
      simp only [VR] at hu; subst hu
      split at he
      · rename_i hk; subst hk
        simp only [Option.some.injEq, Prod.mk.injEq] at he
        obtain ⟨rfl, rfl⟩ := he
        refine ⟨.int k' n, w, ?_, h, by simp only [VR]⟩
        change (Sem.run P (do Extern.Atomic.read (.int k') (← asAddr (.pointer (some ⟨b, off, none⟩)))) w) = _
        simp [asAddr, Extern.Atomic.read, hc]
      · cases he
    · cases he
  · -- store
    rename_i p x
    obtain ⟨v, u, rfl, hp, hx⟩ := VRL2 hv
    split at he
    · rename_i x0 hr
      obtain ⟨b, off, u0, rfl, hc, _⟩ := rd1_ok h hp hr
      simp only [Option.map_eq_some_iff, Prod.mk.injEq] at he
      obtain ⟨st1, hw, rfl, rfl⟩ := he
      obtain ⟨w', hst, hinv, _⟩ := wr1_ok (P := P) h hp hx hw hc
      refine ⟨.tuple #[], w', ?_, hinv, by simp only [VR]; exact ⟨#[], rfl, VRL_nil⟩⟩
      change (Sem.run P (do store (← asAddr (.pointer (some ⟨b, off, none⟩))) u .atomic; pure Extern.Atomic.none_) w) = _
      simp [asAddr, hst, Extern.Atomic.none_]
    · cases he
  · -- add
    rename_i k p k0 d
    obtain ⟨v, u, rfl, hp, hx⟩ := VRL2 hv
    simp only [VR] at hx; subst hx
    split at he
    · rename_i k' n hr
      obtain ⟨b, off, u0, rfl, hc, hu⟩ := rd1_ok h hp hr
      simp only [VR] at hu; subst hu
      split at he
      · rename_i hk; subst hk
        simp only [Option.map_eq_some_iff, Prod.mk.injEq] at he
        obtain ⟨st1, hw, rfl, rfl⟩ := he
        obtain ⟨w', hst, hinv, _⟩ := wr1_ok (P := P) h hp (u := .int k' (k'.wrap (n + d))) (by simp only [VR]) hw hc
        refine ⟨.int k' (k'.wrap (n + d)), w', ?_, hinv, by simp only [VR]⟩
        change (Sem.run P (do
          let a ← asAddr (.pointer (some ⟨b, off, none⟩))
          let old ← Extern.Atomic.read (.int k') a
          let new ← Op.intArith .add k' (← asInt old) (← asInt (.int k0 d))
          store a new .atomic
          pure (if true then new else old)) w) = _
        simp [asAddr, Extern.Atomic.read, hc, asInt, asIntOf, Op.intArith, hst]
      · cases he
    · cases he
  · -- cas
    rename_i k id off k1 x k2 y
    obtain ⟨v, u1, u2, rfl, hp, hx, hy0⟩ := VRL3 hv
    simp only [VR] at hx; subst hx
    have hy := hy0
    simp only [VR] at hy; subst hy
    split at he
    · rename_i k' n hr
      obtain ⟨a0, e0, hfz⟩ := gp_free h hp hr
      obtain ⟨b, off', u0, rfl, hc, hu⟩ := rd1_ok h hp hr
      cases e0
      simp only [VR] at hu; subst hu
      have run : (Sem.run P (AtK.sem (.cas k') [.pointer (some ⟨b, off', none⟩), .int k1 x, .int k2 y].toArray) w) =
          (Sem.run P (do
            let a ← asAddr (.pointer (some ⟨b, off', none⟩))
            if ← Extern.Atomic.touchesFrozen a then unsupported (.unsafePointer "a write to bytes that a string shares")
            let eq ← match Extern.Atomic.T.int k', ← Extern.Atomic.read (.int k') a, Value.int k1 x with
              | _, .int _ x, .int _ y => pure (x == y)
              | .ptr, .pointer x, .pointer y => samePointer x y
              | .int _, .pointer (some _), .int _ 0 | .int _, .int _ 0, .pointer (some _) => pure false
              | .int _, .pointer (some _), _ | .int _, _, .pointer (some _) => unsupported .addressObserved
              | _, _, _ => stuck "atomic.CompareAndSwap: old is no T"
            if eq then store a (.int k2 y) .atomic
            pure (Value.bool eq)) w) := rfl
      split at he
      · rename_i hk; subst hk
        split at he
        · rename_i hn; subst hn
          simp only [Option.map_eq_some_iff, Prod.mk.injEq] at he
          obtain ⟨st1, hw, rfl, rfl⟩ := he
          obtain ⟨w', hst, hinv, _⟩ := wr1_ok (P := P) h hp hy0 hw hc
          refine ⟨.bool true, w', ?_, hinv, by simp only [VR]⟩
          rw [run]
          simp [Extern.Atomic.touchesFrozen, Extern.Atomic.read, asAddr, viewAt, World.shape?_isSome_of_cell? hc, hc, hfz, hst, Result.andThen]
        · rename_i hn
          simp only [Option.some.injEq, Prod.mk.injEq] at he
          obtain ⟨rfl, rfl⟩ := he
          refine ⟨.bool false, w, ?_, h, by simp only [VR]⟩
          rw [run]
          simp [Extern.Atomic.touchesFrozen, Extern.Atomic.read, asAddr, viewAt, World.shape?_isSome_of_cell? hc, hc, hfz, hn, Result.andThen]
      · cases he
    · cases he
  · -- swap
    rename_i k p k2 y
    obtain ⟨v, u, rfl, hp, hx⟩ := VRL2 hv
    split at he
    · rename_i k' n hr
      obtain ⟨b, off, u0, rfl, hc, hu⟩ := rd1_ok h hp hr
      simp only [VR] at hu; subst hu
      split at he
      · rename_i hk; subst hk
        simp only [Option.map_eq_some_iff, Prod.mk.injEq] at he
        obtain ⟨st1, hw, rfl, rfl⟩ := he
        obtain ⟨w', hst, hinv, _⟩ := wr1_ok (P := P) h hp hx hw hc
        simp only [VR] at hx; subst hx
        refine ⟨.int k' n, w', ?_, hinv, by simp only [VR]⟩
        change (Sem.run P (do
          let a ← asAddr (.pointer (some ⟨b, off, none⟩))
          let old ← Extern.Atomic.read (.int k') a
          store a (.int k2 y) .atomic
          pure old) w) = _
        simp [asAddr, Extern.Atomic.read, hc, hst]
      · cases he
    · cases he
  · cases he

/-! ### Built-in functions -/

def sliceLen : TV → Option Nat
  | .v (.sc (.slice _ n _)) => some n
  | .v (.is _ len _) => some len
  | .v (.gs _ _ len _ _) => some len
  | .ls _ _ len _ _ => some len
  | _ => none

theorem sliceLen_ok {t : TV} {n : Nat} (he : sliceLen t = some n) {v : Value} (ht : TVR g lam t v) : ∃ a c, v = .slice a n c := by
  unfold sliceLen at he
  split at he
  · cases he; simp only [TVR, VR] at ht; exact ⟨_, _, ht⟩
  · cases he; simp only [TVR, VR] at ht; obtain ⟨b, off, c, T', fz, cap, _, rfl, _⟩ := ht; exact ⟨_, _, rfl⟩
  · cases he; simp only [TVR, VR] at ht; obtain ⟨p, c, off', _, rfl, _⟩ := ht; exact ⟨_, _, rfl⟩
  · cases he; simp only [TVR] at ht; obtain ⟨p, c, off', _, rfl, _⟩ := ht; exact ⟨_, _, rfl⟩
  · cases he

def alen (P : Program) (T : TypeId) (t : TV) : Option Int := match P.underlying T with
  | some .string => match t with
    | .v (.sc (.string s)) => some s.size
    | _ => none
  | some (.array n _) => some n
  | some (.slice _) => match sliceLen t with
    | some n => some (n : Int)
    | none => none
  | _ => none

theorem alen_ok {P : Program} {T : TypeId} {t : TV} {n : Int} (he : alen P T t = some n) {v : Value} (ht : TVR g lam t v) (tt : TypeId) (w : World) :
    (Builtin.len_ #[T] tt #[v]).run P w = .ok (.int .i64 n) w := by
  unfold alen at he
  split at he
  · rename_i hu
    split at he
    · cases he; simp only [TVR, VR] at ht; subst ht
      simp [Builtin.len_, run_underlying hu, goInt]
    · cases he
  · rename_i k e hu
    cases he
    simp [Builtin.len_, run_underlying hu, goInt]
  · rename_i e hu
    split at he
    · rename_i m hm
      cases he
      obtain ⟨a, c, rfl⟩ := sliceLen_ok hm ht
      simp [Builtin.len_, run_underlying hu, goInt]
    · cases he
  · cases he

def amm2 (mx : Bool) : AV → AV → Option AV
  | .sc (.int k x), .sc (.int _ y) => some (.sc (.int k (if mx then (if y > x then y else x) else (if y < x then y else x))))
  | _, _ => none

def ammF (mx : Bool) : AV → List AV → Option AV
  | x, [] => some x
  | x, y :: rest => match amm2 mx x y with
    | some z => ammF mx z rest
    | none => none

def amm (mx : Bool) : List AV → Option AV
  | [] => none
  | x :: rest => ammF mx x rest

theorem ammF_ok {P : Program} {mx : Bool} : ∀ {rest : List AV} {x r : AV} {v : Value} {vs : List Value}, ammF mx x rest = some r → VR g x v → VRL g rest vs → ∀ w : World,
    ∃ u, (vs.foldlM (if mx then Builtin.max2 else Builtin.min2) v).run P w = .ok u w ∧ VR g r u
  | [], x, r, v, vs, he, hx, hv, w => by
    simp only [ammF, Option.some.injEq] at he; subst he
    simp only [VRL] at hv; subst hv
    exact ⟨v, by simp, hx⟩
  | y :: rest, x, r, v, vs, he, hx, hv, w => by
    simp only [ammF] at he
    split at he
    · rename_i z hz
      simp only [VRL] at hv
      obtain ⟨u, vs', rfl, h1, h2⟩ := hv
      unfold amm2 at hz
      split at hz
      · rename_i k x k' y
        cases hz
        simp only [VR] at hx h1; subst hx h1
        obtain ⟨u, hu, hr⟩ := ammF_ok (P := P) he (v := .int k (if mx then (if y > x then y else x) else (if y < x then y else x))) (by simp only [VR]) h2 w
        refine ⟨u, ?_, hr⟩
        rw [List.foldlM_cons]
        cases mx
        · simp only [Bool.false_eq_true, if_false] at hu ⊢
          simp only [Builtin.min2, Sem.run_bind, Sem.run_pure, Result.andThen_ok]
          exact hu
        · simp only [if_true] at hu ⊢
          simp only [Builtin.max2, Sem.run_bind, Sem.run_pure, Result.andThen_ok]
          exact hu
      · cases hz
    · cases he

theorem amm_ok {P : Program} {mx : Bool} {as : List AV} {r : AV} {vs : List Value} (he : amm mx as = some r) (hv : VRL g as vs) (ts : Array TypeId) (tt : TypeId) (w : World) :
    ∃ u, ((if mx then Builtin.max_ else Builtin.min_) ts tt vs.toArray).run P w = .ok u w ∧ VR g r u := by
  cases as with
  | nil => simp [amm] at he
  | cons x rest =>
    simp only [amm] at he
    simp only [VRL] at hv
    obtain ⟨v, vs', rfl, h1, h2⟩ := hv
    obtain ⟨u, hu, hr⟩ := ammF_ok (P := P) he h1 h2 w
    refine ⟨u, ?_, hr⟩
    cases mx
    · simpa [Builtin.min_] using hu
    · simpa [Builtin.max_] using hu

/-! ### make -/

def amake (P : Program) (m : Md) (st : St) (T : TypeId) (n c : Int) : Option (TV × St) := match P.underlying T with
  | some (.slice e) => match P.info? e with
    | some i => match i.zero with
      | some z => if n = c ∧ 0 ≤ n ∧ n ≤ 2 ^ 31 ∧ i.bytes ≤ 4096 ∧ z.cells.size = i.size ∧ 0 < i.size then
          some (mkS (if m = .glob then .glob else .loc) st ((List.range (n.toNat * i.size)).map fun j => .sc (z.cells.toList.getD (j % i.size) default)) n.toNat i.size) else none
      | none => none
    | none => none
  | _ => none

theorem amake_ok {P : Program} (h : Inv σ0 g0 w0 st g lam w tm) {m : Md} {T : TypeId} {n c : Int} {t : TV} {st' : St} (he : amake P m st T n c = some (t, st')) (k k' : IntKind) :
    ∃ u w' g' lam', (Instr.makeSlice T (.int k n) (.int k' c)).run P w = .ok u w' ∧ Ext g lam g' lam' ∧ Inv σ0 g0 w0 st' g' lam' w' tm ∧ TVR g' lam' t u := by
  unfold amake at he
  split at he
  · rename_i e hu
    split at he
    · rename_i i hi
      split at he
      · rename_i z hz
        split at he
        · rename_i hc
          obtain ⟨rfl, h0, hle, hb, hsz, hpos⟩ := hc
          simp only [Option.some.injEq] at he
          have hcells : VRL g ((List.range (n.toNat * i.size)).map fun j => AV.sc (z.cells.toList.getD (j % i.size) default)) ((Array.range (n.toNat * i.size)).map (fun j => z.cells.toList.getD (j % i.size) default)).toList := by
            simp only [Array.toList_map, Array.toList_range]
            exact VRL_range (fun j => by simp only [VR]) _
          obtain ⟨g', lam', hle', h1, h2⟩ := mkS_ok h (if m = .glob then .glob else .loc) (c := (Array.range (n.toNat * i.size)).map (fun j => z.cells.toList.getD (j % i.size) default)) e hcells n.toNat i.size (by simp)
          rw [he] at h1 h2
          refine ⟨_, _, g', lam', ?_, hle', h1, h2⟩
          have hw : IntKind.i64.wrap n = n := by
            have e1 : n % (2 ^ 64 : Int) = n := Int.emod_eq_of_lt h0 (by omega)
            have e2 : ¬ n ≥ (2 ^ 63 : Int) := by omega
            show (if (true && decide (n % (2 ^ 64 : Int) ≥ (2 ^ 63 : Int))) = true then n % (2 ^ 64 : Int) - (2 ^ 64 : Int) else n % (2 ^ 64 : Int)) = n
            rw [e1, decide_eq_false e2]
            rfl
          have hbz : ¬ ((i.bytes : Int) * n > 2 ^ 48) := by
            have : (i.bytes : Int) * n ≤ 4096 * 2 ^ 31 := by
              calc (i.bytes : Int) * n ≤ 4096 * n := Int.mul_le_mul_of_nonneg_right (by omega) h0
                _ ≤ 4096 * 2 ^ 31 := Int.mul_le_mul_of_nonneg_left hle (by omega)
            omega
          have hn0 : ¬ n < 0 := by omega
          simp only [Instr.makeSlice, Sem.run_bind, run_underlying hu, Result.andThen_ok, asInt, asIntOf, Sem.run_pure, typeInfo, run_program, hi, hw]
          simp only [hn0, hbz, decide_false, Bool.or_self, Bool.or_false, gt_iff_lt, Int.lt_irrefl, Bool.false_eq_true, if_false, Sem.run_bind, Sem.run_pure, Result.andThen_ok, run_askRoom, sizeOf, typeInfo, run_program, hi, zeroValue, hz, newRow, run_newObj]
          have harr : ∀ q : Array Value, (n.toNat * i.size ≠ 0 → q = z.cells) → ((Array.range (n.toNat * i.size)).map fun x => q[x % q.size]!) = (Array.range (n.toNat * i.size)).map (fun j => z.cells.toList.getD (j % i.size) default) := by
            intro q hq
            apply Array.map_congr_left
            intro j hj
            have : n.toNat * i.size ≠ 0 := by
              intro h0'; rw [h0'] at hj; simp at hj
            rw [hq this, hsz]
            rw [List.getD_eq_getElem?_getD, Array.getElem?_toList, getElem!_def]
            cases z.cells[j % i.size]? <;> rfl
          by_cases hz0 : n.toNat * i.size = 0
          · simp only [hz0, if_true, Sem.run_pure, Result.andThen_ok, Sem.run_bind, run_newObj]
            have : Array.range 0 = #[] := rfl
            simp [World.alloc_eq, this]
          · simp only [hz0, if_false, Sem.run_bind, typeInfo, run_program, hi, Result.andThen_ok, hz, Sem.run_pure, run_newObj]
            rw [harr z.cells (fun _ => rfl)]
            simp [World.alloc_eq]
        · cases he
      · cases he
    · cases he
  · cases he

end
end Go.Abs
