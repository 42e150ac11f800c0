/- An abstract reading of the program, and what it answers. By an AI agent. -/
import Derived.Test.YtkbgehhnimpleaaGreatDoorAbsOp
set_option linter.all false
namespace Go.Abs
section
variable {σ0 : Store} {g0 : Gh} {w0 : World} {st : St} {g : Gh} {lam : List (Nat × Nat)} {w : World} {tm : List Value}

/-! ### Addresses -/

def addP : TV → Nat → Option TV
  | .v (.ip cs), n => some (.v (.ip (cs.drop n)))
  | .v (.gp id off), n => some (.v (.gp id (off + n)))
  | .lp i off, n => some (.lp i (off + n))
  | _, _ => none

theorem addP_ok {t t' : TV} {n : Nat} (he : addP t n = some t') {v : Value} (ht : TVR g lam t v) : ∃ b off, v = .pointer (some ⟨b, off, none⟩) ∧ TVR g lam t' (.pointer (some ⟨b, off + n, none⟩)) := by
  unfold addP at he
  split at he
  · cases he
    simp only [TVR, VR] at ht ⊢
    obtain ⟨b, off, c, T, fz, h1, rfl, h2⟩ := ht
    refine ⟨b, off, rfl, b, off + n, c, T, fz, h1, rfl, ?_⟩
    have := drop_window h2 n
    rw [List.drop_drop] at this
    exact this
  · cases he
    simp only [TVR, VR] at ht ⊢
    obtain ⟨p, h1, rfl⟩ := ht
    exact ⟨_, _, rfl, p, h1, rfl⟩
  · cases he
    simp only [TVR] at ht ⊢
    obtain ⟨p, h1, rfl⟩ := ht
    exact ⟨_, _, rfl, p, h1, rfl⟩
  · cases he

def afield (P : Program) (T : TypeId) (t : TV) (f : Nat) : Option TV := match P.underlying T with
  | some (.struct fields) => match fields[f]? with
    | some fl => match szOf P fl.type with
      | some (_ + 1) => addP t fl.offset
      | _ => none
    | none => none
  | _ => none

theorem afield_ok {P : Program} {T : TypeId} {t t' : TV} {f : Nat} (he : afield P T t f = some t') {v : Value} (ht : TVR g lam t v) (w : World) :
    ∃ u, (Instr.fieldAt T v f).run P w = .ok u w ∧ TVR g lam t' u := by
  unfold afield at he
  split at he
  · rename_i fields hu
    split at he
    · rename_i fl hf
      split at he
      · rename_i n hn
        obtain ⟨b, off, rfl, h1⟩ := addP_ok he ht
        refine ⟨_, ?_, h1⟩
        simp [Instr.fieldAt, run_underlying hu, hf, Instr.sureAddr, fieldPlace, run_sizeOf' hn, add_mk]
      · cases he
    · cases he
  · cases he

/-- A field of a struct that is a value. -/
def afieldV (P : Program) (T : TypeId) (a : AV) (f : Nat) : Option AV := match P.underlying T, a with
  | some (.struct fields), .agg cs => match fields[f]? with
    | some fl => apart P fl.type cs fl.offset
    | none => none
  | _, _ => none

theorem afieldV_ok {P : Program} {T : TypeId} {a r : AV} {f : Nat} (he : afieldV P T a f = some r) {v : Value} (ha : VR g a v) (w : World) :
    ∃ u, (Instr.field T v f).run P w = .ok u w ∧ VR g r u := by
  unfold afieldV at he
  split at he
  · rename_i fields cs hu
    split at he
    · rename_i fl hf
      simp only [VR] at ha
      obtain ⟨xs, rfl, hx⟩ := ha
      obtain ⟨u, hr, h1⟩ := apart_ok hx he w
      exact ⟨u, by simp [Instr.field, run_underlying hu, hf, asAgg, hr], h1⟩
    · cases he
  · cases he

/-- &x[i]. -/
def aindex (P : Program) (T : TypeId) (t : TV) (n : Int) : Option TV :=
  if n < 0 then none else match P.underlying T with
  | some (.slice e) => match szOf P e with
    | some sz => match t with
      | .v (.is cs len _) => if n.toNat < len then some (.v (.ip (cs.drop (n.toNat * sz)))) else none
      | .v (.gs id off len _ _) => if n.toNat < len then some (.v (.gp id (off + n.toNat * sz))) else none
      | .ls i off len _ _ => if n.toNat < len then some (.lp i (off + n.toNat * sz)) else none
      | _ => none
    | none => none
  | some (.array len e) => match szOf P e with
    | some sz => if n.toNat < len then addP t (n.toNat * sz) else none
    | none => none
  | _ => none

theorem aindex_ok {P : Program} {T : TypeId} {t t' : TV} {k : IntKind} {n : Int} (he : aindex P T t n = some t') {v : Value} (ht : TVR g lam t v) (w : World) :
    ∃ u, (Instr.indexAt T v (.int k n)).run P w = .ok u w ∧ TVR g lam t' u := by
  unfold aindex at he
  split at he
  · cases he
  · rename_i hn
    have hn0 : 0 ≤ n := by omega
    split at he
    · rename_i e hu
      split at he
      · rename_i sz hsz
        have run : ∀ b off len c, n.toNat < len → (Instr.indexAt T (.slice (some ⟨b, off, none⟩) len c) (.int k n)).run P w = .ok (.pointer (some ⟨b, off + n.toNat * sz, none⟩)) w := by
          intro b off len c hlt
          have h2 : (0 : Int) ≤ n ∧ n < (len : Int) := ⟨hn0, by omega⟩
          simp [Instr.indexAt, asIntOf, run_underlying hu, h2, run_sizeOf' hsz, add_mk]
        split at he
        · rename_i cs len ex
          split at he
          · rename_i hlt
            cases he
            simp only [TVR, VR] at ht ⊢
            obtain ⟨b, off, c, T', fz, cap, h1, rfl, h2, h3, h4⟩ := ht
            refine ⟨_, run _ _ _ _ hlt, b, off + n.toNat * sz, c, T', fz, h1, rfl, ?_⟩
            have := drop_window h4 (n.toNat * sz)
            rw [List.drop_drop] at this
            exact this
          · cases he
        · rename_i id off len _ _
          split at he
          · rename_i hlt
            cases he
            simp only [TVR, VR] at ht ⊢
            obtain ⟨p, c, off', h1, rfl, h2, h3, h4⟩ := ht
            have : off' = off := (h4 (by omega)).1
            subst this
            exact ⟨_, run _ _ _ _ hlt, p, h1, rfl⟩
          · cases he
        · rename_i i off len _ _
          split at he
          · rename_i hlt
            cases he
            simp only [TVR] at ht ⊢
            obtain ⟨p, c, off', h1, rfl, h2, h3, h4⟩ := ht
            have : off' = off := (h4 (by omega)).1
            subst this
            exact ⟨_, run _ _ _ _ hlt, p, h1, rfl⟩
          · cases he
        · cases he
      · cases he
    · rename_i len e hu
      split at he
      · rename_i sz hsz
        split at he
        · rename_i hlt
          obtain ⟨b, off, rfl, h1⟩ := addP_ok he ht
          have h2 : (0 : Int) ≤ n ∧ n < (len : Int) := ⟨hn0, by omega⟩
          exact ⟨_, by simp [Instr.indexAt, asIntOf, run_underlying hu, h2, run_sizeOf' hsz, add_mk, Instr.sureAddr], h1⟩
        · cases he
      · cases he
    · cases he

/-- x[i] of a value. -/
def aindexV (P : Program) (T : TypeId) (a : AV) (n : Int) : Option AV :=
  if n < 0 then none else match P.underlying T, a with
  | some (.array len e), .agg cs => match szOf P e with
    | some sz => if n.toNat < len then apart P e cs (n.toNat * sz) else none
    | none => none
  | some .string, .sc (.string s) => if h : n.toNat < s.size then some (.sc (.int .u8 (s[n.toNat]'h).toNat)) else none
  | _, _ => none

theorem aindexV_ok {P : Program} {T : TypeId} {a r : AV} {k : IntKind} {n : Int} (he : aindexV P T a n = some r) {v : Value} (ha : VR g a v) (w : World) :
    ∃ u, (Instr.index T v (.int k n)).run P w = .ok u w ∧ VR g r u := by
  unfold aindexV at he
  split at he
  · cases he
  · rename_i hn
    have hn0 : 0 ≤ n := by omega
    split at he
    · rename_i len e cs hu
      split at he
      · rename_i sz hsz
        split at he
        · rename_i hlt
          simp only [VR] at ha
          obtain ⟨xs, rfl, hx⟩ := ha
          obtain ⟨u, hr, h1⟩ := apart_ok hx he w
          have h2 : (0 : Int) ≤ n ∧ n < (len : Int) := ⟨hn0, by omega⟩
          exact ⟨u, by simp [Instr.index, asIntOf, run_underlying hu, h2, run_sizeOf' hsz, hr], h1⟩
        · cases he
      · cases he
    · rename_i s hu
      split at he
      · rename_i hlt
        cases he
        simp only [VR] at ha; subst ha
        refine ⟨.int .u8 (s[n.toNat]'hlt).toNat, ?_, by simp only [VR]⟩
        have hg : s[n.toNat]? = some (s[n.toNat]'hlt) := getElem?_pos s n.toNat hlt
        simp [Instr.index, asIntOf, run_underlying hu, hn0, hg]
      · cases he
    · cases he

def aextract : AV → Nat → Option AV
  | .tup vs, i => vs[i]?
  | _, _ => none

theorem aextract_ok {P : Program} {a r : AV} {i : Nat} (he : aextract a i = some r) {v : Value} (ha : VR g a v) (w : World) :
    ∃ u, (Instr.extract v i).run P w = .ok u w ∧ VR g r u := by
  cases a with
  | tup vs =>
    simp only [aextract] at he
    simp only [VR] at ha
    obtain ⟨xs, rfl, hx⟩ := ha
    obtain ⟨u, hu, hr⟩ := VRL_get hx he
    have hu' : xs[i]? = some u := by simpa using hu
    exact ⟨u, by simp [Instr.extract, hu'], hr⟩
  | _ => simp [aextract] at he

/-! ### Slices of slices -/

/-- The bounds that a slice expression names: low, high, the new length, and the new capacity where it is known. -/
def bounds (len : Nat) (cap : Option Nat) (lo hi mx : Option Int) : Option (Nat × Nat × Option Nat) :=
  let l := (lo.getD 0).toNat
  let h := (hi.getD len).toNat
  if 0 ≤ lo.getD 0 ∧ 0 ≤ hi.getD len ∧ l ≤ h ∧ h ≤ len then
    match mx with
    | none => some (l, h, cap.map (· - l))
    | some m => if hi.isSome ∧ 0 ≤ m ∧ h ≤ m.toNat ∧ m.toNat ≤ len then some (l, h, some (m.toNat - l)) else none
  else none

theorem run_bound {P : Program} {k : IntKind} {i : Int} {y : Nat} {c : BoundsCode} (h0 : 0 ≤ i) (h1 : i.toNat ≤ y) (w : World) : (Instr.sliceBound (.int k i) y c).run P w = .ok i.toNat w := by
  have : 0 ≤ i ∧ i ≤ (y : Int) := ⟨h0, by omega⟩
  simp [Instr.sliceBound, asIntOf, this]

/-- An index operand's number. -/
def IntIs (i : Int) (v : Value) : Prop := ∃ k, v = .int k i
inductive OptInt : Option Int → Option Value → Prop
  | none : OptInt none none
  | some {i : Int} {k : IntKind} : OptInt (some i) (some (.int k i))

theorem run_bounds {P : Program} {b : Bool} {len c : Nat} (hc : len ≤ c) {cap : Option Nat} (hcap : ∀ k, cap = some k → c = k) {lo hi mx : Option Int} {vl vh vm : Option Value} (hl : OptInt lo vl) (hh : OptInt hi vh) (hm : OptInt mx vm)
    {l h : Nat} {cap' : Option Nat} (he : bounds len cap lo hi mx = some (l, h, cap')) (w : World) :
    ∃ m, (Instr.sliceBounds b len c vl vh vm).run P w = .ok (l, h, m) w ∧ l ≤ h ∧ h ≤ len ∧ h ≤ m ∧ m ≤ c ∧ (∀ k, cap' = some k → m - l = k) := by
  unfold bounds at he
  simp only at he
  split at he
  · rename_i hc1
    obtain ⟨a1, a2, a3, a4⟩ := hc1
    split at he
    · cases hm
      simp only [Option.some.injEq, Prod.mk.injEq] at he
      obtain ⟨rfl, rfl, rfl⟩ := he
      refine ⟨c, ?_, a3, a4, by omega, Nat.le_refl _, ?_⟩
      · cases hh
        · cases hl
          · simp [Instr.sliceBounds]
          · simp only [Option.getD_some, Option.getD_none] at a1 a2 a3 a4
            simp only [Instr.sliceBounds, Sem.run_bind, Sem.run_pure, Result.andThen_ok]
            rw [run_bound a1 (by omega)]
            simp
        · cases hl
          · simp only [Option.getD_some, Option.getD_none] at a1 a2 a3 a4
            simp only [Instr.sliceBounds, Sem.run_bind, Sem.run_pure, Result.andThen_ok]
            rw [run_bound a2 (by omega)]
            simp
          · simp only [Option.getD_some, Option.getD_none] at a1 a2 a3 a4
            simp only [Instr.sliceBounds, Sem.run_bind, Sem.run_pure, Result.andThen_ok]
            rw [run_bound a2 (by omega)]
            simp only [Sem.run_bind, Result.andThen_ok]
            rw [run_bound a1 a3]
            simp
      · intro k hk
        cases cap with
        | none => cases hk
        | some k' => simp at hk; rw [hcap k' rfl]; exact hk
    · rename_i m
      split at he
      · rename_i hc2
        obtain ⟨b1, b2, b3, b4⟩ := hc2
        simp only [Option.some.injEq, Prod.mk.injEq] at he
        obtain ⟨rfl, rfl, rfl⟩ := he
        cases hm
        refine ⟨m.toNat, ?_, a3, a4, b3, by omega, fun k hk => by cases hk; rfl⟩
        cases hh
        · simp at b1
        · cases hl
          · simp only [Instr.sliceBounds, Sem.run_bind, run_bound b2 (show m.toNat ≤ c by omega), Result.andThen_ok]
            simp only [Option.getD_some] at a2 b3
            rw [run_bound a2 b3]
            simp
          · simp only [Instr.sliceBounds, Sem.run_bind, run_bound b2 (show m.toNat ≤ c by omega), Result.andThen_ok]
            simp only [Option.getD_some] at a1 a2 a3 b3
            rw [run_bound a2 b3]
            simp only [Sem.run_bind, Result.andThen_ok]
            rw [run_bound a1 a3]
            simp
      · cases he
  · cases he

def aslice (P : Program) (T : TypeId) (t : TV) (lo hi mx : Option Int) : Option TV := match P.underlying T with
  | some (.slice e) => match szOf P e with
    | some sz => match t with
      | .v (.sc (.slice none 0 0)) => match bounds 0 (some 0) lo hi mx with
        | some _ => some (.v (.sc (.slice none 0 0)))
        | none => none
      | .v (.is cs len ex) => match bounds len (if ex then some len else none) lo hi mx with
        | some (l, h, cap') => some (.v (.is ((cs.drop (l * sz)).take ((h - l) * sz)) (h - l) (cap' == some (h - l))))
        | none => none
      | .v (.gs id off len sz' cap) => match bounds len cap lo hi mx with
        | some (l, h, cap') => if sz' = sz then some (.v (.gs id (off + l * sz) (h - l) sz cap')) else none
        | none => none
      | .ls i off len sz' cap => match bounds len cap lo hi mx with
        | some (l, h, cap') => if sz' = sz then some (.ls i (off + l * sz) (h - l) sz cap') else none
        | none => none
      | _ => none
    | none => none
  | some .string => match t with
    | .v (.sc (.string s)) => match bounds s.size none lo hi none, mx with
      | some (l, h, _), none => some (.v (.sc (.string (s.extract l h))))
      | _, _ => none
    | _ => none
  | _ => none

theorem aslice_ok {P : Program} {T : TypeId} {t t' : TV} {lo hi mx : Option Int} (he : aslice P T t lo hi mx = some t') {vl vh vm : Option Value} (hl : OptInt lo vl) (hh : OptInt hi vh) (hm : OptInt mx vm) {v : Value} (ht : TVR g lam t v) (w : World) :
    ∃ u, (Instr.sliceAt T v vl vh vm).run P w = .ok u w ∧ TVR g lam t' u := by
  unfold aslice at he
  split at he
  · rename_i e hu
    split at he
    · rename_i sz hsz
      have base : ∀ (a : Option Addr) (len c l h m : Nat), (Instr.sliceBounds true len c vl vh vm).run P w = .ok (l, h, m) w →
          (Instr.sliceAt T (.slice a len c) vl vh vm).run P w = .ok (.slice (if m = l then a else a.map (·.add (l * sz))) (h - l) (m - l)) w := by
        intro a len c l h m hb
        simp [Instr.sliceAt, Instr.slice, run_underlying hu, hb, run_sizeOf' hsz]
      split at he
      · split at he
        · rename_i r hb
          cases he
          simp only [TVR, VR] at ht
          subst ht
          obtain ⟨l, h, cap'⟩ := r
          obtain ⟨m, hr, h1, h2, h3, h4, h5⟩ := run_bounds (P := P) (b := true) (Nat.le_refl 0) (cap := some 0) (fun k hk => by cases hk; rfl) hl hh hm hb w
          have e1 : l = 0 := by omega
          have e2 : h = 0 := by omega
          have e3 : m = 0 := by omega
          subst e1 e2 e3
          exact ⟨_, base _ _ _ _ _ _ hr, by simp [TVR, VR]⟩
        · cases he
      · rename_i cs len ex
        split at he
        · rename_i l h cap' hb
          cases he
          simp only [TVR, VR] at ht ⊢
          obtain ⟨b, off, c, T', fz, cap, e1, rfl, e2, e3, e4⟩ := ht
          obtain ⟨m, hr, h1, h2, h3, h4, h5⟩ := run_bounds (P := P) (b := true) e2 (cap := if ex then some len else none) (fun k hk => by
            cases ex
            · simp at hk
            · simp at hk; rw [e3 rfl]; exact hk) hl hh hm hb w
          refine ⟨_, base _ _ _ _ _ _ hr, b, if m = l then off else off + l * sz, c, T', fz, m - l, e1, ?_, by omega, fun hx => h5 _ (by simpa using hx), ?_⟩
          · by_cases hml : m = l
            · simp [hml]
            · simp [hml, add_mk]
          · by_cases hml : m = l
            · have : h - l = 0 := by omega
              simp [this, VRL]
            · simp only [hml, if_false]
              have := take_window e4 (l * sz) ((h - l) * sz)
              rw [List.drop_drop] at this
              exact this
        · cases he
      · rename_i id off len sz' cap
        split at he
        · rename_i l h cap' hb
          split at he
          · rename_i hsz'
            subst hsz'
            cases he
            simp only [TVR, VR] at ht ⊢
            obtain ⟨p, c, off', e1, rfl, e2, e3, e4⟩ := ht
            obtain ⟨m, hr, h1, h2, h3, h4, h5⟩ := run_bounds (P := P) (b := true) e2 e3 hl hh hm hb w
            refine ⟨_, base _ _ _ _ _ _ hr, p, m - l, if m = l then off' else off' + l * sz', e1, ?_, by omega, fun k hk => h5 k hk, ?_⟩
            · by_cases hml : m = l
              · simp [hml]
              · simp [hml, add_mk]
            · intro hpos
              have hml : m ≠ l := by omega
              obtain ⟨e5, e6⟩ := e4 (by omega)
              simp only [hml, if_false]
              refine ⟨by omega, ?_⟩
              have h7 : l * sz' + (m - l) * sz' ≤ c * sz' := by
                rw [← Nat.add_mul]
                exact Nat.mul_le_mul_right _ (by omega)
              omega
          · cases he
        · cases he
      · rename_i i off len sz' cap
        split at he
        · rename_i l h cap' hb
          split at he
          · rename_i hsz'
            subst hsz'
            cases he
            simp only [TVR] at ht ⊢
            obtain ⟨p, c, off', e1, rfl, e2, e3, e4⟩ := ht
            obtain ⟨m, hr, h1, h2, h3, h4, h5⟩ := run_bounds (P := P) (b := true) e2 e3 hl hh hm hb w
            refine ⟨_, base _ _ _ _ _ _ hr, p, m - l, if m = l then off' else off' + l * sz', e1, ?_, by omega, fun k hk => h5 k hk, ?_⟩
            · by_cases hml : m = l
              · simp [hml]
              · simp [hml, add_mk]
            · intro hpos
              have hml : m ≠ l := by omega
              obtain ⟨e5, e6⟩ := e4 (by omega)
              simp only [hml, if_false]
              refine ⟨by omega, ?_⟩
              have h7 : l * sz' + (m - l) * sz' ≤ c * sz' := by
                rw [← Nat.add_mul]
                exact Nat.mul_le_mul_right _ (by omega)
              omega
          · cases he
        · cases he
      · cases he
    · cases he
  · rename_i hu
    split at he
    · rename_i s
      split at he
      · rename_i l h cap' hb
        cases he
        cases hm
        simp only [TVR, VR] at ht
        subst ht
        obtain ⟨m, hr, h1, h2, h3, h4, h5⟩ := run_bounds (P := P) (b := false) (Nat.le_refl s.size) (cap := none) (fun k hk => by cases hk) hl hh .none hb w
        refine ⟨.string (s.extract l h), ?_, by simp only [TVR, VR]⟩
        simp [Instr.sliceAt, Instr.slice, run_underlying hu, hr]
      · cases he
    · cases he
  · cases he

/-! ### The whole of a slice, as a source -/

def rdS (st : St) (sz : Nat) : TV → Option (List AV × Nat)
  | .v (.sc (.slice none 0 0)) => some ([], 0)
  | .v (.is cs len _) => if cs.length = len * sz then some (cs, len) else none
  | .v (.gs id off len sz' _) => if sz' = sz then match st.σ[id]? with
    | some (some cs) => (window cs off (len * sz)).map fun c => (c, len)
    | _ => none else none
  | .ls i off len sz' _ => if sz' = sz then match st.loc[i]? with
    | some (some cs) => (window cs off (len * sz)).map fun c => (c, len)
    | _ => none else none
  | .v (.sc (.string s)) => if sz = 1 then some (s.data.toList.map (fun b => .sc (.int .u8 b.toNat)), s.size) else none
  | _ => none

theorem VRL_map_sc {g : Gh} {α : Type} (f : α → Value) : ∀ l : List α, VRL g (l.map fun x => .sc (f x)) (l.map f)
  | [] => VRL_nil
  | x :: l => VRL_cons.2 ⟨by simp [VR], VRL_map_sc f l⟩

theorem load_drawn {P : Program} {b off : Nat} {vs : List Value} (h : CellsAt w b off vs) (d : Nat) : (loadCells ⟨b, off, none⟩ vs.length).run P { w with drawn := d } = .ok vs.toArray { w with drawn := d } :=
  run_loadCells_at (w := { w with drawn := d }) h

theorem rdS_ok {P : Program} (h : Inv σ0 g0 w0 st g lam w tm) {sz : Nat} {t : TV} {v : Value} (ht : TVR g lam t v) {cs : List AV} {n : Nat} (he : rdS st sz t = some (cs, n)) :
    (Builtin.lenOf v).run P w = .ok n w ∧ ∃ vs : List Value, (∀ d : Nat, (Builtin.firstCells sz n v).run P { w with drawn := d } = .ok vs.toArray { w with drawn := d }) ∧ VRL g cs vs ∧ vs.length = n * sz := by
  unfold rdS at he
  split at he
  · cases he
    simp only [TVR, VR] at ht; subst ht
    exact ⟨by simp [Builtin.lenOf], [], fun d => by simp [Builtin.firstCells], VRL_nil, by simp⟩
  · rename_i cs' len ex
    split at he
    · rename_i hl
      cases he
      simp only [TVR, VR] at ht
      obtain ⟨b, off, c, T', fz, cap, e1, rfl, e2, e3, e4⟩ := ht
      refine ⟨by simp [Builtin.lenOf], _, ?_, e4, by rw [← VRL_length e4, hl]⟩
      intro d
      have := load_drawn (P := P) (cellsAt_of (h.wr.imm _ _ e1) off cs.length) d
      rw [← VRL_length e4] at this
      simp only [Builtin.firstCells]
      rw [← hl]; exact this
    · cases he
  · rename_i id off len sz' cap
    split at he
    · rename_i hsz
      subst hsz
      split at he
      · rename_i cs' hcs
        simp only [Option.map_eq_some_iff, Prod.mk.injEq] at he
        obtain ⟨c', hw, rfl, rfl⟩ := he
        simp only [TVR, VR] at ht
        obtain ⟨p, c, off', e1, rfl, e2, e3, e4⟩ := ht
        obtain ⟨⟨d, T', h2, _, h3⟩, _⟩ := h.wr.obj id cs' p hcs e1
        obtain ⟨h4, h5⟩ := window_ok h3 hw
        refine ⟨by simp [Builtin.lenOf], _, ?_, h4, by rw [← VRL_length h4, h5]⟩
        intro dd
        by_cases hc : 0 < c
        · rw [(e4 hc).1]
          have := load_drawn (P := P) (cellsAt_of h2 off (len * sz')) dd
          rw [← VRL_length h4, h5] at this
          exact this
        · have : len = 0 := by omega
          subst this
          simp [Builtin.firstCells, loadCells, loadCellsFrom]
      · cases he
    · cases he
  · rename_i i off len sz' cap
    split at he
    · rename_i hsz
      subst hsz
      split at he
      · rename_i cs' hcs
        simp only [Option.map_eq_some_iff, Prod.mk.injEq] at he
        obtain ⟨c', hw, rfl, rfl⟩ := he
        simp only [TVR] at ht
        obtain ⟨p, c, off', e1, rfl, e2, e3, e4⟩ := ht
        obtain ⟨⟨d, T', h2, _, h3⟩, _⟩ := h.lr.obj i cs' p hcs e1
        obtain ⟨h4, h5⟩ := window_ok h3 hw
        refine ⟨by simp [Builtin.lenOf], _, ?_, h4, by rw [← VRL_length h4, h5]⟩
        intro dd
        by_cases hc : 0 < c
        · rw [(e4 hc).1]
          have := load_drawn (P := P) (cellsAt_of h2 off (len * sz')) dd
          rw [← VRL_length h4, h5] at this
          exact this
        · have : len = 0 := by omega
          subst this
          simp [Builtin.firstCells, loadCells, loadCellsFrom]
      · cases he
    · cases he
  · rename_i s
    split at he
    · rename_i hs
      subst hs
      cases he
      simp only [TVR, VR] at ht; subst ht
      refine ⟨by simp [Builtin.lenOf], _, ?_, VRL_map_sc (fun b : UInt8 => .int .u8 b.toNat) s.data.toList, by simp⟩
      intro d
      simp only [Builtin.firstCells]
      have : (s.extract 0 s.size) = s := by
        apply ByteArray.ext
        rw [ByteArray.data_extract]
        exact Array.extract_size
      rw [this]
      have h2 : (s.data.toList.map (fun b : UInt8 => Value.int .u8 b.toNat)).toArray = s.data.map (fun b => Value.int .u8 b.toNat) := by
        apply Array.ext'
        simp
      rw [h2]
      rfl
    · cases he
  · cases he

end
end Go.Abs
