/- An abstract reading of the program, and what it answers. By an AI agent. -/
set_option linter.all false
/-! What the bytes of a script say: the plain law, with no program in sight. An entry is eight numbers: Kind, Worker, Op, Node, Gen, Time, Arg, User. -/
namespace Go.Script

abbrev Ent := List Int

def tickE : Ent := [3, 0, 0, 0, 0, 0, 0, 0]
def pickE (w : Int) : Ent := [2, w, 0, 0, 0, 0, 0, 0]
def invE (w op : Int) : Ent := [1, w, op, 0, 0, 0, 0, 0]

/-- A number's bytes, the lowest first. -/
def le : List Int → Int
  | [] => 0
  | b :: bs => b + 256 * le bs

def partsOf (op : Int) : List (Nat × Nat) :=
  if op = 1 then [(5, 4), (6, 1), (7, 4)] else if op = 2 then [(3, 2), (4, 4)] else if op = 3 then [(3, 2), (4, 4), (5, 4)] else if op = 4 then [(3, 2), (4, 4), (6, 1)] else []

def takeP : List (Nat × Nat) → Ent → List Int → Option (Ent × List Int)
  | [], e, bs => some (e, bs)
  | (s, w) :: ps, e, bs => if bs.length < w then none else takeP ps (e.set s (le (bs.take w))) (bs.drop w)

/-- The entries of a first byte, and what is left behind them; nothing: they end within. -/
def stepS (x : Int) (bs : List Int) : Option (List Ent × List Int) :=
  if x % 4 = 0 then some (List.replicate ((x / 4).toNat + 1) tickE, bs)
  else if x % 4 = 1 then some ([pickE (x / 4)], bs)
  else match bs with
    | [] => none
    | y :: bs' => if x % 4 = 2 then some (List.replicate ((x / 4).toNat + 1) (pickE (y % 64)), bs')
      else (takeP (partsOf (x / 4)) (invE y (x / 4)) bs').map fun p => ([p.1], p.2)

theorem takeP_len : ∀ {ps : List (Nat × Nat)} {e : Ent} {bs : List Int} {r : Ent × List Int}, takeP ps e bs = some r → r.2.length ≤ bs.length
  | [], e, bs, r, h => by simp [takeP] at h; subst h; exact Nat.le_refl _
  | (s, w) :: ps, e, bs, r, h => by
    simp only [takeP] at h
    split at h
    · cases h
    · have := takeP_len h
      simp at this
      omega

theorem stepS_len {x : Int} {bs : List Int} {r : List Ent × List Int} (h : stepS x bs = some r) : r.2.length ≤ bs.length := by
  unfold stepS at h
  split at h
  · cases h; exact Nat.le_refl _
  · split at h
    · cases h; exact Nat.le_refl _
    · split at h
      · cases h
      · split at h
        · cases h; simp
        · simp only [Option.map_eq_some_iff] at h
          obtain ⟨p, hp, rfl⟩ := h
          have := takeP_len hp
          simp
          omega

theorem takeP_drop : ∀ {ps : List (Nat × Nat)} {e : Ent} {bs : List Int} {r : Ent × List Int}, takeP ps e bs = some r → ∃ k, r.2 = bs.drop k
  | [], e, bs, r, h => by simp [takeP] at h; subst h; exact ⟨0, rfl⟩
  | (s, w) :: ps, e, bs, r, h => by
    simp only [takeP] at h
    split at h
    · cases h
    · obtain ⟨k, hk⟩ := takeP_drop h
      exact ⟨w + k, by rw [hk, List.drop_drop]⟩

theorem stepS_drop {x : Int} {bs : List Int} {r : List Ent × List Int} (h : stepS x bs = some r) : ∃ k, r.2 = bs.drop k := by
  unfold stepS at h
  split at h
  · cases h; exact ⟨0, rfl⟩
  · split at h
    · cases h; exact ⟨0, rfl⟩
    · split at h
      · cases h
      · rename_i y bs'
        split at h
        · cases h; exact ⟨1, rfl⟩
        · simp only [Option.map_eq_some_iff] at h
          obtain ⟨p, hp, rfl⟩ := h
          obtain ⟨k, hk⟩ := takeP_drop hp
          exact ⟨k + 1, by simpa using hk⟩

theorem stepS_cnt {x : Int} {bs : List Int} {r : List Ent × List Int} (h : stepS x bs = some r) (h1 : x < 256) : r.1.length ≤ 64 ∧ 0 < r.1.length := by
  unfold stepS at h
  split at h
  · cases h; simp; omega
  · split at h
    · cases h; simp
    · split at h
      · cases h
      · split at h
        · cases h; simp; omega
        · simp only [Option.map_eq_some_iff] at h
          obtain ⟨p, hp, rfl⟩ := h
          simp

/-- What is said behind the configuration, with what was said ahead; nothing: too much. -/
def dec (bs : List Int) (out : List Ent) : Option (List Ent) := match bs with
  | [] => some out
  | x :: bs' => match h : stepS x bs' with
    | none => some out
    | some (es, r) => if 20000 < out.length + es.length then none else dec r (out ++ es)
termination_by bs.length
decreasing_by
  have := stepS_len h
  simp at this ⊢
  omega

theorem dec_nil (out : List Ent) : dec [] out = some out := by rw [dec]
theorem dec_stop {x : Int} {bs : List Int} (out : List Ent) (h : stepS x bs = none) : dec (x :: bs) out = some out := by
  rw [dec]; split
  · rfl
  · rename_i h2; rw [h] at h2; cases h2
theorem dec_go {x : Int} {bs : List Int} (out : List Ent) {es : List Ent} {r : List Int} (h : stepS x bs = some (es, r)) : dec (x :: bs) out = if 20000 < out.length + es.length then none else dec r (out ++ es) := by
  rw [dec]; split
  · rename_i h2; rw [h] at h2; cases h2
  · rename_i h2; rw [h] at h2; cases h2; rfl

end Go.Script
