/- An abstract reading of the program, and what it answers. By an AI agent. -/
import Derived.Test.YtkbgehhnimpleaaGreatDoorAbsDr
set_option linter.all false
namespace Go.Abs

/-! ### Numbers -/

theorem bits_i64 : IntKind.i64.bits = 64 := rfl
theorem bits_u64 : IntKind.u64.bits = 64 := rfl
theorem bits_u8 : IntKind.u8.bits = 8 := rfl
theorem fdiv_pos {a b : Int} (h : 0 ≤ b) : a.fdiv b = a / b := Int.fdiv_eq_ediv_of_nonneg a h
theorem tdiv_pos {a b : Int} (h : 0 ≤ a) : a.tdiv b = a / b := Int.tdiv_eq_ediv_of_nonneg h
theorem tmod_pos {a b : Int} (h : 0 ≤ a) : a.tmod b = a % b := Int.tmod_eq_emod_of_nonneg h
theorem toNat_add' {a k : Int} (h : 0 ≤ a) (h2 : 0 ≤ k) : (a + k).toNat = a.toNat + k.toNat := by omega

theorem toNat_ofInt_of {w : Nat} {x : Int} (h : 0 ≤ x) (h2 : x < 2 ^ w) : (BitVec.ofInt w x).toNat = x.toNat := by
  rw [BitVec.toNat_ofInt]
  congr 1
  have : ((2 ^ w : Nat) : Int) = (2 : Int) ^ w := by simp
  rw [this]
  exact Int.emod_eq_of_lt h h2

theorem or_low {x y : Int} (h0 : x % 256 = 0) (h1 : 0 ≤ x) (h2 : x < 9000000000000000000) (h3 : 0 ≤ y) (h4 : y < 256) : IntKind.i64.wrap ((BitVec.ofInt 64 x ||| BitVec.ofInt 64 y).toNat : Int) = x + y := by
  have hx := toNat_ofInt_of (w := 64) h1 (by omega)
  have hy := toNat_ofInt_of (w := 64) h3 (by omega)
  have key : ((BitVec.ofInt 64 x ||| BitVec.ofInt 64 y).toNat : Int) = x + y := by
    rw [BitVec.toNat_or, hx, hy]
    have e : x.toNat = 2 ^ 8 * (x.toNat / 256) := by omega
    rw [e, ← Nat.two_pow_add_eq_or_of_lt (by omega : y.toNat < 2 ^ 8)]
    omega
  rw [key]
  exact wrap_i64 (by omega) (by omega)

theorem and_mask {w : Nat} (k : Nat) {x : Int} (h0 : 0 ≤ x) (h1 : x < 2 ^ w) {m : Int} (hm : m = 2 ^ k - 1) (hk : m < 2 ^ w) : ((BitVec.ofInt w x &&& BitVec.ofInt w m).toNat : Int) = x % 2 ^ k := by
  have hp : (0 : Int) < 2 ^ k := Int.pow_pos (by decide)
  have hx := toNat_ofInt_of h0 h1
  have hy := toNat_ofInt_of (x := m) (w := w) (by omega) hk
  rw [BitVec.toNat_and, hx, hy]
  have e : m.toNat = 2 ^ k - 1 := by
    have : ((2 ^ k : Nat) : Int) = (2 : Int) ^ k := by simp
    omega
  rw [e, Nat.and_two_pow_sub_one_eq_mod]
  have : ((x.toNat : Nat) : Int) = x := Int.toNat_of_nonneg h0
  rw [Int.natCast_emod, this]
  simp

theorem and3_u8 {x : Int} (h0 : 0 ≤ x) (h1 : x < 256) : IntKind.u8.wrap ((BitVec.ofInt 8 x &&& BitVec.ofInt 8 3).toNat : Int) = x % 4 := by
  rw [and_mask 2 h0 (by omega) (m := 3) (by decide) (by decide)]
  exact wrap_u8 (by omega) (by omega)
theorem and63_i64 {x : Int} (h0 : 0 ≤ x) (h1 : x < 9000000000000000000) : IntKind.i64.wrap ((BitVec.ofInt 64 x &&& BitVec.ofInt 64 63).toNat : Int) = x % 64 := by
  rw [and_mask 6 h0 (by omega) (m := 63) (by decide) (by decide)]
  exact wrap_i64 (by omega) (by omega)

/-! Bits, folded -/
def orK (k : IntKind) (a b : Int) : Int := k.wrap (BitVec.ofInt k.bits a ||| BitVec.ofInt k.bits b).toNat
def andK (k : IntKind) (a b : Int) : Int := k.wrap (BitVec.ofInt k.bits a &&& BitVec.ofInt k.bits b).toNat
def xorK (k : IntKind) (a b : Int) : Int := k.wrap (BitVec.ofInt k.bits a ^^^ BitVec.ofInt k.bits b).toNat
def andNotK (k : IntKind) (a b : Int) : Int := k.wrap (BitVec.ofInt k.bits a &&& ~~~ BitVec.ofInt k.bits b).toNat
section
variable {P : Program} {T : TypeId} {k : IntKind} {a b : Int}
theorem bin_andK : abin P .and T (.sc (.int k a)) (.sc (.int k b)) = some (.sc (.int k (andK k a b))) := bin_and
theorem bin_orK : abin P .or T (.sc (.int k a)) (.sc (.int k b)) = some (.sc (.int k (orK k a b))) := bin_or
theorem bin_xorK : abin P .xor T (.sc (.int k a)) (.sc (.int k b)) = some (.sc (.int k (xorK k a b))) := bin_xor
theorem bin_andNotK : abin P .andNot T (.sc (.int k a)) (.sc (.int k b)) = some (.sc (.int k (andNotK k a b))) := bin_andNot
end
theorem orK_low {x y : Int} (h0 : x % 256 = 0) (h1 : 0 ≤ x) (h2 : x < 9000000000000000000) (h3 : 0 ≤ y) (h4 : y < 256) : orK .i64 x y = x + y := or_low h0 h1 h2 h3 h4
theorem andK3_u8 {x : Int} (h0 : 0 ≤ x) (h1 : x < 256) : andK .u8 x 3 = x % 4 := and3_u8 h0 h1
theorem andK63 {x : Int} (h0 : 0 ≤ x) (h1 : x < 9000000000000000000) : andK .i64 x 63 = x % 64 := and63_i64 h0 h1

theorem abuildS_one {P : Program} {T e : TypeId} {n : Nat} {z : List AV} {a : AV} (hu : P.underlying T = some (.slice e)) (hs : szOf P e = some n) (hz : azero P e = some z) (hn : 0 < n) (hn2 : n ≤ 2 ^ 24) (hl : z.length = n) (h : (cellsOf a).length = n) : abuildS P T 1 [(0, a)] = some (cellsOf a, n) := by
  unfold abuildS
  rw [hu]
  simp only [hs, hz]
  rw [if_pos ⟨by omega, by omega, hl⟩]
  simp only [afill]
  rw [if_pos ⟨h, by simp; omega⟩]
  simp [h]
end Go.Abs
