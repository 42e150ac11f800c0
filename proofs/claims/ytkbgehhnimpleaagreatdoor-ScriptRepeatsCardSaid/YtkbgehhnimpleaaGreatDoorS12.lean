/- An abstract reading of the program, and what it answers. By an AI agent. -/
import Derived.Test.YtkbgehhnimpleaaGreatDoorS11
import Derived.Test.YtkbgehhnimpleaaGreatDoorAbsLaw
import Derived.Test.YtkbgehhnimpleaaGreatDoorRows
import Derived.Test.YtkbgehhnimpleaaGreatDoorCards
import Derived.Test.YtkbgehhnimpleaaGreatDoorTie
import Derived.SevenTiedAt
set_option linter.all false
namespace Go.Abs
open Go.Proofs

theorem beqV_ok : ∀ a b : Value, beqV a b = true → a = b := by
  intro a b h
  unfold beqV at h
  split at h <;> simp_all

mutual
theorem beqAV_ok : ∀ a b : AV, beqAV a b = true → a = b
  | .sc a, .sc b, h => by simp only [beqAV] at h; rw [beqV_ok a b h]
  | .agg a, .agg b, h => by simp only [beqAV] at h; rw [beqAVL_ok a b h]
  | .gp a b, .gp c d, h => by simp [beqAV] at h; rw [h.1, h.2]
  | .gs a b c d e, .gs a' b' c' d' e', h => by simp [beqAV] at h; obtain ⟨⟨⟨⟨rfl, rfl⟩, rfl⟩, rfl⟩, rfl⟩ := h; rfl
  | .ip a, .ip b, h => by simp only [beqAV] at h; rw [beqAVL_ok a b h]
  | .is a n e, .is b n' e', h => by simp [beqAV] at h; obtain ⟨⟨rfl, rfl⟩, h⟩ := h; rw [beqAVL_ok a b h]
  | .fn f a b, .fn f' a' b', h => by simp [beqAV] at h; obtain ⟨⟨rfl, h1⟩, h2⟩ := h; rw [beqAVL_ok a a' h1, beqAVL_ok b b' h2]
  | .sc _, .agg _, h | .sc _, .gp _ _, h | .sc _, .gs _ _ _ _ _, h | .sc _, .ip _, h | .sc _, .is _ _ _, h | .sc _, .fn _ _ _, h | .sc _, .tup _, h => by simp [beqAV] at h
  | .agg _, .sc _, h | .agg _, .gp _ _, h | .agg _, .gs _ _ _ _ _, h | .agg _, .ip _, h | .agg _, .is _ _ _, h | .agg _, .fn _ _ _, h | .agg _, .tup _, h => by simp [beqAV] at h
  | .gp _ _, .sc _, h | .gp _ _, .agg _, h | .gp _ _, .gs _ _ _ _ _, h | .gp _ _, .ip _, h | .gp _ _, .is _ _ _, h | .gp _ _, .fn _ _ _, h | .gp _ _, .tup _, h => by simp [beqAV] at h
  | .gs _ _ _ _ _, .sc _, h | .gs _ _ _ _ _, .agg _, h | .gs _ _ _ _ _, .gp _ _, h | .gs _ _ _ _ _, .ip _, h | .gs _ _ _ _ _, .is _ _ _, h | .gs _ _ _ _ _, .fn _ _ _, h | .gs _ _ _ _ _, .tup _, h => by simp [beqAV] at h
  | .ip _, .sc _, h | .ip _, .agg _, h | .ip _, .gp _ _, h | .ip _, .gs _ _ _ _ _, h | .ip _, .is _ _ _, h | .ip _, .fn _ _ _, h | .ip _, .tup _, h => by simp [beqAV] at h
  | .is _ _ _, .sc _, h | .is _ _ _, .agg _, h | .is _ _ _, .gp _ _, h | .is _ _ _, .gs _ _ _ _ _, h | .is _ _ _, .ip _, h | .is _ _ _, .fn _ _ _, h | .is _ _ _, .tup _, h => by simp [beqAV] at h
  | .fn _ _ _, .sc _, h | .fn _ _ _, .agg _, h | .fn _ _ _, .gp _ _, h | .fn _ _ _, .gs _ _ _ _ _, h | .fn _ _ _, .ip _, h | .fn _ _ _, .is _ _ _, h | .fn _ _ _, .tup _, h => by simp [beqAV] at h
  | .tup _, _, h => by simp [beqAV] at h
theorem beqAVL_ok : ∀ a b : List AV, beqAVL a b = true → a = b
  | [], [], _ => rfl
  | a :: l, b :: m, h => by simp only [beqAVL, Bool.and_eq_true] at h; rw [beqAV_ok a b h.1, beqAVL_ok l m h.2]
  | [], _ :: _, h | _ :: _, [], h => by simp [beqAVL] at h
end

theorem at127 : AtOK Tryz.prog 127 .store := ⟨⟨Tryz.f127, by kernel_rfl, by kernel_rfl, by kernel_rfl, by kernel_rfl, by kernel_rfl⟩⟩
theorem at130 : AtOK Tryz.prog 130 (.add .u64) := ⟨⟨Tryz.f130, by kernel_rfl, by kernel_rfl, by kernel_rfl, by kernel_rfl, by kernel_rfl⟩⟩
theorem at176 : AtOK Tryz.prog 176 (.add .i64) := ⟨⟨Tryz.f176, by kernel_rfl, by kernel_rfl, by kernel_rfl, by kernel_rfl, by kernel_rfl⟩⟩
theorem at221 : AtOK Tryz.prog 221 (.load .u64) := ⟨⟨Tryz.f221, by kernel_rfl, by kernel_rfl, by kernel_rfl, by kernel_rfl, by kernel_rfl⟩⟩
theorem at264 : AtOK Tryz.prog 264 (.cas .u64) := ⟨⟨Tryz.f264, by kernel_rfl, by kernel_rfl, by kernel_rfl, by kernel_rfl, by kernel_rfl⟩⟩
theorem at336 : AtOK Tryz.prog 336 (.swap .u64) := ⟨⟨Tryz.f336, by kernel_rfl, by kernel_rfl, by kernel_rfl, by kernel_rfl, by kernel_rfl⟩⟩
theorem at_all : ∀ f k, ES.at_ f = some k → AtOK ES.P f k := by
  intro f k h
  have h' : lookupA atT f = some k := h
  simp only [atT, lookupA] at h'
  rw [ES_P]
  split at h'
  · rename_i hf; rw [← beq_iff_eq.1 hf, ← Option.some.inj h']; exact at127
  split at h'
  · rename_i hf; rw [← beq_iff_eq.1 hf, ← Option.some.inj h']; exact at130
  split at h'
  · rename_i hf; rw [← beq_iff_eq.1 hf, ← Option.some.inj h']; exact at176
  split at h'
  · rename_i hf; rw [← beq_iff_eq.1 hf, ← Option.some.inj h']; exact at221
  split at h'
  · rename_i hf; rw [← beq_iff_eq.1 hf, ← Option.some.inj h']; exact at264
  split at h'
  · rename_i hf; rw [← beq_iff_eq.1 hf, ← Option.some.inj h']; exact at336
  cases h'

theorem ES_calls : CallsOK Tryz.prog (run ES) :=
  run_ok (E := ES) (Checked.mixed Tryz.checked) at_all beqAV_ok (by intro f p h; rw [ES_prim] at h; cases h)
end Go.Abs
