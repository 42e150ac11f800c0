/- An abstract reading of the program, and what it answers. By an AI agent. -/
import Derived.Test.YtkbgehhnimpleaaGreatDoorSpkA
set_option linter.all false
namespace Go.Abs
open Go.Proofs

/-- The example runs again. -/
noncomputable def spk2 : Bool := match aeval ES 60 8 [] sig1 with
  | some (.sc (.bool b), _) => b
  | _ => false
theorem spkB : spk2 = true := by kernel_rfl
theorem speaks2 : Ans ES 8 [] sig1 (fun r _ => r = B true) := by
  have h := spkB
  unfold spk2 at h
  split at h
  · rename_i b σ2 h2
    subst h
    exact ⟨_, _, run_iff.2 ⟨60, h2⟩, rfl⟩
  · cases h
end Go.Abs
