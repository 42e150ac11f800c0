/- An abstract reading of the program, and what it answers. By an AI agent. -/
import Derived.Test.YtkbgehhnimpleaaGreatDoorSpkB
set_option linter.all false
namespace Go.Abs
open Go.Proofs
theorem speaks1 : ∃ σ1, Ans ES 8 [] [] (Is (B true) σ1) ∧ Ans ES 8 [] σ1 (fun r _ => r = B true) :=
  ⟨sig1, ⟨_, _, run_iff.2 ⟨60, spkA⟩, rfl, rfl⟩, speaks2⟩
end Go.Abs
