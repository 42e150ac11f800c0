/- An abstract reading of the program, and what it answers. By an AI agent. -/
import Derived.Test.YtkbgehhnimpleaaGreatDoorS12
set_option linter.all false
set_option maxRecDepth 100000
namespace Go.Proofs.YtkbgehhnimpleaaGreatDoor
open Go.ChangeShapes Go.WideShapes Go.ChangeAt Go.RowKit Go.Abs

theorem own : ownKnob Tryz.prog.godebug = none := by kernel_rfl
theorem laidOut : laidOutB Tryz.prog = true := by kernel_rfl
abbrev laidL : List (String × DataW Unit) := [("math/bits.deBruijn32tab", Rows.laid_math_bits_deBruijn32tab), ("math/bits.deBruijn64tab", Rows.laid_math_bits_deBruijn64tab), ("internal/strconv.uint64pow10", Rows.laid_internal_strconv_uint64pow10)]

theorem door_met (os : Os) (args : Array Value) : laidMetH Tryz.prog laidL ((World.doorLaid Tryz.prog 400 os).forCall (fun _ _ => 0) ⟨#[], args, []⟩).memory :=
  laidMetH_of_parts3 (fuel := 8) (laidMet_of_run' 8 (by kernel_rfl) (by kernel_rfl)) (by kernel_rfl) (by kernel_rfl)

theorem ty3 : Tryz.prog.underlying 3 = some (.int .i64) := by kernel_rfl
theorem ty4 : Tryz.prog.underlying 4 = some .bool := by kernel_rfl
theorem ty23 : Tryz.prog.underlying 23 = some (.array 13 3) := by kernel_rfl
theorem ty24 : Tryz.prog.underlying 24 = some (.slice 5) := by kernel_rfl
theorem ty5 : Tryz.prog.underlying 5 = some (.int .u8) := by kernel_rfl
theorem ty45 : Tryz.prog.underlying 45 = some (.int .u16) := by kernel_rfl
theorem ce5 : Tryz.prog.cellsOf 5 = 1 := by kernel_rfl
theorem ce3 : Tryz.prog.cellsOf 3 = 1 := by kernel_rfl
theorem ce23 : Tryz.prog.cellsOf 23 = 13 := by kernel_rfl

theorem byt_of {bs : List Int} (h : ∀ n ∈ bs, (Lit.int .u8 n).wf = true) : Byt bs := by
  intro i hi
  have h1 := h (bs.getD i 0) (by rw [getD_lt' hi]; exact List.getElem_mem hi)
  have e1 : IntKind.u8.min = 0 := rfl
  have e2 : IntKind.u8.max = 255 := rfl
  simp [Lit.wf, e1, e2] at h1
  simp only [List.getD_eq_getElem?_getD]
  omega

theorem u16_of {n : Int} (h : (Lit.int .u16 n).wf = true) : 0 ≤ n ∧ n < 65536 := by
  have e1 : IntKind.u16.min = 0 := rfl
  have e2 : IntKind.u16.max = 65535 := rfl
  simp [Lit.wf, e1, e2] at h
  omega
theorem u8_of {n : Int} (h : (Lit.int .u8 n).wf = true) : 0 ≤ n ∧ n < 256 := by
  have e1 : IntKind.u8.min = 0 := rfl
  have e2 : IntKind.u8.max = 255 := rfl
  simp [Lit.wf, e1, e2] at h
  omega
end Go.Proofs.YtkbgehhnimpleaaGreatDoor
