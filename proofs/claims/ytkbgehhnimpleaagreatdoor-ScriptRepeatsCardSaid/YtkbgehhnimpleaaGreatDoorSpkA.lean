/- An abstract reading of the program, and what it answers. By an AI agent. -/
import Derived.Test.YtkbgehhnimpleaaGreatDoorSFacts
set_option linter.all false
namespace Go.Abs
open Go.Proofs

/-- What the example leaves. -/
def sig1 : Store := [
  none,
  none,
  none,
  none,
  none,
  none,
  none,
  none,
  none,
  none,
  none,
  none,
  none,
  some [.sc (.int .u8 1), .sc (.int .u8 0), .sc (.int .u8 0), .sc (.int .u8 0), .sc (.int .u8 1), .sc (.int .u8 0), .sc (.int .u8 0), .sc (.int .u8 0), .sc (.int .u8 1), .sc (.int .u8 0), .sc (.int .u8 0), .sc (.int .u8 0), .sc (.int .u8 1), .sc (.int .u8 0), .sc (.int .u8 0), .sc (.int .u8 0), .sc (.int .u8 1), .sc (.int .u8 0), .sc (.int .u8 0), .sc (.int .u8 0), .sc (.int .u8 0), .sc (.int .u8 0), .sc (.int .u8 0), .sc (.int .u8 0), .sc (.int .u8 0), .sc (.int .u8 0), .sc (.int .u8 0), .sc (.int .u8 0), .sc (.int .u8 0), .sc (.int .u8 0), .sc (.int .u8 0), .sc (.int .u8 0), .sc (.int .u8 1), .sc (.int .u8 0), .sc (.int .u8 0), .sc (.int .u8 0), .sc (.int .u8 1), .sc (.int .u8 0), .sc (.int .u8 0), .sc (.int .u8 0), .sc (.int .u8 1), .sc (.int .u8 0), .sc (.int .u8 0), .sc (.int .u8 0), .sc (.int .u8 0), .sc (.int .u8 0), .sc (.int .u8 0), .sc (.int .u8 0), .sc (.int .u8 0), .sc (.int .u8 0), .sc (.int .u8 0), .sc (.int .u8 0), .sc (.int .u8 8)],
  some [.sc (.int .u64 0), .sc (.int .u64 1), .sc (.int .u64 1), .sc (.int .u64 0), .sc (.int .u64 0), .sc (.int .u64 0), .sc (.int .u64 0), .sc (.int .u64 0), .sc (.int .u64 0), .sc (.int .u64 0), .sc (.int .u64 0), .sc (.int .u64 0), .sc (.int .u64 0), .sc (.int .u64 0), .sc (.int .u64 0), .sc (.int .u64 0)],
  some [.sc (.int .u64 3), .sc (.int .u64 1), .sc (.int .u64 1), .sc (.int .u64 0), .sc (.int .u64 0), .sc (.int .u64 0), .sc (.int .u64 0), .sc (.int .u64 0), .sc (.int .u64 0), .sc (.int .u64 0), .sc (.int .u64 0), .sc (.int .u64 0), .sc (.int .u64 0), .sc (.int .u64 0), .sc (.int .u64 0), .sc (.int .u64 0)],
  some [.gs 15 0 16 1 (some 16), I 3],
  some [.ip [I 1, I 1, I 1, I 1, I 1, I 0, I 0, I 0, I 1, I 1, I 1, I 0, I 0, I 2, I 6, I 9, I 13, I 16], .gp 16 0, .gs 28 0 3 12 none],
  some [.sc (.pointer none)],
  some [.gp 17 0, .gs 18 0 1 1 (some 1), I 0],
  some [.sc (.bool true)],
  some [I 1, I 0, I 0, I 0, I 0, I 0, I 0, I 0, I 0, I 0, .sc (.bool false), I 0],
  none,
  some [.sc (.bool true)],
  some [I 1, I 0, I 0, I 0, I 0, I 0, I 0, I 0, I 0, I 0, .sc (.bool false), I 0],
  none,
  some [.sc (.bool true)],
  some [I 1, I 0, I 0, I 0, I 0, I 0, I 0, I 0, I 0, I 0, .sc (.bool false), I 0],
  some [I 1, I 0, I 0, I 0, I 0, I 0, I 0, I 1, I 0, I 0, .sc (.bool false), I 0, I 1, I 0, I 0, I 0, I 0, I 0, I 0, I 2, I 0, I 0, .sc (.bool false), I 0, I 1, I 0, I 0, I 0, I 0, I 0, I 0, I 3, I 0, I 0, .sc (.bool false), I 0],
  some [I 1, I 0, I 0, I 0, I 0, I 0, I 0, I 0, I 0, I 0, .sc (.bool false), I 0],
  some [I 1, I 0, I 0, I 0, I 0, I 0, I 0, I 0, I 0, I 0, .sc (.bool false), I 0],
  some [I 1, I 0, I 0, I 0, I 0, I 0, I 0, I 0, I 0, I 0, .sc (.bool false), I 0]
  ]
theorem spkA : aeval ES 60 8 [] [] = some (.sc (.bool true), sig1) := by kernel_rfl
end Go.Abs
