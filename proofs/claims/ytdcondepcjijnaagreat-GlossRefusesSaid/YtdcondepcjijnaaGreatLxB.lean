/-
  THE RUNS OF GlossRefuses, at each kind of text and number. (Printed by tools/law19.py.)
-/
import Derived.Test.YtdcondepcjijnaaGreatLxA
namespace Go.Proofs
open Go.Ev

set_option maxRecDepth 1000000 in
theorem Qsl : chkRun (.bool true) 1955 .e (evalM Tryz.prog hookGM 100000 5 [.strU 0 100, .rng .i64 (-9223372036854775808) 0] ⟨997, .e⟩) = true := by kernel_rfl
set_option maxRecDepth 1000000 in
theorem Qsm : chkRun (.bool true) 1959 .e (evalM Tryz.prog hookGM 100000 5 [.strU 0 100, .int .i64 1] ⟨997, .e⟩) = true := by kernel_rfl
set_option maxRecDepth 1000000 in
theorem Qsh : chkRun (.bool true) 1955 .e (evalM Tryz.prog hookGM 100000 5 [.strU 0 100, .rng .i64 2 9223372036854775807] ⟨997, .e⟩) = true := by kernel_rfl
set_option maxRecDepth 1000000 in
theorem Qll : chkRun (.bool true) 1895 .e (evalM Tryz.prog hookGM 100000 5 [.strU 101 140737488351232, .rng .i64 (-9223372036854775808) 0] ⟨997, .e⟩) = true := by kernel_rfl
set_option maxRecDepth 1000000 in
theorem Qlm : chkRun (.bool true) 1899 .e (evalM Tryz.prog hookGM 100000 5 [.strU 101 140737488351232, .int .i64 1] ⟨997, .e⟩) = true := by kernel_rfl
set_option maxRecDepth 1000000 in
theorem Qlh : chkRun (.bool true) 1895 .e (evalM Tryz.prog hookGM 100000 5 [.strU 101 140737488351232, .rng .i64 2 9223372036854775807] ⟨997, .e⟩) = true := by kernel_rfl

end Go.Proofs
