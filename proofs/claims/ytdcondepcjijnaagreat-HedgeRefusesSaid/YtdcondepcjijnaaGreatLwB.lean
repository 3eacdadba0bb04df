/-
  THE RUNS OF HedgeRefuses, at each kind of key, value and number. (Printed by tools/law18.py.)
-/
import Derived.Test.YtdcondepcjijnaaGreatLwA
namespace Go.Proofs
open Go.Ev

set_option maxRecDepth 1000000 in
theorem RAl : chkRun (.bool true) 1903 .e (evalM Tryz.prog hookM 100000 3 [.slice none 0 0 true, .any, .rng .i64 (-9223372036854775808) 0] ⟨993, .e⟩) = true := by kernel_rfl
set_option maxRecDepth 1000000 in
theorem RAm : chkRun (.bool true) 1906 .e (evalM Tryz.prog hookM 100000 3 [.slice none 0 0 true, .any, .int .i64 1] ⟨993, .e⟩) = true := by kernel_rfl
set_option maxRecDepth 1000000 in
theorem RAh : chkRun (.bool true) 1903 .e (evalM Tryz.prog hookM 100000 3 [.slice none 0 0 true, .any, .rng .i64 2 9223372036854775807] ⟨993, .e⟩) = true := by kernel_rfl
set_option maxRecDepth 1000000 in
theorem RBl : chkRun (.bool true) 1903 .e (evalM Tryz.prog hookM 100000 3 [.sliceU 0 0 0, .any, .rng .i64 (-9223372036854775808) 0] ⟨992, .e⟩) = true := by kernel_rfl
set_option maxRecDepth 1000000 in
theorem RBm : chkRun (.bool true) 1906 .e (evalM Tryz.prog hookM 100000 3 [.sliceU 0 0 0, .any, .int .i64 1] ⟨992, .e⟩) = true := by kernel_rfl
set_option maxRecDepth 1000000 in
theorem RBh : chkRun (.bool true) 1903 .e (evalM Tryz.prog hookM 100000 3 [.sliceU 0 0 0, .any, .rng .i64 2 9223372036854775807] ⟨992, .e⟩) = true := by kernel_rfl
set_option maxRecDepth 1000000 in
theorem RCl : chkRun (.bool true) 1903 (tO [(0, .fixed)]) (evalM Tryz.prog hookM 100000 3 [.sliceT 0 129 140737488351232, .any, .rng .i64 (-9223372036854775808) 0] ⟨991, (tO [(0, .fixed)])⟩) = true := by kernel_rfl
set_option maxRecDepth 1000000 in
theorem RCm : chkRun (.bool true) 1906 (tO [(0, .fixed)]) (evalM Tryz.prog hookM 100000 3 [.sliceT 0 129 140737488351232, .any, .int .i64 1] ⟨991, (tO [(0, .fixed)])⟩) = true := by kernel_rfl
set_option maxRecDepth 1000000 in
theorem RCh : chkRun (.bool true) 1903 (tO [(0, .fixed)]) (evalM Tryz.prog hookM 100000 3 [.sliceT 0 129 140737488351232, .any, .rng .i64 2 9223372036854775807] ⟨991, (tO [(0, .fixed)])⟩) = true := by kernel_rfl
set_option maxRecDepth 1000000 in
theorem RD1l : chkRun (.bool true) 1948 (tO [(0, .fixed)]) (evalM Tryz.prog hookM 100000 3 [.sliceT 0 1 128, .sliceF 0 0 96, .rng .i64 (-9223372036854775808) 0] ⟨991, (tO [(0, .fixed)])⟩) = true := by kernel_rfl
set_option maxRecDepth 1000000 in
theorem RD1m : chkRun (.bool true) 1951 (tO [(0, .fixed)]) (evalM Tryz.prog hookM 100000 3 [.sliceT 0 1 128, .sliceF 0 0 96, .int .i64 1] ⟨991, (tO [(0, .fixed)])⟩) = true := by kernel_rfl
set_option maxRecDepth 1000000 in
theorem RD1h : chkRun (.bool true) 1948 (tO [(0, .fixed)]) (evalM Tryz.prog hookM 100000 3 [.sliceT 0 1 128, .sliceF 0 0 96, .rng .i64 2 9223372036854775807] ⟨991, (tO [(0, .fixed)])⟩) = true := by kernel_rfl
set_option maxRecDepth 1000000 in
theorem RD2l : chkRun (.bool true) 1910 (tO [(0, .fixed)]) (evalM Tryz.prog hookM 100000 3 [.sliceT 0 1 128, .sliceF 0 97 70000, .rng .i64 (-9223372036854775808) 0] ⟨991, (tO [(0, .fixed)])⟩) = true := by kernel_rfl
set_option maxRecDepth 1000000 in
theorem RD2m : chkRun (.bool true) 1913 (tO [(0, .fixed)]) (evalM Tryz.prog hookM 100000 3 [.sliceT 0 1 128, .sliceF 0 97 70000, .int .i64 1] ⟨991, (tO [(0, .fixed)])⟩) = true := by kernel_rfl
set_option maxRecDepth 1000000 in
theorem RD2h : chkRun (.bool true) 1910 (tO [(0, .fixed)]) (evalM Tryz.prog hookM 100000 3 [.sliceT 0 1 128, .sliceF 0 97 70000, .rng .i64 2 9223372036854775807] ⟨991, (tO [(0, .fixed)])⟩) = true := by kernel_rfl
set_option maxRecDepth 1000000 in
theorem RD3l : chkRun (.bool true) 1907 (tO [(0, .fixed)]) (evalM Tryz.prog hookM 100000 3 [.sliceT 0 1 128, .sliceF 0 70001 140737488351232, .rng .i64 (-9223372036854775808) 0] ⟨991, (tO [(0, .fixed)])⟩) = true := by kernel_rfl
set_option maxRecDepth 1000000 in
theorem RD3m : chkRun (.bool true) 1910 (tO [(0, .fixed)]) (evalM Tryz.prog hookM 100000 3 [.sliceT 0 1 128, .sliceF 0 70001 140737488351232, .int .i64 1] ⟨991, (tO [(0, .fixed)])⟩) = true := by kernel_rfl
set_option maxRecDepth 1000000 in
theorem RD3h : chkRun (.bool true) 1907 (tO [(0, .fixed)]) (evalM Tryz.prog hookM 100000 3 [.sliceT 0 1 128, .sliceF 0 70001 140737488351232, .rng .i64 2 9223372036854775807] ⟨991, (tO [(0, .fixed)])⟩) = true := by kernel_rfl
set_option maxRecDepth 1000000 in
theorem RE1l : chkRun (.bool true) 1948 (tO [(0, .fixed), (1, .fixed)]) (evalM Tryz.prog hookM 100000 3 [.sliceT 0 1 128, .sliceF 1 0 96, .rng .i64 (-9223372036854775808) 0] ⟨991, (tO [(0, .fixed), (1, .fixed)])⟩) = true := by kernel_rfl
set_option maxRecDepth 1000000 in
theorem RE1m : chkRun (.bool true) 1951 (tO [(0, .fixed), (1, .fixed)]) (evalM Tryz.prog hookM 100000 3 [.sliceT 0 1 128, .sliceF 1 0 96, .int .i64 1] ⟨991, (tO [(0, .fixed), (1, .fixed)])⟩) = true := by kernel_rfl
set_option maxRecDepth 1000000 in
theorem RE1h : chkRun (.bool true) 1948 (tO [(0, .fixed), (1, .fixed)]) (evalM Tryz.prog hookM 100000 3 [.sliceT 0 1 128, .sliceF 1 0 96, .rng .i64 2 9223372036854775807] ⟨991, (tO [(0, .fixed), (1, .fixed)])⟩) = true := by kernel_rfl
set_option maxRecDepth 1000000 in
theorem RE2l : chkRun (.bool true) 1910 (tO [(0, .fixed), (1, .fixed)]) (evalM Tryz.prog hookM 100000 3 [.sliceT 0 1 128, .sliceF 1 97 70000, .rng .i64 (-9223372036854775808) 0] ⟨991, (tO [(0, .fixed), (1, .fixed)])⟩) = true := by kernel_rfl
set_option maxRecDepth 1000000 in
theorem RE2m : chkRun (.bool true) 1913 (tO [(0, .fixed), (1, .fixed)]) (evalM Tryz.prog hookM 100000 3 [.sliceT 0 1 128, .sliceF 1 97 70000, .int .i64 1] ⟨991, (tO [(0, .fixed), (1, .fixed)])⟩) = true := by kernel_rfl
set_option maxRecDepth 1000000 in
theorem RE2h : chkRun (.bool true) 1910 (tO [(0, .fixed), (1, .fixed)]) (evalM Tryz.prog hookM 100000 3 [.sliceT 0 1 128, .sliceF 1 97 70000, .rng .i64 2 9223372036854775807] ⟨991, (tO [(0, .fixed), (1, .fixed)])⟩) = true := by kernel_rfl
set_option maxRecDepth 1000000 in
theorem RE3l : chkRun (.bool true) 1907 (tO [(0, .fixed), (1, .fixed)]) (evalM Tryz.prog hookM 100000 3 [.sliceT 0 1 128, .sliceF 1 70001 140737488351232, .rng .i64 (-9223372036854775808) 0] ⟨991, (tO [(0, .fixed), (1, .fixed)])⟩) = true := by kernel_rfl
set_option maxRecDepth 1000000 in
theorem RE3m : chkRun (.bool true) 1910 (tO [(0, .fixed), (1, .fixed)]) (evalM Tryz.prog hookM 100000 3 [.sliceT 0 1 128, .sliceF 1 70001 140737488351232, .int .i64 1] ⟨991, (tO [(0, .fixed), (1, .fixed)])⟩) = true := by kernel_rfl
set_option maxRecDepth 1000000 in
theorem RE3h : chkRun (.bool true) 1907 (tO [(0, .fixed), (1, .fixed)]) (evalM Tryz.prog hookM 100000 3 [.sliceT 0 1 128, .sliceF 1 70001 140737488351232, .rng .i64 2 9223372036854775807] ⟨991, (tO [(0, .fixed), (1, .fixed)])⟩) = true := by kernel_rfl

end Go.Proofs
