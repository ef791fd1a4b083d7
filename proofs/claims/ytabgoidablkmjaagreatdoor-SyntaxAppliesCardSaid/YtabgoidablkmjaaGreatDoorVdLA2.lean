/- Cases, by the kernel. -/
import Derived.Test.YtabgoidablkmjaaGreatDoorVdL10
set_option linter.unusedVariables false
set_option linter.unusedSimpArgs false
namespace Go.Vd.L
open Go.Vd
theorem A_2_6_0 : okT (run C2 1000 (.call 5 [.cls .u8 8 2, .cls .u8 6 0] H0)) = true := by kernel_rfl
theorem A_2_6_1 : okT (run C2 1000 (.call 5 [.cls .u8 8 2, .cls .u8 6 1] H0)) = true := by kernel_rfl
theorem A_2_6_2 : okT (run C2 1000 (.call 5 [.cls .u8 8 2, .cls .u8 6 2] H0)) = true := by kernel_rfl
theorem A_2_6_3 : okT (run C2 1000 (.call 5 [.cls .u8 8 2, .cls .u8 6 3] H0)) = true := by kernel_rfl
theorem A_2_6_4 : okT (run C2 1000 (.call 5 [.cls .u8 8 2, .cls .u8 6 4] H0)) = true := by kernel_rfl
theorem A_2_6_5 : okT (run C2 1000 (.call 5 [.cls .u8 8 2, .cls .u8 6 5] H0)) = true := by kernel_rfl
end Go.Vd.L
