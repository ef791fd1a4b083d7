/- Cases, by the kernel. -/
import Derived.Test.YtabgoidablkmjaaGreatDoorVdL10
set_option linter.unusedVariables false
set_option linter.unusedSimpArgs false
namespace Go.Vd.L
open Go.Vd
theorem I_0_2_0 : okT (run C2 1000 (.call 6 [.cls .u8 6 0, .cls .u8 2 0] H0)) = true := by kernel_rfl
theorem I_0_2_1 : okT (run C2 1000 (.call 6 [.cls .u8 6 0, .cls .u8 2 1] H0)) = true := by kernel_rfl
theorem I_1_4_0 : okT (run C2 1000 (.call 6 [.cls .u8 6 1, .cls .u8 4 0] H0)) = true := by kernel_rfl
theorem I_1_4_1 : okT (run C2 1000 (.call 6 [.cls .u8 6 1, .cls .u8 4 1] H0)) = true := by kernel_rfl
theorem I_1_4_2 : okT (run C2 1000 (.call 6 [.cls .u8 6 1, .cls .u8 4 2] H0)) = true := by kernel_rfl
theorem I_1_4_3 : okT (run C2 1000 (.call 6 [.cls .u8 6 1, .cls .u8 4 3] H0)) = true := by kernel_rfl
theorem I_2_8_0 : okT (run C2 1000 (.call 6 [.cls .u8 6 2, .cls .u8 8 0] H0)) = true := by kernel_rfl
theorem I_2_8_1 : okT (run C2 1000 (.call 6 [.cls .u8 6 2, .cls .u8 8 1] H0)) = true := by kernel_rfl
theorem I_2_8_2 : okT (run C2 1000 (.call 6 [.cls .u8 6 2, .cls .u8 8 2] H0)) = true := by kernel_rfl
theorem I_2_8_3 : okT (run C2 1000 (.call 6 [.cls .u8 6 2, .cls .u8 8 3] H0)) = true := by kernel_rfl
theorem I_2_8_4 : okT (run C2 1000 (.call 6 [.cls .u8 6 2, .cls .u8 8 4] H0)) = true := by kernel_rfl
theorem I_2_8_5 : okT (run C2 1000 (.call 6 [.cls .u8 6 2, .cls .u8 8 5] H0)) = true := by kernel_rfl
theorem I_2_8_6 : okT (run C2 1000 (.call 6 [.cls .u8 6 2, .cls .u8 8 6] H0)) = true := by kernel_rfl
theorem I_2_8_7 : okT (run C2 1000 (.call 6 [.cls .u8 6 2, .cls .u8 8 7] H0)) = true := by kernel_rfl
theorem I_3_16_0 : okT (run C2 1000 (.call 6 [.cls .u8 6 3, .cls .u8 16 0] H0)) = true := by kernel_rfl
theorem I_3_16_1 : okT (run C2 1000 (.call 6 [.cls .u8 6 3, .cls .u8 16 1] H0)) = true := by kernel_rfl
end Go.Vd.L
