/- Cases, by the kernel. -/
import Derived.Test.YtabgoidablkmjaaGreatDoorVdL10
set_option linter.unusedVariables false
set_option linter.unusedSimpArgs false
namespace Go.Vd.L
open Go.Vd
theorem I_3_16_2 : okT (run C2 1000 (.call 6 [.cls .u8 6 3, .cls .u8 16 2] H0)) = true := by kernel_rfl
theorem I_3_16_3 : okT (run C2 1000 (.call 6 [.cls .u8 6 3, .cls .u8 16 3] H0)) = true := by kernel_rfl
theorem I_3_16_4 : okT (run C2 1000 (.call 6 [.cls .u8 6 3, .cls .u8 16 4] H0)) = true := by kernel_rfl
theorem I_3_16_5 : okT (run C2 1000 (.call 6 [.cls .u8 6 3, .cls .u8 16 5] H0)) = true := by kernel_rfl
theorem I_3_16_6 : okT (run C2 1000 (.call 6 [.cls .u8 6 3, .cls .u8 16 6] H0)) = true := by kernel_rfl
theorem I_3_16_7 : okT (run C2 1000 (.call 6 [.cls .u8 6 3, .cls .u8 16 7] H0)) = true := by kernel_rfl
theorem I_3_16_8 : okT (run C2 1000 (.call 6 [.cls .u8 6 3, .cls .u8 16 8] H0)) = true := by kernel_rfl
theorem I_3_16_9 : okT (run C2 1000 (.call 6 [.cls .u8 6 3, .cls .u8 16 9] H0)) = true := by kernel_rfl
theorem I_3_16_10 : okT (run C2 1000 (.call 6 [.cls .u8 6 3, .cls .u8 16 10] H0)) = true := by kernel_rfl
theorem I_3_16_11 : okT (run C2 1000 (.call 6 [.cls .u8 6 3, .cls .u8 16 11] H0)) = true := by kernel_rfl
theorem I_3_16_12 : okT (run C2 1000 (.call 6 [.cls .u8 6 3, .cls .u8 16 12] H0)) = true := by kernel_rfl
theorem I_3_16_13 : okT (run C2 1000 (.call 6 [.cls .u8 6 3, .cls .u8 16 13] H0)) = true := by kernel_rfl
theorem I_3_16_14 : okT (run C2 1000 (.call 6 [.cls .u8 6 3, .cls .u8 16 14] H0)) = true := by kernel_rfl
theorem I_3_16_15 : okT (run C2 1000 (.call 6 [.cls .u8 6 3, .cls .u8 16 15] H0)) = true := by kernel_rfl
theorem I_4_32_0 : okT (run C2 1000 (.call 6 [.cls .u8 6 4, .cls .u8 32 0] H0)) = true := by kernel_rfl
theorem I_4_32_1 : okT (run C2 1000 (.call 6 [.cls .u8 6 4, .cls .u8 32 1] H0)) = true := by kernel_rfl
end Go.Vd.L
