/- Cases, by the kernel. -/
import Derived.Test.YtabgoidablkmjaaGreatDoorVdL10
set_option linter.unusedVariables false
set_option linter.unusedSimpArgs false
namespace Go.Vd.L
open Go.Vd
theorem I_4_32_2 : okT (run C2 1000 (.call 6 [.cls .u8 6 4, .cls .u8 32 2] H0)) = true := by kernel_rfl
theorem I_4_32_3 : okT (run C2 1000 (.call 6 [.cls .u8 6 4, .cls .u8 32 3] H0)) = true := by kernel_rfl
theorem I_4_32_4 : okT (run C2 1000 (.call 6 [.cls .u8 6 4, .cls .u8 32 4] H0)) = true := by kernel_rfl
theorem I_4_32_5 : okT (run C2 1000 (.call 6 [.cls .u8 6 4, .cls .u8 32 5] H0)) = true := by kernel_rfl
theorem I_4_32_6 : okT (run C2 1000 (.call 6 [.cls .u8 6 4, .cls .u8 32 6] H0)) = true := by kernel_rfl
theorem I_4_32_7 : okT (run C2 1000 (.call 6 [.cls .u8 6 4, .cls .u8 32 7] H0)) = true := by kernel_rfl
theorem I_4_32_8 : okT (run C2 1000 (.call 6 [.cls .u8 6 4, .cls .u8 32 8] H0)) = true := by kernel_rfl
theorem I_4_32_9 : okT (run C2 1000 (.call 6 [.cls .u8 6 4, .cls .u8 32 9] H0)) = true := by kernel_rfl
theorem I_4_32_10 : okT (run C2 1000 (.call 6 [.cls .u8 6 4, .cls .u8 32 10] H0)) = true := by kernel_rfl
theorem I_4_32_11 : okT (run C2 1000 (.call 6 [.cls .u8 6 4, .cls .u8 32 11] H0)) = true := by kernel_rfl
theorem I_4_32_12 : okT (run C2 1000 (.call 6 [.cls .u8 6 4, .cls .u8 32 12] H0)) = true := by kernel_rfl
theorem I_4_32_13 : okT (run C2 1000 (.call 6 [.cls .u8 6 4, .cls .u8 32 13] H0)) = true := by kernel_rfl
theorem I_4_32_14 : okT (run C2 1000 (.call 6 [.cls .u8 6 4, .cls .u8 32 14] H0)) = true := by kernel_rfl
theorem I_4_32_15 : okT (run C2 1000 (.call 6 [.cls .u8 6 4, .cls .u8 32 15] H0)) = true := by kernel_rfl
theorem I_4_32_16 : okT (run C2 1000 (.call 6 [.cls .u8 6 4, .cls .u8 32 16] H0)) = true := by kernel_rfl
theorem I_4_32_17 : okT (run C2 1000 (.call 6 [.cls .u8 6 4, .cls .u8 32 17] H0)) = true := by kernel_rfl
end Go.Vd.L
