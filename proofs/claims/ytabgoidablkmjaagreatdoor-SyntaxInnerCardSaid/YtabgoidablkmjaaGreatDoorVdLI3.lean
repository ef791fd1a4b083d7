/- Cases, by the kernel. -/
import Derived.Test.YtabgoidablkmjaaGreatDoorVdL10
set_option linter.unusedVariables false
set_option linter.unusedSimpArgs false
namespace Go.Vd.L
open Go.Vd
theorem I_4_32_18 : okT (run C2 1000 (.call 6 [.cls .u8 6 4, .cls .u8 32 18] H0)) = true := by kernel_rfl
theorem I_4_32_19 : okT (run C2 1000 (.call 6 [.cls .u8 6 4, .cls .u8 32 19] H0)) = true := by kernel_rfl
theorem I_4_32_20 : okT (run C2 1000 (.call 6 [.cls .u8 6 4, .cls .u8 32 20] H0)) = true := by kernel_rfl
theorem I_4_32_21 : okT (run C2 1000 (.call 6 [.cls .u8 6 4, .cls .u8 32 21] H0)) = true := by kernel_rfl
theorem I_4_32_22 : okT (run C2 1000 (.call 6 [.cls .u8 6 4, .cls .u8 32 22] H0)) = true := by kernel_rfl
theorem I_4_32_23 : okT (run C2 1000 (.call 6 [.cls .u8 6 4, .cls .u8 32 23] H0)) = true := by kernel_rfl
theorem I_4_32_24 : okT (run C2 1000 (.call 6 [.cls .u8 6 4, .cls .u8 32 24] H0)) = true := by kernel_rfl
theorem I_4_32_25 : okT (run C2 1000 (.call 6 [.cls .u8 6 4, .cls .u8 32 25] H0)) = true := by kernel_rfl
theorem I_4_32_26 : okT (run C2 1000 (.call 6 [.cls .u8 6 4, .cls .u8 32 26] H0)) = true := by kernel_rfl
theorem I_4_32_27 : okT (run C2 1000 (.call 6 [.cls .u8 6 4, .cls .u8 32 27] H0)) = true := by kernel_rfl
theorem I_4_32_28 : okT (run C2 1000 (.call 6 [.cls .u8 6 4, .cls .u8 32 28] H0)) = true := by kernel_rfl
theorem I_4_32_29 : okT (run C2 1000 (.call 6 [.cls .u8 6 4, .cls .u8 32 29] H0)) = true := by kernel_rfl
theorem I_4_32_30 : okT (run C2 1000 (.call 6 [.cls .u8 6 4, .cls .u8 32 30] H0)) = true := by kernel_rfl
theorem I_4_32_31 : okT (run C2 1000 (.call 6 [.cls .u8 6 4, .cls .u8 32 31] H0)) = true := by kernel_rfl
theorem I_5_64_0 : okT (run C2 1000 (.call 6 [.cls .u8 6 5, .cls .u8 64 0] H0)) = true := by kernel_rfl
theorem I_5_64_1 : okT (run C2 1000 (.call 6 [.cls .u8 6 5, .cls .u8 64 1] H0)) = true := by kernel_rfl
end Go.Vd.L
