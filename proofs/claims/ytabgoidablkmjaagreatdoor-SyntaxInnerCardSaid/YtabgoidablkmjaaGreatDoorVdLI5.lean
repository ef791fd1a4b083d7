/- Cases, by the kernel. -/
import Derived.Test.YtabgoidablkmjaaGreatDoorVdL10
set_option linter.unusedVariables false
set_option linter.unusedSimpArgs false
namespace Go.Vd.L
open Go.Vd
theorem I_5_64_18 : okT (run C2 1000 (.call 6 [.cls .u8 6 5, .cls .u8 64 18] H0)) = true := by kernel_rfl
theorem I_5_64_19 : okT (run C2 1000 (.call 6 [.cls .u8 6 5, .cls .u8 64 19] H0)) = true := by kernel_rfl
theorem I_5_64_20 : okT (run C2 1000 (.call 6 [.cls .u8 6 5, .cls .u8 64 20] H0)) = true := by kernel_rfl
theorem I_5_64_21 : okT (run C2 1000 (.call 6 [.cls .u8 6 5, .cls .u8 64 21] H0)) = true := by kernel_rfl
theorem I_5_64_22 : okT (run C2 1000 (.call 6 [.cls .u8 6 5, .cls .u8 64 22] H0)) = true := by kernel_rfl
theorem I_5_64_23 : okT (run C2 1000 (.call 6 [.cls .u8 6 5, .cls .u8 64 23] H0)) = true := by kernel_rfl
theorem I_5_64_24 : okT (run C2 1000 (.call 6 [.cls .u8 6 5, .cls .u8 64 24] H0)) = true := by kernel_rfl
theorem I_5_64_25 : okT (run C2 1000 (.call 6 [.cls .u8 6 5, .cls .u8 64 25] H0)) = true := by kernel_rfl
theorem I_5_64_26 : okT (run C2 1000 (.call 6 [.cls .u8 6 5, .cls .u8 64 26] H0)) = true := by kernel_rfl
theorem I_5_64_27 : okT (run C2 1000 (.call 6 [.cls .u8 6 5, .cls .u8 64 27] H0)) = true := by kernel_rfl
theorem I_5_64_28 : okT (run C2 1000 (.call 6 [.cls .u8 6 5, .cls .u8 64 28] H0)) = true := by kernel_rfl
theorem I_5_64_29 : okT (run C2 1000 (.call 6 [.cls .u8 6 5, .cls .u8 64 29] H0)) = true := by kernel_rfl
theorem I_5_64_30 : okT (run C2 1000 (.call 6 [.cls .u8 6 5, .cls .u8 64 30] H0)) = true := by kernel_rfl
theorem I_5_64_31 : okT (run C2 1000 (.call 6 [.cls .u8 6 5, .cls .u8 64 31] H0)) = true := by kernel_rfl
theorem I_5_64_32 : okT (run C2 1000 (.call 6 [.cls .u8 6 5, .cls .u8 64 32] H0)) = true := by kernel_rfl
theorem I_5_64_33 : okT (run C2 1000 (.call 6 [.cls .u8 6 5, .cls .u8 64 33] H0)) = true := by kernel_rfl
end Go.Vd.L
