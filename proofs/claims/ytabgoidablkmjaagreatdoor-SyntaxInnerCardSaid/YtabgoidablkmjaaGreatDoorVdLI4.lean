/- Cases, by the kernel. -/
import Derived.Test.YtabgoidablkmjaaGreatDoorVdL10
set_option linter.unusedVariables false
set_option linter.unusedSimpArgs false
namespace Go.Vd.L
open Go.Vd
theorem I_5_64_2 : okT (run C2 1000 (.call 6 [.cls .u8 6 5, .cls .u8 64 2] H0)) = true := by kernel_rfl
theorem I_5_64_3 : okT (run C2 1000 (.call 6 [.cls .u8 6 5, .cls .u8 64 3] H0)) = true := by kernel_rfl
theorem I_5_64_4 : okT (run C2 1000 (.call 6 [.cls .u8 6 5, .cls .u8 64 4] H0)) = true := by kernel_rfl
theorem I_5_64_5 : okT (run C2 1000 (.call 6 [.cls .u8 6 5, .cls .u8 64 5] H0)) = true := by kernel_rfl
theorem I_5_64_6 : okT (run C2 1000 (.call 6 [.cls .u8 6 5, .cls .u8 64 6] H0)) = true := by kernel_rfl
theorem I_5_64_7 : okT (run C2 1000 (.call 6 [.cls .u8 6 5, .cls .u8 64 7] H0)) = true := by kernel_rfl
theorem I_5_64_8 : okT (run C2 1000 (.call 6 [.cls .u8 6 5, .cls .u8 64 8] H0)) = true := by kernel_rfl
theorem I_5_64_9 : okT (run C2 1000 (.call 6 [.cls .u8 6 5, .cls .u8 64 9] H0)) = true := by kernel_rfl
theorem I_5_64_10 : okT (run C2 1000 (.call 6 [.cls .u8 6 5, .cls .u8 64 10] H0)) = true := by kernel_rfl
theorem I_5_64_11 : okT (run C2 1000 (.call 6 [.cls .u8 6 5, .cls .u8 64 11] H0)) = true := by kernel_rfl
theorem I_5_64_12 : okT (run C2 1000 (.call 6 [.cls .u8 6 5, .cls .u8 64 12] H0)) = true := by kernel_rfl
theorem I_5_64_13 : okT (run C2 1000 (.call 6 [.cls .u8 6 5, .cls .u8 64 13] H0)) = true := by kernel_rfl
theorem I_5_64_14 : okT (run C2 1000 (.call 6 [.cls .u8 6 5, .cls .u8 64 14] H0)) = true := by kernel_rfl
theorem I_5_64_15 : okT (run C2 1000 (.call 6 [.cls .u8 6 5, .cls .u8 64 15] H0)) = true := by kernel_rfl
theorem I_5_64_16 : okT (run C2 1000 (.call 6 [.cls .u8 6 5, .cls .u8 64 16] H0)) = true := by kernel_rfl
theorem I_5_64_17 : okT (run C2 1000 (.call 6 [.cls .u8 6 5, .cls .u8 64 17] H0)) = true := by kernel_rfl
end Go.Vd.L
