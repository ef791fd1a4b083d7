/- Cases, by the kernel. -/
import Derived.Test.YtabgoidablkmjaaGreatDoorVdL10
set_option linter.unusedVariables false
set_option linter.unusedSimpArgs false
namespace Go.Vd.L
open Go.Vd
theorem I_5_64_50 : okT (run C2 1000 (.call 6 [.cls .u8 6 5, .cls .u8 64 50] H0)) = true := by kernel_rfl
theorem I_5_64_51 : okT (run C2 1000 (.call 6 [.cls .u8 6 5, .cls .u8 64 51] H0)) = true := by kernel_rfl
theorem I_5_64_52 : okT (run C2 1000 (.call 6 [.cls .u8 6 5, .cls .u8 64 52] H0)) = true := by kernel_rfl
theorem I_5_64_53 : okT (run C2 1000 (.call 6 [.cls .u8 6 5, .cls .u8 64 53] H0)) = true := by kernel_rfl
theorem I_5_64_54 : okT (run C2 1000 (.call 6 [.cls .u8 6 5, .cls .u8 64 54] H0)) = true := by kernel_rfl
theorem I_5_64_55 : okT (run C2 1000 (.call 6 [.cls .u8 6 5, .cls .u8 64 55] H0)) = true := by kernel_rfl
theorem I_5_64_56 : okT (run C2 1000 (.call 6 [.cls .u8 6 5, .cls .u8 64 56] H0)) = true := by kernel_rfl
theorem I_5_64_57 : okT (run C2 1000 (.call 6 [.cls .u8 6 5, .cls .u8 64 57] H0)) = true := by kernel_rfl
theorem I_5_64_58 : okT (run C2 1000 (.call 6 [.cls .u8 6 5, .cls .u8 64 58] H0)) = true := by kernel_rfl
theorem I_5_64_59 : okT (run C2 1000 (.call 6 [.cls .u8 6 5, .cls .u8 64 59] H0)) = true := by kernel_rfl
theorem I_5_64_60 : okT (run C2 1000 (.call 6 [.cls .u8 6 5, .cls .u8 64 60] H0)) = true := by kernel_rfl
theorem I_5_64_61 : okT (run C2 1000 (.call 6 [.cls .u8 6 5, .cls .u8 64 61] H0)) = true := by kernel_rfl
theorem I_5_64_62 : okT (run C2 1000 (.call 6 [.cls .u8 6 5, .cls .u8 64 62] H0)) = true := by kernel_rfl
theorem I_5_64_63 : okT (run C2 1000 (.call 6 [.cls .u8 6 5, .cls .u8 64 63] H0)) = true := by kernel_rfl
end Go.Vd.L
