/- Cases, by the kernel. -/
import Derived.Test.YtabgoidablkmjaaGreatDoorVdL10
set_option linter.unusedVariables false
set_option linter.unusedSimpArgs false
namespace Go.Vd.L
open Go.Vd
theorem I_5_64_34 : okT (run C2 1000 (.call 6 [.cls .u8 6 5, .cls .u8 64 34] H0)) = true := by kernel_rfl
theorem I_5_64_35 : okT (run C2 1000 (.call 6 [.cls .u8 6 5, .cls .u8 64 35] H0)) = true := by kernel_rfl
theorem I_5_64_36 : okT (run C2 1000 (.call 6 [.cls .u8 6 5, .cls .u8 64 36] H0)) = true := by kernel_rfl
theorem I_5_64_37 : okT (run C2 1000 (.call 6 [.cls .u8 6 5, .cls .u8 64 37] H0)) = true := by kernel_rfl
theorem I_5_64_38 : okT (run C2 1000 (.call 6 [.cls .u8 6 5, .cls .u8 64 38] H0)) = true := by kernel_rfl
theorem I_5_64_39 : okT (run C2 1000 (.call 6 [.cls .u8 6 5, .cls .u8 64 39] H0)) = true := by kernel_rfl
theorem I_5_64_40 : okT (run C2 1000 (.call 6 [.cls .u8 6 5, .cls .u8 64 40] H0)) = true := by kernel_rfl
theorem I_5_64_41 : okT (run C2 1000 (.call 6 [.cls .u8 6 5, .cls .u8 64 41] H0)) = true := by kernel_rfl
theorem I_5_64_42 : okT (run C2 1000 (.call 6 [.cls .u8 6 5, .cls .u8 64 42] H0)) = true := by kernel_rfl
theorem I_5_64_43 : okT (run C2 1000 (.call 6 [.cls .u8 6 5, .cls .u8 64 43] H0)) = true := by kernel_rfl
theorem I_5_64_44 : okT (run C2 1000 (.call 6 [.cls .u8 6 5, .cls .u8 64 44] H0)) = true := by kernel_rfl
theorem I_5_64_45 : okT (run C2 1000 (.call 6 [.cls .u8 6 5, .cls .u8 64 45] H0)) = true := by kernel_rfl
theorem I_5_64_46 : okT (run C2 1000 (.call 6 [.cls .u8 6 5, .cls .u8 64 46] H0)) = true := by kernel_rfl
theorem I_5_64_47 : okT (run C2 1000 (.call 6 [.cls .u8 6 5, .cls .u8 64 47] H0)) = true := by kernel_rfl
theorem I_5_64_48 : okT (run C2 1000 (.call 6 [.cls .u8 6 5, .cls .u8 64 48] H0)) = true := by kernel_rfl
theorem I_5_64_49 : okT (run C2 1000 (.call 6 [.cls .u8 6 5, .cls .u8 64 49] H0)) = true := by kernel_rfl
end Go.Vd.L
