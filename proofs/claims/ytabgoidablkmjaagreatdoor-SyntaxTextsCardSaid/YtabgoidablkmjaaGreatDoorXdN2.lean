/- The law of texts with two good names, by the kernel: a case for each remainder. -/
import Derived.Test.YtabgoidablkmjaaGreatDoorXdN1
set_option linter.unusedVariables false
set_option linter.unusedSimpArgs false
namespace Go.Vd.L
open Go.Vd
theorem T_0 : okT (run Cs 1000 (.call 4 [.sym 7, .sym 8, .cls .u8 5 0] HS)) = true := by kernel_rfl
theorem T_1 : okT (run Cs 1000 (.call 4 [.sym 7, .sym 8, .cls .u8 5 1] HS)) = true := by kernel_rfl
theorem T_2 : okT (run Cs 1000 (.call 4 [.sym 7, .sym 8, .cls .u8 5 2] HS)) = true := by kernel_rfl
theorem T_3 : okT (run Cs 1000 (.call 4 [.sym 7, .sym 8, .cls .u8 5 3] HS)) = true := by kernel_rfl
theorem T_4 : okT (run Cs 1000 (.call 4 [.sym 7, .sym 8, .cls .u8 5 4] HS)) = true := by kernel_rfl
theorem T_all : ∀ d, d < 5 → okT (run Cs 1000 (.call 4 [.sym 7, .sym 8, .cls .u8 5 d] HS)) = true
  | 0, _ => T_0
  | 1, _ => T_1
  | 2, _ => T_2
  | 3, _ => T_3
  | 4, _ => T_4
  | _ + 5, h => absurd h (by omega)
end Go.Vd.L
