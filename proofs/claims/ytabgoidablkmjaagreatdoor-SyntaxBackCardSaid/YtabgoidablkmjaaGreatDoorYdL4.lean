/- The runs of the functions without a body, in the seat's program. -/
import Derived.Test.YtabgoidablkmjaaGreatDoorYdL3
import Derived.Test.YtabgoidablkmjaaGreatDoorYdL2
import Derived.Laws.Externs
set_option linter.unusedVariables false
set_option linter.unusedSimpArgs false
namespace Go.Vd.L
open Go.Vd Go.Proofs

abbrev hd (t : Nat) : Value := .pointer (some ⟨7, t, none⟩)

theorem x46 (v : Value) (w : World) : (callFunc 46 #[.iface 49 v]).run Tryz.prog w = .ok (.value (.iface 109 (.agg #[hd 49]))) w := by kernel_rfl
theorem x96 (v : Value) (w : World) : (callFunc 96 #[v]).run Tryz.prog w = .ok (.value v) w := by kernel_rfl
theorem x58 (a : Addr) (w : World) : (callFunc 58 #[.agg #[hd 70, .pointer (some a), .int .u64 150]]).run Tryz.prog w = .ok (.value (.iface 109 (.agg #[hd 70]))) w := by kernel_rfl
theorem x148a (w : World) : (callFunc 148 #[hd 49]).run Tryz.prog w = .ok (.value (.int .u8 2)) w := by kernel_rfl
theorem x148b (w : World) : (callFunc 148 #[hd 70]).run Tryz.prog w = .ok (.value (.int .u8 22)) w := by kernel_rfl
theorem x159 (w : World) : (callFunc 159 #[.agg #[hd 70]]).run Tryz.prog w = .ok (.value (.iface 109 (.agg #[hd 49]))) w := by kernel_rfl
theorem x160 (w : World) : (callFunc 160 #[.agg #[hd 49], .iface 109 (.agg #[hd 31])]).run Tryz.prog w = .ok (.value (.bool true)) w := by kernel_rfl
theorem x158 (w : World) : (callFunc 158 #[.agg #[hd 49]]).run Tryz.prog w = .ok (.value (.bool true)) w := by kernel_rfl
theorem x157 (w : World) : (callFunc 157 #[.agg #[hd 49], .iface 109 (.agg #[hd 49])]).run Tryz.prog w = .ok (.value (.bool true)) w := by kernel_rfl
end Go.Vd.L
