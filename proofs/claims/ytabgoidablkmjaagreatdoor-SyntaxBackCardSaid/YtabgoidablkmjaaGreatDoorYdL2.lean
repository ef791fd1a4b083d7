/- The compiled code is what the functions compile to. -/
import Derived.Test.YtabgoidablkmjaaGreatDoorYdL1
import Derived.Test.YtabgoidablkmjaaGreatDoorProg
import Derived.KernelRfl
set_option linter.unusedVariables false
set_option linter.unusedSimpArgs false
namespace Go.Vd.L
open Go.Vd Go.Proofs

noncomputable def cf (i : Nat) : Option AF := (Tryz.prog.funcs[i]?).bind fun fn => if fn.name == "runtime.NumGoroutine" then none else cfn Tryz.prog fn

theorem e5 : cf 5 = some c5 := by kernel_rfl
theorem e6 : cf 6 = some c6 := by kernel_rfl
theorem e7 : cf 7 = some c7 := by kernel_rfl
theorem e8 : cf 8 = some c8 := by kernel_rfl
theorem e11 : cf 11 = some c11 := by kernel_rfl
theorem e12 : cf 12 = some c12 := by kernel_rfl
theorem e13 : cf 13 = some c13 := by kernel_rfl
theorem e14 : cf 14 = some c14 := by kernel_rfl
theorem e16 : cf 16 = some c16 := by kernel_rfl
theorem e17 : cf 17 = some c17 := by kernel_rfl
theorem e18 : cf 18 = some c18 := by kernel_rfl
theorem e19 : cf 19 = some c19 := by kernel_rfl
theorem e20 : cf 20 = some c20 := by kernel_rfl
theorem e21 : cf 21 = some c21 := by kernel_rfl
theorem e22 : cf 22 = some c22 := by kernel_rfl
theorem e23 : cf 23 = some c23 := by kernel_rfl
theorem e26 : cf 26 = some c26 := by kernel_rfl
theorem e27 : cf 27 = some c27 := by kernel_rfl
theorem e28 : cf 28 = some c28 := by kernel_rfl
theorem e29 : cf 29 = some c29 := by kernel_rfl
theorem e30 : cf 30 = some c30 := by kernel_rfl
theorem e31 : cf 31 = some c31 := by kernel_rfl
theorem e32 : cf 32 = some c32 := by kernel_rfl
theorem e33 : cf 33 = some c33 := by kernel_rfl
theorem e34 : cf 34 = some c34 := by kernel_rfl
theorem e35 : cf 35 = some c35 := by kernel_rfl
theorem e36 : cf 36 = some c36 := by kernel_rfl
theorem e38 : cf 38 = some c38 := by kernel_rfl
theorem e39 : cf 39 = some c39 := by kernel_rfl
theorem e40 : cf 40 = some c40 := by kernel_rfl
theorem e41 : cf 41 = some c41 := by kernel_rfl
theorem e42 : cf 42 = some c42 := by kernel_rfl
theorem e43 : cf 43 = some c43 := by kernel_rfl
theorem e44 : cf 44 = some c44 := by kernel_rfl
theorem e45 : cf 45 = some c45 := by kernel_rfl
theorem e47 : cf 47 = some c47 := by kernel_rfl
theorem e49 : cf 49 = some c49 := by kernel_rfl
theorem e50 : cf 50 = some c50 := by kernel_rfl
theorem e51 : cf 51 = some c51 := by kernel_rfl
theorem e52 : cf 52 = some c52 := by kernel_rfl
theorem e53 : cf 53 = some c53 := by kernel_rfl
theorem e54 : cf 54 = some c54 := by kernel_rfl
theorem e55 : cf 55 = some c55 := by kernel_rfl
theorem e56 : cf 56 = some c56 := by kernel_rfl
theorem e60 : cf 60 = some c60 := by kernel_rfl
theorem e61 : cf 61 = some c61 := by kernel_rfl
theorem e62 : cf 62 = some c62 := by kernel_rfl
theorem e63 : cf 63 = some c63 := by kernel_rfl
theorem e64 : cf 64 = some c64 := by kernel_rfl
theorem e65 : cf 65 = some c65 := by kernel_rfl
theorem e66 : cf 66 = some c66 := by kernel_rfl
theorem e67 : cf 67 = some c67 := by kernel_rfl
theorem e68 : cf 68 = some c68 := by kernel_rfl
theorem e69 : cf 69 = some c69 := by kernel_rfl
theorem e70 : cf 70 = some c70 := by kernel_rfl
theorem e71 : cf 71 = some c71 := by kernel_rfl
theorem e72 : cf 72 = some c72 := by kernel_rfl
theorem e73 : cf 73 = some c73 := by kernel_rfl
theorem e78 : cf 78 = some c78 := by kernel_rfl
theorem e79 : cf 79 = some c79 := by kernel_rfl
theorem e80 : cf 80 = some c80 := by kernel_rfl
theorem e81 : cf 81 = some c81 := by kernel_rfl
theorem e82 : cf 82 = some c82 := by kernel_rfl
theorem e85 : cf 85 = some c85 := by kernel_rfl
theorem e86 : cf 86 = some c86 := by kernel_rfl
theorem e87 : cf 87 = some c87 := by kernel_rfl
theorem e88 : cf 88 = some c88 := by kernel_rfl
theorem e89 : cf 89 = some c89 := by kernel_rfl
theorem e90 : cf 90 = some c90 := by kernel_rfl
theorem e91 : cf 91 = some c91 := by kernel_rfl
theorem e95 : cf 95 = some c95 := by kernel_rfl
theorem e97 : cf 97 = some c97 := by kernel_rfl
theorem e98 : cf 98 = some c98 := by kernel_rfl
theorem e99 : cf 99 = some c99 := by kernel_rfl
theorem e100 : cf 100 = some c100 := by kernel_rfl
theorem e104 : cf 104 = some c104 := by kernel_rfl
theorem e106 : cf 106 = some c106 := by kernel_rfl
theorem e107 : cf 107 = some c107 := by kernel_rfl
theorem e108 : cf 108 = some c108 := by kernel_rfl
theorem e109 : cf 109 = some c109 := by kernel_rfl
theorem e113 : cf 113 = some c113 := by kernel_rfl
theorem e119 : cf 119 = some c119 := by kernel_rfl
theorem e125 : cf 125 = some c125 := by kernel_rfl
theorem e126 : cf 126 = some c126 := by kernel_rfl
theorem e132 : cf 132 = some c132 := by kernel_rfl
end Go.Vd.L
