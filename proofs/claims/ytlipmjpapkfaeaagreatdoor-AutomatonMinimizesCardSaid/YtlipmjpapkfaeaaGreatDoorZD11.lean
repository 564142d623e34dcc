/- The resolved functions are the program's: by the kernel. No condition.
Merged from 1 texts. -/
import Derived.Test.YtlipmjpapkfaeaaGreatDoorZD10
import Derived.Test.YtlipmjpapkfaeaaGreatDoorZD7
import Derived.Test.YtlipmjpapkfaeaaGreatDoorChecked
import Derived.KernelRfl
section
set_option maxRecDepth 100000
namespace Go.Proofs.YtlipmjpapkfaeaaGreatDoor.Fn
open Go Go.Mach
theorem c16 : compFn Tryz.prog 16 = some r16 := by kernel_rfl
theorem c18 : compFn Tryz.prog 18 = some r18 := by kernel_rfl
theorem c19 : compFn Tryz.prog 19 = some r19 := by kernel_rfl
theorem c21 : compFn Tryz.prog 21 = some r21 := by kernel_rfl
theorem c24 : compFn Tryz.prog 24 = some r24 := by kernel_rfl
theorem c26 : compFn Tryz.prog 26 = some r26 := by kernel_rfl
theorem c29 : compFn Tryz.prog 29 = some r29 := by kernel_rfl
theorem c33 : compFn Tryz.prog 33 = some r33 := by kernel_rfl
theorem c39 : compFn Tryz.prog 39 = some r39 := by kernel_rfl
theorem c41 : compFn Tryz.prog 41 = some r41 := by kernel_rfl
theorem c44 : compFn Tryz.prog 44 = some r44 := by kernel_rfl
theorem c45 : compFn Tryz.prog 45 = some r45 := by kernel_rfl
theorem c49 : compFn Tryz.prog 49 = some r49 := by kernel_rfl
theorem c53 : compFn Tryz.prog 53 = some r53 := by kernel_rfl
theorem c54 : compFn Tryz.prog 54 = some r54 := by kernel_rfl
theorem c55 : compFn Tryz.prog 55 = some r55 := by kernel_rfl
theorem c56 : compFn Tryz.prog 56 = some r56 := by kernel_rfl
theorem c57 : compFn Tryz.prog 57 = some r57 := by kernel_rfl
theorem c58 : compFn Tryz.prog 58 = some r58 := by kernel_rfl
theorem c59 : compFn Tryz.prog 59 = some r59 := by kernel_rfl
theorem c60 : compFn Tryz.prog 60 = some r60 := by kernel_rfl
theorem c61 : compFn Tryz.prog 61 = some r61 := by kernel_rfl
theorem c62 : compFn Tryz.prog 62 = some r62 := by kernel_rfl
theorem c63 : compFn Tryz.prog 63 = some r63 := by kernel_rfl
theorem c70 : compFn Tryz.prog 70 = some r70 := by kernel_rfl
theorem c74 : compFn Tryz.prog 74 = some r74 := by kernel_rfl
theorem c75 : compFn Tryz.prog 75 = some r75 := by kernel_rfl
theorem c76 : compFn Tryz.prog 76 = some r76 := by kernel_rfl
theorem c78 : compFn Tryz.prog 78 = some r78 := by kernel_rfl
theorem c79 : compFn Tryz.prog 79 = some r79 := by kernel_rfl
theorem c80 : compFn Tryz.prog 80 = some r80 := by kernel_rfl
theorem c81 : compFn Tryz.prog 81 = some r81 := by kernel_rfl
theorem c82 : compFn Tryz.prog 82 = some r82 := by kernel_rfl
theorem c83 : compFn Tryz.prog 83 = some r83 := by kernel_rfl
theorem c84 : compFn Tryz.prog 84 = some r84 := by kernel_rfl
theorem c85 : compFn Tryz.prog 85 = some r85 := by kernel_rfl
theorem c94 : compFn Tryz.prog 94 = some r94 := by kernel_rfl
theorem c95 : compFn Tryz.prog 95 = some r95 := by kernel_rfl
theorem c96 : compFn Tryz.prog 96 = some r96 := by kernel_rfl
theorem c97 : compFn Tryz.prog 97 = some r97 := by kernel_rfl
theorem c98 : compFn Tryz.prog 98 = some r98 := by kernel_rfl
theorem c99 : compFn Tryz.prog 99 = some r99 := by kernel_rfl
theorem c100 : compFn Tryz.prog 100 = some r100 := by kernel_rfl
theorem c101 : compFn Tryz.prog 101 = some r101 := by kernel_rfl
theorem c104 : compFn Tryz.prog 104 = some r104 := by kernel_rfl
theorem c105 : compFn Tryz.prog 105 = some r105 := by kernel_rfl
theorem c106 : compFn Tryz.prog 106 = some r106 := by kernel_rfl
theorem c107 : compFn Tryz.prog 107 = some r107 := by kernel_rfl
theorem c109 : compFn Tryz.prog 109 = some r109 := by kernel_rfl
theorem c110 : compFn Tryz.prog 110 = some r110 := by kernel_rfl
theorem c112 : compFn Tryz.prog 112 = some r112 := by kernel_rfl
theorem c113 : compFn Tryz.prog 113 = some r113 := by kernel_rfl
theorem c118 : compFn Tryz.prog 118 = some r118 := by kernel_rfl
theorem c119 : compFn Tryz.prog 119 = some r119 := by kernel_rfl
theorem c120 : compFn Tryz.prog 120 = some r120 := by kernel_rfl
theorem c121 : compFn Tryz.prog 121 = some r121 := by kernel_rfl
theorem c122 : compFn Tryz.prog 122 = some r122 := by kernel_rfl
theorem c123 : compFn Tryz.prog 123 = some r123 := by kernel_rfl
theorem c124 : compFn Tryz.prog 124 = some r124 := by kernel_rfl
theorem c125 : compFn Tryz.prog 125 = some r125 := by kernel_rfl
theorem c127 : compFn Tryz.prog 127 = some r127 := by kernel_rfl
theorem c133 : compFn Tryz.prog 133 = some r133 := by kernel_rfl
theorem c137 : compFn Tryz.prog 137 = some r137 := by kernel_rfl
theorem c138 : compFn Tryz.prog 138 = some r138 := by kernel_rfl
theorem c146 : compFn Tryz.prog 146 = some r146 := by kernel_rfl
theorem c147 : compFn Tryz.prog 147 = some r147 := by kernel_rfl
theorem c150 : compFn Tryz.prog 150 = some r150 := by kernel_rfl
theorem c157 : compFn Tryz.prog 157 = some r157 := by kernel_rfl
theorem hmix : Tryz.prog.follows .mixedOrders = true := Tryz.checked.mixed
end Go.Proofs.YtlipmjpapkfaeaaGreatDoor.Fn
end
