/- Functions of the program, resolved for the abstract machine (written by PrintR.lean), and that they are the program's. No condition.
Merged from 1 texts. -/
import Derived.Test.YtlipmjpapkfaeaaGreatDoorZD11
import Derived.Test.YtlipmjpapkfaeaaGreatDoorZD9
import Derived.KernelRfl
section
set_option maxRecDepth 100000
namespace Go.Proofs.YtlipmjpapkfaeaaGreatDoor.Fn
open Go Go.Mach Rc
def r4 : RFunc := ⟨23, .seq (.region [u 2 (.box (t 0)), u 4 (.mov (.const (.bool false)))]) (.seq (.seq (.region [u 5 (.loadN (t 2) 2), u 6 (.buildSl [.slice none 0 0, .slice none 0 0] [(0, 2, t 5)] 1 2), u 7 (.call (.func 15) [.const (.int .i64 40), t 6]), o 8 7, g 8 false (o 9 1), g 8 false (u 10 (.lenStr (t 9))), g 8 false (k 11 .gtr 10 60), u 12 (.pick (t 8) (.const (.bool true)) (t 11))]) (.cond (t 12) (.seq (.region [u 4 (.mov (.const (.bool true)))]) .ret) .skip)) (.seq (.draws [S [u 13 (.loadN (t 2) 2), o 14 1, u 16 (.loadN (t 2) 2), o 17 1] (some (u 15 (.call (.func 19) [t 13, t 14]))), D [u 16 (.loadN (t 2) 2), o 17 1] (some (u 18 (.call (.func 20) [t 16, t 17]))), S [u 19 (.bin .eql (.sc .b) (t 15) (t 18)), o 20 19] (some (g 20 true (u 21 (.call (.func 18) [])))), S [u 22 (.pick (t 20) (t 21) (.const (.bool false))), o 4 22] none]) .ret)), [.tmp 4]⟩
theorem c4 : compFn Tryz.prog 4 = some r4 := by kernel_rfl
def r43 : RFunc := ⟨34, .seq (.region [u 3 (.box (t 0)), i 6 0]) (.seq (.seq (.region [o 9 1, k 10 .lss 9 0]) (.cond (t 10) (.seq (.region [i 6 (-1)]) .ret) .skip)) (.seq (.seq (.region [q 11 3 1, p 12 11, o 13 1, s 14 1 12 13, p 15 14, u 16 (.lenSl (t 15)), i 17 0]) (.block 0 (.loop (.seq (.region [b 18 .lss 17 16]) (.seq (.cond (t 18) .skip (.exit 0)) (.seq (.block 1 (.seq (.region [s 19 3 15 17, u 20 (.loadN (t 19) 3), u 8 (.newv [.int .i32 0, .int .i32 0, .int .i64 0]), v (.store (t 8) (t 20) 3)]) (.seq (.region [q 21 8 0, p 22 21, o 23 2, b 24 .leq 22 23, o 25 24, g 25 true (o 26 2), g 25 true (q 27 8 1), g 25 true (p 28 27), g 25 true (b 29 .leq 26 28), u 30 (.pick (t 25) (t 29) (.const (.bool false)))]) (.cond (t 30) (.seq (.region [q 31 8 2, p 32 31, o 6 32]) .ret) .skip)))) (.region [k 33 .add 17 1, o 17 33]))))))) (.seq (.region [i 6 (-1)]) .ret))), [.tmp 6]⟩
theorem c43 : compFn Tryz.prog 43 = some r43 := by kernel_rfl
end Go.Proofs.YtlipmjpapkfaeaaGreatDoor.Fn
end
