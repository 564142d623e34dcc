/- strings.ContainsRune at an ASCII rune (F149): the shelf's contract, laid in plain words. No condition but 0 <= r < 128.
Merged from 1 texts. -/
import Derived.Shelf.Strings.Runes
import Derived.Test.YtlipmjpapkfaeaaGreatDoorProg
import Derived.Test.YtlipmjpapkfaeaaGreatDoorChecked
import Derived.KernelRfl
section
set_option linter.unusedSimpArgs false
namespace Go.Proofs.YtlipmjpapkfaeaaGreatDoor.Orc
open Go Go.RowKit Go.Shelf Go.Proofs
def ren : Ren where
  f := fun k => match k with
    | 119 => 162
    | 137 => 161
    | 151 => 149
    | 152 => 156
    | 217 => 166
    | 224 => 163
    | 225 => 164
    | 266 => 175
    | _ => 0
  t := fun k => match k with
    | 0 => 0
    | 3 => 3
    | 4 => 4
    | 5 => 5
    | 9 => 9
    | 21 => 21
    | 46 => 163
    | _ => 0
  g := fun k => k
theorem lays151 : Lays.n151 Tryz.prog ren where
  mixed := Tryz.checked.mixed
  f119 := by kernel_rfl
  f137 := by kernel_rfl
  f151 := by kernel_rfl
  f152 := by kernel_rfl
  f217 := by kernel_rfl
  f224 := by kernel_rfl
  f225 := by kernel_rfl
  f266 := by kernel_rfl
  t0 := Tryz.underlying0
  a0 := fun w => by simp [ren, isAgg, go_sem]
  z0 := fun w => Tryz.sizeOf0 w
  v0 := fun w => Tryz.zeroValue0 w
  t3 := Tryz.underlying3
  a3 := fun w => by simp [ren, isAgg, go_sem]
  z3 := fun w => Tryz.sizeOf3 w
  v3 := fun w => Tryz.zeroValue3 w
  t4 := Tryz.underlying4
  a4 := fun w => by simp [ren, isAgg, go_sem]
  z4 := fun w => Tryz.sizeOf4 w
  v4 := fun w => Tryz.zeroValue4 w
  t5 := Tryz.underlying5
  a5 := fun w => by simp [ren, isAgg, go_sem]
  z5 := fun w => Tryz.sizeOf5 w
  v5 := fun w => Tryz.zeroValue5 w
  t9 := Tryz.underlying9
  a9 := fun w => by simp [ren, isAgg, go_sem]
  z9 := fun w => Tryz.sizeOf9 w
  v9 := fun w => Tryz.zeroValue9 w
  t21 := Tryz.underlying21
  a21 := fun w => by simp [ren, isAgg, go_sem]
  z21 := fun w => Tryz.sizeOf21 w
  v21 := fun w => Tryz.zeroValue21 w
  t46 := Tryz.underlying163
  a46 := fun w => by simp [ren, isAgg, go_sem]
  z46 := fun w => Tryz.sizeOf163 w
  v46 := fun w => Tryz.zeroValue163 w
theorem containsRune (s : ByteArray) (r : Int) (w : World) (h0 : 0 ≤ r) (h1 : r < 128) :
    Calls Tryz.prog 149 #[.string s, .int .i32 r] w fun e w' => e = .returned (.bool (decide (0 ≤ Lib.indexByte s.data.toList r.toNat.toUInt8))) ∧ w' = w :=
  Any.strings_ContainsRune_ascii lays151 s r w h0 h1
end Go.Proofs.YtlipmjpapkfaeaaGreatDoor.Orc
end
