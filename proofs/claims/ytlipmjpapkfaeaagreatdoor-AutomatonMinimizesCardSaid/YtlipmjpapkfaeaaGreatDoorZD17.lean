/- The iterator codepoint.units$1 (F111): what it yields, walked by the kit's fenced logic. No condition but the string's size.
Merged from 1 texts. -/
import Derived.RangeFuncNested
import Derived.RangeFuncBound
import Derived.RangeFuncCalls
import Derived.RangeFuncLeaves
import Derived.Shelf.Abstract
import Derived.Shelf.RegionOpen
import Derived.WalkKit
import Derived.WalkSmall
import Derived.OwnWalkIn
import Derived.TacticsInMore
import Derived.LoopNIn
import Derived.LoopIn
import Derived.Test.YtlipmjpapkfaeaaGreatDoorProg
section
set_option linter.unusedSimpArgs false
set_option linter.unusedVariables false
namespace Go.Proofs.YtlipmjpapkfaeaaGreatDoor.Orc
open Go Go.RowKit Go.Shelf Go.Proofs
def decs (s : ByteArray) : Nat → Nat → List (Nat × Nat)
  | 0, _ => []
  | k + 1, pos => if pos < s.size then ((Utf8.decode s pos).1, pos) :: decs s k (pos + (Utf8.decode s pos).2) else []
def mkU (n : Nat) : List (Nat × Nat) → List (Nat × Nat × Int)
  | [] => []
  | [(c, p)] => [(c, p, (n : Int) - p)]
  | (c, p) :: (c', p') :: r => (c, p, (p' : Int) - p) :: mkU n ((c', p') :: r)
def units (s : ByteArray) : List (Nat × Nat × Int) := mkU s.size (decs s s.size 0)
def encU (u : Nat × Nat × Int) : Value := .agg #[.int .i32 u.1, .int .i64 u.2.1, .int .i64 u.2.2]
def Kp (n₀ : Nat) (A B : World) : Prop := A.heap.size ≤ B.heap.size ∧ ∀ k (o : Obj), n₀ ≤ k → A.heap[k]? = some o → (o.isCells = true ∨ o.isWalk = true) → B.heap[k]? = some o
theorem decs_stop {s : ByteArray} {pos : Nat} (h : ¬ pos < s.size) : ∀ k, decs s k pos = []
  | 0 => rfl
  | k + 1 => by simp [decs, h]
theorem width_pos (s : ByteArray) (pos : Nat) (h : pos < s.size) : 1 ≤ (Utf8.decode s pos).2 := by
  by_cases ha : (s[pos]'h).toNat < 128
  · rw [decode_ascii s pos h ha]; exact Nat.le_refl _
  · exact (decode_high s pos h (by omega)).2
end Go.Proofs.YtlipmjpapkfaeaaGreatDoor.Orc
end
