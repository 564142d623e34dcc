/- The iterator codepoint.units$1 (F111): what it yields, walked by the kit's fenced logic. No condition but the string's size.
Merged from 5 texts. -/
import Derived.RangeFuncNested
import Derived.RangeFuncBound
import Derived.RangeFuncCalls
import Derived.RangeFuncLeaves
import Derived.Shelf.Abstract
import Derived.Shelf.RegionOpen
import Derived.WalkKit
import Derived.WalkSmall
import Derived.OwnWalkIn
import Derived.TacticsInMore
import Derived.LoopNIn
import Derived.LoopIn
import Derived.Test.YtlipmjpapkfaeaaGreatDoorProg
import Derived.Lib.OthersKept
import Derived.Test.YtlipmjpapkfaeaaGreatDoorZC6
import Derived.Test.YtlipmjpapkfaeaaGreatDoorChecked
section
set_option linter.unusedSimpArgs false
set_option linter.unusedVariables false
namespace Go.Proofs.YtlipmjpapkfaeaaGreatDoor.Orc
open Go Go.RowKit Go.Shelf Go.Proofs

/-- What is decoded from pos on: rune and place. -/
def decs (s : ByteArray) : Nat → Nat → List (Nat × Nat)
  | 0, _ => []
  | k + 1, pos => if pos < s.size then ((Utf8.decode s pos).1, pos) :: decs s k (pos + (Utf8.decode s pos).2) else []

/-- The units: rune, place, size (to the next place, or to the end). -/
def mkU (n : Nat) : List (Nat × Nat) → List (Nat × Nat × Int)
  | [] => []
  | [(c, p)] => [(c, p, (n : Int) - p)]
  | (c, p) :: (c', p') :: r => (c, p, (p' : Int) - p) :: mkU n ((c', p') :: r)

def units (s : ByteArray) : List (Nat × Nat × Int) := mkU s.size (decs s s.size 0)

def encU (u : Nat × Nat × Int) : Value := .agg #[.int .i32 u.1, .int .i64 u.2.1, .int .i64 u.2.2]

/-- A round keeps the iterator's own blocks. -/
def Kp (n₀ : Nat) (A B : World) : Prop := A.heap.size ≤ B.heap.size ∧ ∀ k (o : Obj), n₀ ≤ k → A.heap[k]? = some o → (o.isCells = true ∨ o.isWalk = true) → B.heap[k]? = some o

theorem decs_stop {s : ByteArray} {pos : Nat} (h : ¬ pos < s.size) : ∀ k, decs s k pos = []
  | 0 => rfl
  | k + 1 => by simp [decs, h]
theorem width_pos (s : ByteArray) (pos : Nat) (h : pos < s.size) : 1 ≤ (Utf8.decode s pos).2 := by
  by_cases ha : (s[pos]'h).toNat < 128
  · rw [decode_ascii s pos h ha]; exact Nat.le_refl _
  · exact (decode_high s pos h (by omega)).2

end Go.Proofs.YtlipmjpapkfaeaaGreatDoor.Orc
end
section
set_option linter.unusedSimpArgs false
set_option linter.unusedVariables false
namespace Go.Proofs.YtlipmjpapkfaeaaGreatDoor.Orc
open Go Go.RowKit Go.Shelf Go.Proofs
attribute [local go_sem] Oper.semAt_some

theorem cell_of3 {W : World} {B : Nat} {a b c : Value} {t : TypeId} (h : W.heap[B]? = some (.cells #[a, b, c] t (0, 0))) :
    W.cell? ⟨B, 0, none⟩ = some a ∧ W.cell? ⟨B, 1, none⟩ = some b ∧ W.cell? ⟨B, 2, none⟩ = some c ∧ W.frozen? ⟨B, 0, none⟩ = false ∧ W.frozen? ⟨B, 1, none⟩ = false ∧ W.frozen? ⟨B, 2, none⟩ = false := by
  refine ⟨?_, ?_, ?_, ?_, ?_, ?_⟩ <;> simp [World.cell?, World.frozen?, h]
theorem cell_of1 {W : World} {B : Nat} {a : Value} {t : TypeId} (h : W.heap[B]? = some (.cells #[a] t (0, 0))) :
    W.cell? ⟨B, 0, none⟩ = some a ∧ W.frozen? ⟨B, 0, none⟩ = false := by
  refine ⟨?_, ?_⟩ <;> simp [World.cell?, World.frozen?, h]

theorem set30 {W : World} {B : Nat} {a b c : Value} {t : TypeId} (h : W.heap[B]? = some (.cells #[a, b, c] t (0, 0))) (x : Value) : (W.setCell ⟨B, 0, none⟩ x).heap[B]? = some (.cells #[x, b, c] t (0, 0)) := by
  simp [World.setCell, Array.getElem?_modify, h]
theorem set31 {W : World} {B : Nat} {a b c : Value} {t : TypeId} (h : W.heap[B]? = some (.cells #[a, b, c] t (0, 0))) (x : Value) : (W.setCell ⟨B, 1, none⟩ x).heap[B]? = some (.cells #[a, x, c] t (0, 0)) := by
  simp [World.setCell, Array.getElem?_modify, h]
theorem set32 {W : World} {B : Nat} {a b c : Value} {t : TypeId} (h : W.heap[B]? = some (.cells #[a, b, c] t (0, 0))) (x : Value) : (W.setCell ⟨B, 2, none⟩ x).heap[B]? = some (.cells #[a, b, x] t (0, 0)) := by
  simp [World.setCell, Array.getElem?_modify, h]

/-- Three stores into the unit's block. -/
theorem store3 {W : World} {B : Nat} {a b c : Value} {t : TypeId} (h : W.heap[B]? = some (.cells #[a, b, c] t (0, 0))) (x y z : Value) :
    (((W.setCell ⟨B, 0, none⟩ x).setCell ⟨B, 1, none⟩ y).setCell ⟨B, 2, none⟩ z).heap[B]? = some (.cells #[x, y, z] t (0, 0)) ∧
    (∀ k, k ≠ B → (((W.setCell ⟨B, 0, none⟩ x).setCell ⟨B, 1, none⟩ y).setCell ⟨B, 2, none⟩ z).heap[k]? = W.heap[k]?) ∧
    Below B W (((W.setCell ⟨B, 0, none⟩ x).setCell ⟨B, 1, none⟩ y).setCell ⟨B, 2, none⟩ z) :=
  ⟨set32 (set31 (set30 h x) y) z,
   fun k hk => ((Below.heap_setCell _ _ _ _ hk).trans (Below.heap_setCell _ _ _ _ hk)).trans (Below.heap_setCell _ _ _ _ hk),
   ((((Below.refl B W).setCell (p := ⟨B, 0, none⟩) (Nat.le_refl _) x).setCell (p := ⟨B, 1, none⟩) (Nat.le_refl _) y).setCell (p := ⟨B, 2, none⟩) (Nat.le_refl _) z)⟩

theorem mkU_cons2 (n c p c' p' : Nat) (r : List (Nat × Nat)) : mkU n ((c, p) :: (c', p') :: r) = (c, p, (p' : Int) - p) :: mkU n ((c', p') :: r) := rfl

/-- The loop's head: what stands. -/
structure LH (s : ByteArray) (Bm B3 It : Nat) (r a z : Int) (pos : Nat) (W : World) : Prop where
  box : W.heap[Bm]? = some (.cells #[.string s] 9 (0, 0))
  u : W.heap[B3]? = some (.cells #[.int .i32 r, .int .i64 a, .int .i64 z] 109 (0, 0))
  it : W.heap[It]? = some (.stringIter s pos)

set_option maxRecDepth 100000 in
set_option maxHeartbeats 1000000 in
theorem units1_in (n : Nat) (l Bm n₀ : Nat) (s : ByteArray) (hs : s.size < 4611686018427387904) (J Jx : List (Nat × Nat × Int) → World → Prop)
    (hY : ∀ pre x W, J pre W → pre ++ [x] <+: units s → YieldAt Fence.wide (n - 1) Tryz.prog l #[encU x] W fun e W' =>
      (e = .returned (.bool true) ∧ J (pre ++ [x]) W' ∧ Kp n₀ W W') ∨ (e = .returned (.bool false) ∧ Jx (pre ++ [x]) W'))
    (W : World) (hn0 : n₀ ≤ Bm) (hJ : ∀ pre A B, J pre A → Below W.heap.size A B → J pre B)
    (hbox : W.heap[Bm]? = some (.cells #[.string s] 9 (0, 0))) (h0 : J [] W) :
    CallsIn Fence.wide n Tryz.prog 111 #[.func (.yield l) #[] #[], .pointer (some ⟨Bm, 0, none⟩)] W fun e W' => (∃ v, e = .returned v) ∧
      (J (units s) W' ∨ ∃ pre, pre <+: units s ∧ Jx pre W') := by
  refine callsIn_of_wp Tryz.func111 rfl trivial ?_ rfl
  simp only [Tryz.ntmps111, List.size_toArray, List.length_cons, List.length_nil, Nat.reduceAdd, Nat.reduceSub, Array.replicate_succ, Array.replicate_zero, List.push_toArray, List.append_toArray, List.nil_append, List.cons_append]
  have hbc := (cell_of1 hbox).1
  have hBlt : Bm < W.heap.size := (Array.getElem?_eq_some_iff.1 hbox).1
  gi_wp2
  gi_loopw [] (fun wr => ∃ (r a z : Int) (pos : Nat) (pre : List (Nat × Nat × Int)) (pend : Option (Nat × Nat)) (k : Nat), LH s Bm W.heap.size (W.heap.size + 1) r a z pos wr ∧ J pre wr ∧
      (pend = none ∧ a = -1 ∧ pos = 0 ∧ pre = [] ∨ ∃ c p, pend = some (c, p) ∧ r = c ∧ a = p ∧ p < s.size) ∧ s.size ≤ pos + k ∧
      units s = pre ++ mkU s.size (pend.toList ++ decs s k pos)) (fun wr => s.size - wr.iterPos (W.heap.size + 1))
  case atStart =>
    refine ⟨0, -1, 0, 0, [], none, s.size, ⟨?_, ?_, ?_⟩, hJ _ _ _ h0 (((Below.refl _ W).alloc (Nat.le_refl _) _).alloc (by simp) _), .inl ⟨rfl, rfl, rfl, rfl⟩, by omega, by simp [units]⟩
    · exact (Below.heap_alloc _ _ _ (by simp; omega)).trans ((Below.heap_alloc _ _ _ (by omega)).trans hbox)
    · exact (Below.heap_alloc _ _ _ (by simp)).trans (World.alloc_heap_new _ _)
    · have := World.iter_heap (W.alloc (.cells #[.int .i32 0, .int .i64 (-1), .int .i64 0] 109)) s 0
      rwa [World.size_alloc] at this
  case round =>
    obtain ⟨r, a, z, pos, pre, pend, k, ⟨hb, hu, hi⟩, hJs, hph, hk, hun⟩ := hrel
    by_cases hp : pos < s.size
    · have hnx := fun ty => Lib.run_next_any_at (P := Tryz.prog) wr (W.heap.size + 1) s pos ty hi hp
      obtain ⟨W2, hW2⟩ : ∃ W2, wr.iterAt (W.heap.size + 1) s (pos + (Utf8.decode s pos).2) = W2 := ⟨_, rfl⟩
      have hb2 : W2.heap[Bm]? = some (.cells #[.string s] 9 (0, 0)) := by rw [← hW2]; exact (Lib.iterAt_other _ _ _ _ _ (by omega)).trans hb
      have hu2 : W2.heap[W.heap.size]? = some (.cells #[.int .i32 r, .int .i64 a, .int .i64 z] 109 (0, 0)) := by rw [← hW2]; exact (Lib.iterAt_other _ _ _ _ _ (by omega)).trans hu
      have hi2 : W2.heap[W.heap.size + 1]? = some (.stringIter s (pos + (Utf8.decode s pos).2)) := by rw [← hW2]; exact Lib.iterAt_heap _ _ _ _ _ hi
      have hB2 : Below W.heap.size wr W2 := by rw [← hW2]; exact Lib.below_iterAt (Below.refl _ wr) (by omega) _ _
      simp only [hW2] at hnx
      clear hW2
      obtain ⟨c0, c1, c2, f0, f1, f2⟩ := cell_of3 hu2
      rcases hph with ⟨rfl, rfl, rfl, rfl⟩ | ⟨c, p, rfl, rfl, rfl, hps⟩
      · gi_wp2
        refine ⟨fun _ h => (by cases h), ?_⟩
        gi_wp2
        go_roundw
        case rel =>
          obtain ⟨s1, s2, s3⟩ := store3 (set32 hu2 (.int .i64 1)) (.int .i32 ↑(Utf8.decode s 0).fst) (.int .i64 0) (.int .i64 0)
          have s4 : Below W.heap.size W2 (W2.setCell ⟨W.heap.size, 2, none⟩ (.int .i64 1)) := (Below.refl _ W2).setCell (p := ⟨W.heap.size, 2, none⟩) (Nat.le_refl _) _
          cases k with
          | zero => omega
          | succ k =>
            refine ⟨_, _, _, 0 + (Utf8.decode s 0).2, [], some ((Utf8.decode s 0).1, 0), k, ⟨?_, s1, ?_⟩, hJ _ _ _ hJs ((hB2.trans s4).trans s3), .inr ⟨_, _, rfl, rfl, rfl, hp⟩, ?_, ?_⟩
            · exact (s2 _ (by omega)).trans ((Below.heap_setCell _ _ _ _ (by show Bm ≠ W.heap.size; omega)).trans hb2)
            · exact (s2 _ (by omega)).trans ((Below.heap_setCell _ _ _ _ (by show W.heap.size + 1 ≠ W.heap.size; omega)).trans hi2)
            · have := width_pos s 0 hp; omega
            · rw [hun]; simp [decs, hp]
        case measure =>
          obtain ⟨s1, s2, s3⟩ := store3 (set32 hu2 (.int .i64 1)) (.int .i32 ↑(Utf8.decode s 0).fst) (.int .i64 0) (.int .i64 0)
          rw [iterPos_of ((s2 _ (by omega)).trans ((Below.heap_setCell _ _ _ _ (by show W.heap.size + 1 ≠ W.heap.size; omega)).trans hi2)), iterPos_of hi]
          have := width_pos s 0 hp; omega
      · have hwr : wrap64 ((pos : Int) - p) = (pos : Int) - p := by unfold wrap64; omega
        have s4 : Below W.heap.size W2 (W2.setCell ⟨W.heap.size, 2, none⟩ (.int .i64 ((pos : Int) - p))) := (Below.refl _ W2).setCell (p := ⟨W.heap.size, 2, none⟩) (Nat.le_refl _) _
        cases k with
        | zero => omega
        | succ k =>
        have hun2 : units s = (pre ++ [(c, p, (pos : Int) - p)]) ++ mkU s.size (((Utf8.decode s pos).1, pos) :: decs s k (pos + (Utf8.decode s pos).2)) := by
          rw [hun]; simp [decs, hp, mkU_cons2]
        obtain ⟨fn, tmps, assign, body, hy, hR⟩ := hY pre (c, p, (pos : Int) - p) (W2.setCell ⟨W.heap.size, 2, none⟩ (.int .i64 ((pos : Int) - p))) (hJ _ _ _ hJs (hB2.trans s4)) ⟨_, hun2.symm⟩
        dsimp only [encU] at hy
        have hu3 := set32 hu2 (.int .i64 ((pos : Int) - p))
        have hb3 : (W2.setCell ⟨W.heap.size, 2, none⟩ (.int .i64 ((pos : Int) - p))).heap[Bm]? = _ := (Below.heap_setCell _ _ _ _ (by show Bm ≠ W.heap.size; omega)).trans hb2
        have hi3 : (W2.setCell ⟨W.heap.size, 2, none⟩ (.int .i64 ((pos : Int) - p))).heap[W.heap.size + 1]? = _ := (Below.heap_setCell _ _ _ _ (by show W.heap.size + 1 ≠ W.heap.size; omega)).trans hi2
        gi_wp2
        refine ⟨fun h => by simp [Fence.wide] at h, hR.mono ?_⟩
        rintro e W4 (⟨rfl, hJ4, hk4⟩ | ⟨rfl, hJx4⟩)
        · have hu4 := hk4.2 _ _ (by omega) hu3 (.inl rfl)
          have hb4 := hk4.2 _ _ (by omega) hb3 (.inl rfl)
          have hi4 := hk4.2 _ _ (by omega) hi3 (.inr rfl)
          obtain ⟨d0, d1, d2, g0, g1, g2⟩ := cell_of3 hu4
          gi_wp2
          go_roundw
          case rel =>
            obtain ⟨s1, s2, s3⟩ := store3 hu4 (.int .i32 ↑(Utf8.decode s pos).fst) (.int .i64 pos) (.int .i64 0)
            refine ⟨_, _, _, pos + (Utf8.decode s pos).2, pre ++ [(c, p, (pos : Int) - p)], some ((Utf8.decode s pos).1, pos), k, ⟨?_, s1, ?_⟩, hJ _ _ _ hJ4 s3, .inr ⟨_, _, rfl, rfl, rfl, hp⟩, ?_, ?_⟩
            · exact (s2 _ (by omega)).trans hb4
            · exact (s2 _ (by omega)).trans hi4
            · have := width_pos s pos hp; omega
            · exact hun2
          case measure =>
            obtain ⟨s1, s2, s3⟩ := store3 hu4 (.int .i32 ↑(Utf8.decode s pos).fst) (.int .i64 pos) (.int .i64 0)
            rw [iterPos_of ((s2 _ (by omega)).trans hi4), iterPos_of hi]
            have := width_pos s pos hp; omega
        · gi_wp2
          refine bodyPost_ret (results_none rfl _ _ _) rfl ?_
          exact ⟨⟨_, rfl⟩, .inr ⟨_, ⟨_, hun2.symm⟩, hJx4⟩⟩
    · have hnx := fun ty => Lib.run_next_end_at (P := Tryz.prog) wr (W.heap.size + 1) s pos ty hi hp
      obtain ⟨c0, c1, c2, f0, f1, f2⟩ := cell_of3 hu
      have hbc := (cell_of1 hb).1
      rcases hph with ⟨rfl, rfl, rfl, rfl⟩ | ⟨c, p, rfl, rfl, rfl, hps⟩
      · gi_wp2
        go_end0
        refine ⟨⟨_, rfl⟩, .inl ?_⟩
        rw [hun, decs_stop hp]
        exact hJ _ _ _ hJs ((Below.refl _ wr).setCell (p := ⟨W.heap.size, 2, none⟩) (Nat.le_refl _) _)
      · have hwr : wrap64 ((s.size : Int) - p) = (s.size : Int) - p := by unfold wrap64; omega
        have hun2 : units s = pre ++ [(c, p, (s.size : Int) - p)] := by rw [hun, decs_stop hp]; rfl
        obtain ⟨fn, tmps, assign, body, hy, hR⟩ := hY pre (c, p, (s.size : Int) - p) (wr.setCell ⟨W.heap.size, 2, none⟩ (.int .i64 ((s.size : Int) - p))) (hJ _ _ _ hJs ((Below.refl _ wr).setCell (p := ⟨W.heap.size, 2, none⟩) (Nat.le_refl _) _)) (by rw [hun2]; exact List.prefix_rfl)
        dsimp only [encU] at hy
        gi_wp2
        refine ⟨fun h => by simp [Fence.wide] at h, hR.mono ?_⟩
        rintro e W4 (⟨rfl, hJ4, hk4⟩ | ⟨rfl, hJx4⟩)
        · gi_wp2
          go_end0
          exact ⟨⟨_, rfl⟩, .inl (by rw [hun2]; exact hJ4)⟩
        · gi_wp2
          go_end0
          exact ⟨⟨_, rfl⟩, .inr ⟨_, by rw [hun2]; exact List.prefix_rfl, hJx4⟩⟩

end Go.Proofs.YtlipmjpapkfaeaaGreatDoor.Orc
end
section
set_option linter.unusedSimpArgs false
set_option linter.unusedVariables false
namespace Go.Proofs.YtlipmjpapkfaeaaGreatDoor.Orc
open Go Go.RowKit Go.Shelf Go.Proofs

/-- Whatever lay at or beyond n₀ lies on. -/
def KpAll (n₀ : Nat) (A B : World) : Prop := A.heap.size ≤ B.heap.size ∧ ∀ k (o : Obj), n₀ ≤ k → A.heap[k]? = some o → B.heap[k]? = some o

def cellsU (x : Nat × Nat × Int) : Obj := .cells #[.int .i32 x.1, .int .i64 x.2.1, .int .i64 x.2.2] 109 (0, 0)

def uPost (n₀ : Nat) (I : List (Nat × Nat × Int) → World → Prop) (Ix : Code → List (Nat × Nat × Int) → World → Prop) (xs : List (Nat × Nat × Int)) (W : World) : Exit → Act → World → Prop
  | .normal, _, W' => KpAll n₀ W W' ∧ I xs W'
  | .ret, _, W' => KpAll n₀ W W' ∧ Ix .ret xs W'
  | .exit id, _, W' => KpAll n₀ W W' ∧ Ix (.exit id) xs W'
  | .goto t, _, W' => KpAll n₀ W W' ∧ Ix (.goto t) xs W'
  | .panic _, _, _ => False
  | .outgrown, _, _ => False

theorem below_putObj {B : Nat} (W : World) {l : Nat} (o : Obj) (hl : B ≤ l) : Below B W (W.putObj l o) :=
  ⟨rfl, rfl, rfl, by simp, fun k hk => World.putObj_heap_other (by omega)⟩

theorem wpIn_units {p : Tmp} {g : Operand} {assign body : Code} {Q : Exit → Act → World → Prop} {a : Act} {w : World} {n Bm : Nat} {s : ByteArray} (hs : s.size < 4611686018427387904)
    (hg : a.eval g = .func (.func 111) #[] #[.pointer (some ⟨Bm, 0, none⟩)]) (hbox : w.heap[Bm]? = some (.cells #[.string s] 9 (0, 0)))
    (I : List (Nat × Nat × Int) → World → Prop) (Ix : Code → List (Nat × Nat × Int) → World → Prop)
    (hI : ∀ pre A B, I pre A → Below w.heap.size A B → I pre B) (hIx : ∀ c pre A B, Ix c pre A → Below w.heap.size A B → Ix c pre B) (h0 : I [] w)
    (a₁ : Nat → Nat × Nat × Int → Act)
    (hassign : ∀ (l : Nat) (x : Nat × Nat × Int) (W : World) (K : Act → World → Prop), K (a₁ W.heap.size x) (W.alloc (cellsU x)) →
      assign.wpIn (Fence.wide.inRound l) (n - 1 - 1) Tryz.prog (Exit.then K (fun _ _ _ => False)) { tmps := a.tmps.setIfInBounds p (encU x), defers := [] } W)
    (hbody : ∀ (l : Nat) (pre : List (Nat × Nat × Int)) (x : Nat × Nat × Int) (Bx : Nat) (W : World), I pre W → w.heap.size ≤ Bx → W.heap[Bx]? = some (cellsU x) → pre ++ [x] <+: units s →
      body.wpIn (Fence.wide.inRound l) (n - 1 - 1) Tryz.prog (uPost Bm I Ix (pre ++ [x]) W) (a₁ Bx x) W)
    (hdone : ∀ (D : Nat) (W : World), w.heap.size ≤ D → I (units s) W → W.heap[D]? = some (.deferred (some [])) → Q .normal { a with defers := { target := .collected D, args := #[] } :: a.defers } W)
    (hstop : ∀ (D : Nat) (c : Code) (pre : List (Nat × Nat × Int)) (W : World), w.heap.size ≤ D → pre <+: units s → Ix c pre W → W.heap[D]? = some (.deferred (some [])) → c.wpIn Fence.wide n Tryz.prog Q { a with defers := { target := .collected D, args := #[] } :: a.defers } W) :
    (Code.rangeFunc g #[p] assign body).wpIn Fence.wide n Tryz.prog Q a w := by
  refine wpIn_rangeFunc ?_
  intro fn hfn
  rw [Fence.wide_round]
  obtain ⟨rec, hrec⟩ : ∃ rec : LoopState → Option Code → Loop, rec = fun st pe => { state := st, pending := pe, fn, tmps := a.tmps, params := #[p], assign, body, defers := w.heap.size } := ⟨_, rfl⟩
  obtain ⟨W1, hW1⟩ : ∃ W1, (w.alloc (.deferred (some []))).alloc (.loop (rec .ready none)) = W1 := ⟨_, rfl⟩
  have hL1 : W1.heap[w.heap.size + 1]? = some (.loop (rec .ready none)) := by
    rw [← hW1]; have := World.alloc_heap_new (w.alloc (.deferred (some []))) (.loop (rec .ready none)); rwa [World.size_alloc] at this
  have hK1 : W1.heap[w.heap.size]? = some (.deferred (some [])) := by
    rw [← hW1]; exact (Below.heap_alloc _ _ _ (by simp)).trans (World.alloc_heap_new w _)
  have hb1 : Below w.heap.size w W1 := by rw [← hW1]; exact ((Below.refl _ w).alloc (Nat.le_refl _) _).alloc (by simp) _
  have hI1 : I [] W1 := hI _ _ _ h0 hb1
  have hBm : Bm < w.heap.size := (Array.getElem?_eq_some_iff.1 hbox).1
  have hbox1 : W1.heap[Bm]? = some (.cells #[.string s] 9 (0, 0)) := (hb1.block _ hBm).trans hbox
  have hs1 : W1.heap.size = w.heap.size + 2 := by rw [← hW1]; simp
  refine ⟨w.heap.size + 1, [{ target := .collected w.heap.size, args := #[] }], W1, { target := .fn (.func 111) #[.pointer (some ⟨Bm, 0, none⟩)], args := #[.func (.yield (w.heap.size + 1)) #[] #[]] }, W1, 111,
    #[.func (.yield (w.heap.size + 1)) #[] #[], .pointer (some ⟨Bm, 0, none⟩)], W1, ?_, ?_, fun _ _ => trivial, ?_, fun h => by simp [Fence.wide] at h, ?_⟩
  · rw [← hW1, hrec]; exact run_enterLoop_outer _ _ _ _ _
  · simp only [resolve, hg]
    simp [go_sem]
  · simp [invoke, go_sem, Tryz.call111]
  · refine (units1_in (n - 1) (w.heap.size + 1) Bm Bm s hs
      (fun pre W => I pre W ∧ W.heap[w.heap.size + 1]? = some (.loop (rec .ready none)) ∧ W.heap[w.heap.size]? = some (.deferred (some [])))
      (fun pre W => ∃ c, Ix c pre W ∧ W.heap[w.heap.size + 1]? = some (.loop (rec .done (some c))) ∧ W.heap[w.heap.size]? = some (.deferred (some [])))
      ?_ W1 (Nat.le_refl _)
      (fun pre A B hs hb => ⟨hI _ _ _ hs.1 (hb.mono (by omega)), (hb.block _ (by omega)).trans hs.2.1, (hb.block _ (by omega)).trans hs.2.2⟩)
      hbox1 ⟨hI1, hL1, hK1⟩).mono ?_
    · rintro pre x W ⟨hi, hl, hk⟩ hpre
      have hlt : w.heap.size + 1 < W.heap.size := (Array.getElem?_eq_some_iff.1 hl).1
      have hy := run_yield (P := Tryz.prog) (args := #[encU x]) hl (by rw [hrec]; rfl)
      rw [hrec] at hy
      dsimp only at hy
      rw [show ((#[p] : Array Tmp).zip #[encU x]).foldl (fun tmps (x : Tmp × Value) => match x with | (t, a) => tmps.setIfInBounds t a) a.tmps = a.tmps.setIfInBounds p (encU x) from by simp] at hy
      refine ⟨fn, _, assign, body, hy, roundIn_of_wpIn hfn ?_⟩
      refine hassign _ x W _ ?_
      have hl1 : (W.alloc (cellsU x)).heap[w.heap.size + 1]? = some (.loop (rec .ready none)) := (Below.heap_alloc _ _ _ hlt).trans hl
      refine ⟨_, run_beginRound hl1 (by rw [hrec]), ?_⟩
      obtain ⟨W2, hW2⟩ : ∃ W2, (W.alloc (cellsU x)).putObj (w.heap.size + 1) (.loop { rec .ready none with state := .busy }) = W2 := ⟨_, rfl⟩
      rw [hW2]
      have hl2 : W2.heap[w.heap.size + 1]? = some (.loop { rec .ready none with state := .busy }) := by rw [← hW2]; exact World.putObj_heap_same (Array.getElem?_eq_some_iff.1 hl1).1
      have hk2 : W2.heap[w.heap.size]? = some (.deferred (some [])) := by rw [← hW2]; exact (World.putObj_heap_other (by omega)).trans ((Below.heap_alloc _ _ _ (by omega)).trans hk)
      have hx2 : W2.heap[W.heap.size]? = some (cellsU x) := by rw [← hW2]; exact (World.putObj_heap_other (by omega)).trans (World.alloc_heap_new _ _)
      have hB2 : Below w.heap.size W W2 := by rw [← hW2]; exact ((Below.refl _ W).alloc (by omega) _).trans (below_putObj _ _ (by omega))
      have hk02 : ∀ k (o : Obj), W.heap[k]? = some o → k ≠ w.heap.size + 1 → W2.heap[k]? = some o := fun k o ho hne => by
        rw [← hW2]; exact (World.putObj_heap_other hne).trans ((Below.heap_alloc _ _ _ (Array.getElem?_eq_some_iff.1 ho).1).trans ho)
      have hs2 : W.heap.size ≤ W2.heap.size := by rw [← hW2]; simp
      clear hW2
      refine wpIn_mono (hbody _ pre x W.heap.size W2 (hI _ _ _ hi hB2) (by omega) hx2 hpre) ?_
      have fin : ∀ (jump : Option Code) (W3 : World), KpAll Bm W2 W3 →
          (Instr.endRound (w.heap.size + 1) jump).run Tryz.prog W3 = .ok (.bool jump.isNone) (W3.putObj (w.heap.size + 1) (.loop (rec (if jump.isNone then .ready else .done) jump))) ∧
          (W3.putObj (w.heap.size + 1) (.loop (rec (if jump.isNone then .ready else .done) jump))).heap[w.heap.size + 1]? = some (.loop (rec (if jump.isNone then .ready else .done) jump)) ∧
          (W3.putObj (w.heap.size + 1) (.loop (rec (if jump.isNone then .ready else .done) jump))).heap[w.heap.size]? = some (.deferred (some [])) := fun jump W3 hk3 => by
        have hl3 := hk3.2 _ _ (by omega) hl2
        have := run_endRound (P := Tryz.prog) jump hl3
        rw [hrec] at this ⊢
        exact ⟨this, World.putObj_heap_same (Array.getElem?_eq_some_iff.1 hl3).1, (World.putObj_heap_other (by omega)).trans (hk3.2 _ _ (by omega) hk2)⟩
      rintro e a3 W3 hp
      cases e with
      | normal =>
        obtain ⟨hk3, hi3⟩ := hp
        obtain ⟨hr, hl4, hk4⟩ := fin none W3 hk3
        refine ⟨_, _, hr, .inl ⟨rfl, ⟨hI _ _ _ hi3 (below_putObj _ _ (by omega)), hl4, hk4⟩, ?_⟩⟩
        refine ⟨Nat.le_trans hs2 (Nat.le_trans hk3.1 (by simp)), fun k o hkn ho hkind => ?_⟩
        have hne : k ≠ w.heap.size + 1 := by
          rintro rfl
          rw [hl] at ho; cases ho
          rcases hkind with h | h <;> cases h
        exact (World.putObj_heap_other hne).trans (hk3.2 _ _ hkn (hk02 _ _ ho hne))
      | ret =>
        obtain ⟨hk3, hi3⟩ := hp
        obtain ⟨hr, hl4, hk4⟩ := fin (some .ret) W3 hk3
        exact ⟨_, _, hr, .inr ⟨rfl, .ret, hIx _ _ _ _ hi3 (below_putObj _ _ (by omega)), hl4, hk4⟩⟩
      | exit id =>
        obtain ⟨hk3, hi3⟩ := hp
        obtain ⟨hr, hl4, hk4⟩ := fin (some (.exit id)) W3 hk3
        exact ⟨_, _, hr, .inr ⟨rfl, .exit id, hIx _ _ _ _ hi3 (below_putObj _ _ (by omega)), hl4, hk4⟩⟩
      | goto t =>
        obtain ⟨hk3, hi3⟩ := hp
        obtain ⟨hr, hl4, hk4⟩ := fin (some (.goto t)) W3 hk3
        exact ⟨_, _, hr, .inr ⟨rfl, .goto t, hIx _ _ _ _ hi3 (below_putObj _ _ (by omega)), hl4, hk4⟩⟩
      | panic ch => exact hp.elim
      | outgrown => exact hp.elim
    · rintro e W2 ⟨⟨v, rfl⟩, (⟨hi, hl, hk⟩ | ⟨pre, hSp, c, hi, hl, hk⟩)⟩
      · exact ⟨none, _, by have := run_endLoop (P := Tryz.prog) hl (by rw [hrec]; simp); rw [hrec] at this; exact this, hdone _ _ (Nat.le_refl _) (hI _ _ _ hi (below_putObj _ _ (by omega))) ((World.putObj_heap_other (by omega)).trans hk)⟩
      · exact ⟨some c, _, by have := run_endLoop (P := Tryz.prog) hl (by rw [hrec]; simp); rw [hrec] at this; exact this, hstop _ c pre _ (Nat.le_refl _) hSp (hIx _ _ _ _ hi (below_putObj _ _ (by omega))) ((World.putObj_heap_other (by omega)).trans hk)⟩

end Go.Proofs.YtlipmjpapkfaeaaGreatDoor.Orc
end
section
set_option linter.unusedSimpArgs false
set_option linter.unusedVariables false
namespace Go.Proofs.YtlipmjpapkfaeaaGreatDoor.Orc
open Go Go.RowKit Go.Shelf Go.Proofs
attribute [local go_sem] Oper.semAt_some

theorem set10 {W : World} {B : Nat} {a : Value} {t : TypeId} (h : W.heap[B]? = some (.cells #[a] t (0, 0))) (x : Value) : (W.setCell ⟨B, 0, none⟩ x).heap[B]? = some (.cells #[x] t (0, 0)) := by
  simp [World.setCell, Array.getElem?_modify, h]

def okU (u : Nat × Nat × Int) : Bool := !decide (u.1 = 65533) || decide (u.2.2 = 3)
def validB (s : ByteArray) : Bool := (units s).all okU

set_option maxRecDepth 100000 in
theorem units_in (n : Nat) (s : ByteArray) (w : World) :
    CallsIn Fence.wide n Tryz.prog 72 #[.string s] w fun e w' => e = .returned (.func (.func 111) #[] #[.pointer (some ⟨w.heap.size, 0, none⟩)]) ∧ w' = w.alloc (.cells #[.string s] 9) := by
  refine callsIn_of_wp Tryz.func72 rfl trivial ?_ rfl
  simp only [Tryz.ntmps72, List.size_toArray, List.length_cons, List.length_nil, Nat.reduceAdd, Nat.reduceSub, Array.replicate_succ, Array.replicate_zero, List.push_toArray, List.append_toArray, List.nil_append, List.cons_append]
  gi_wp2
  go_ret
  exact ⟨rfl, rfl⟩

set_option maxRecDepth 100000 in
theorem unitValid_in (n : Nat) (u : Nat × Nat × Int) (w : World) :
    CallsIn Fence.wide n Tryz.prog 73 #[encU u] w fun e w' => e = .returned (.bool (okU u)) ∧ w' = w.alloc (cellsU u) := by
  obtain ⟨c, p, z⟩ := u
  refine callsIn_of_wp Tryz.func73 rfl trivial ?_ rfl
  simp only [Tryz.ntmps73, encU, List.size_toArray, List.length_cons, List.length_nil, Nat.reduceAdd, Nat.reduceSub, Array.replicate_succ, Array.replicate_zero, List.push_toArray, List.append_toArray, List.nil_append, List.cons_append]
  by_cases h1 : c = 65533
  · by_cases h2 : z = 3
    · subst h1 h2
      gi_wp2
      go_ret
      exact ⟨rfl, rfl⟩
    · subst h1
      gi_wp2
      go_ret
      refine ⟨?_, rfl⟩
      simp [okU, h2]
  · have h1' : ¬ ((c : Int) = 65533) := by omega
    gi_wp2
    go_ret
    refine ⟨?_, rfl⟩
    simp [okU, h1]

set_option maxRecDepth 100000 in
set_option maxHeartbeats 1000000 in
theorem valid_in (s : ByteArray) (hs : s.size < 4611686018427387904) (w : World) :
    Calls Tryz.prog 40 #[.string s] w fun e w' => e = .returned (.bool (validB s)) ∧ Below w.heap.size w w' := by
  refine (callsIn_wide (n := 5)).1 ?_
  refine callsIn_of_wp_marks Tryz.func40 rfl trivial ?_ rfl
  simp only [Tryz.ntmps40, List.size_toArray, List.length_cons, List.length_nil, Nat.reduceAdd, Nat.reduceSub, Array.replicate_succ, Array.replicate_zero, List.push_toArray, List.append_toArray, List.nil_append, List.cons_append]
  gi_wp2_with (refine ⟨trivial, ?_⟩; gi_at_call 72; refine (units_in _ s _).mono ?_; rintro e w' ⟨rfl, rfl⟩)
  have hbx : ((w.alloc (Obj.cells #[Value.bool false] 4)).alloc (Obj.cells #[Value.string s] 9)).heap[w.heap.size + 1]? = some (.cells #[.string s] 9 (0, 0)) := by
    have := World.alloc_heap_new (w.alloc (Obj.cells #[Value.bool false] 4)) (Obj.cells #[Value.string s] 9)
    rwa [World.size_alloc] at this
  have hB0 : Below w.heap.size w ((w.alloc (Obj.cells #[Value.bool false] 4)).alloc (Obj.cells #[Value.string s] 9)) := ((Below.refl _ w).alloc (Nat.le_refl _) _).alloc (by simp) _
  have hc0 : ((w.alloc (Obj.cells #[Value.bool false] 4)).alloc (Obj.cells #[Value.string s] 9)).heap[w.heap.size]? = some (.cells #[.bool false] 4 (0, 0)) :=
    (Below.heap_alloc _ _ _ (by simp)).trans (World.alloc_heap_new w _)
  refine wpIn_units (p := 6) (Bm := w.heap.size + 1) (s := s) hs rfl hbx
    (fun pre W => W.heap[w.heap.size]? = some (.cells #[.bool false] 4 (0, 0)) ∧ pre.all okU = true ∧ Below w.heap.size w W)
    (fun c pre W => c = .ret ∧ W.heap[w.heap.size]? = some (.cells #[.bool false] 4 (0, 0)) ∧ pre.all okU = false ∧ Below w.heap.size w W)
    (fun pre A B h hb => ⟨(hb.block _ (by simp; omega)).trans h.1, h.2.1, h.2.2.trans (hb.mono (by simp; omega))⟩)
    (fun c pre A B h hb => ⟨h.1, (hb.block _ (by simp; omega)).trans h.2.1, h.2.2.1, h.2.2.2.trans (hb.mono (by simp; omega))⟩)
    ⟨hc0, rfl, hB0⟩
    (fun Bx x => { tmps := #[.string s, undef, .pointer (some ⟨w.heap.size, 0, none⟩), .pointer (some ⟨Bx, 0, none⟩), .string s, .func (.func 111) #[] #[.pointer (some ⟨w.heap.size + 1, 0, none⟩)], encU x, undef, undef, undef], defers := [] }) ?assign ?body ?done ?stop
  case assign =>
    rintro l ⟨c, p, z⟩ W K hK
    simp only [encU]
    gi_wp2
    exact hK
  case body =>
    rintro l pre x Bx W ⟨hc, hall, hB⟩ hBx hx hpre
    obtain ⟨c, p, z⟩ := x
    obtain ⟨c0, c1, c2, f0, f1, f2⟩ := cell_of3 hx
    have hcc := cell_of1 hc
    obtain ⟨hcc, hcf⟩ := hcc
    simp only [encU]
    by_cases hok : okU (c, p, z) = true
    · gi_wp2_with (refine ⟨trivial, ?_⟩; gi_at_call 73; refine (CallsIn.inRound l (unitValid_in _ (c, p, z) _)).mono ?_; rintro e w' ⟨rfl, rfl⟩)
      exact ⟨⟨by simp, fun k o hk ho => (Below.heap_alloc _ _ _ (Array.getElem?_eq_some_iff.1 ho).1).trans ho⟩, (Below.heap_alloc _ _ _ (Array.getElem?_eq_some_iff.1 hc).1).trans hc, by simp [hall, hok], hB.alloc hB.size _⟩
    · have hok' : okU (c, p, z) = false := by simpa using hok
      have hcA : (W.alloc (cellsU (c, p, z))).heap[w.heap.size]? = some (.cells #[.bool false] 4 (0, 0)) := (Below.heap_alloc _ _ _ (Array.getElem?_eq_some_iff.1 hc).1).trans hc
      obtain ⟨hA, hAf⟩ := cell_of1 hcA
      gi_wp2_with (refine ⟨trivial, ?_⟩; gi_at_call 73; refine (CallsIn.inRound l (unitValid_in _ (c, p, z) _)).mono ?_; rintro e w' ⟨rfl, rfl⟩)
      refine ⟨⟨by simp [World.setCell], fun k o hk ho => ?_⟩, rfl, set10 hcA _, by simp [hall, hok'], (hB.alloc hB.size _).setCell (p := ⟨w.heap.size, 0, none⟩) (Nat.le_refl _) _⟩
      exact (Below.heap_setCell _ _ _ _ (by show k ≠ w.heap.size; omega)).trans ((Below.heap_alloc _ _ _ (Array.getElem?_eq_some_iff.1 ho).1).trans ho)
  case done =>
    rintro D W hD ⟨hc, hall, hB⟩ hK
    obtain ⟨hcc, hcf⟩ := cell_of1 hc
    gi_wp2
    simp at hD
    have hK' : (W.setCell { block := w.heap.size, off := 0 } (Value.bool true)).heap[D]? = some (.deferred (some [])) := (Below.heap_setCell _ _ _ _ (by show D ≠ w.heap.size; omega)).trans hK
    refine ⟨by simp, .inl ⟨_, _, rfl, run_takeDeferred hK', ?_⟩⟩
    have hc5 := (cell_of1 ((World.putObj_heap_other (w := W.setCell { block := w.heap.size, off := 0 } (Value.bool true)) (r := D) (k := w.heap.size) (o := .deferred none) (by omega)).trans (set10 hc _))).1
    refine ⟨.bool true, ?_, by rw [validB, hall], (hB.setCell (p := ⟨w.heap.size, 0, none⟩) (Nat.le_refl _) _).trans (below_putObj _ _ (by omega))⟩
    simp [results, Tryz.f40, go_sem, hc5]
  case stop =>
    rintro D c pre W hD hpre ⟨rfl, hc, hall, hB⟩ hK
    obtain ⟨hcc, hcf⟩ := cell_of1 hc
    gi_wp2
    simp at hD
    refine ⟨by simp, .inl ⟨_, _, rfl, run_takeDeferred hK, ?_⟩⟩
    have hc5 := (cell_of1 ((World.putObj_heap_other (w := W) (r := D) (k := w.heap.size) (o := .deferred none) (by omega)).trans hc)).1
    refine ⟨.bool false, ?_, ?_, hB.trans (below_putObj _ _ (by omega))⟩
    · simp [results, Tryz.f40, go_sem, hc5]
    · obtain ⟨r, hr⟩ := hpre
      rw [validB, ← hr, List.all_append, hall]; rfl

end Go.Proofs.YtlipmjpapkfaeaaGreatDoor.Orc
end
section
set_option linter.unusedSimpArgs false
set_option linter.unusedVariables false
namespace Go.Proofs.YtlipmjpapkfaeaaGreatDoor.Orc
open Go Go.RowKit Go.Shelf Go.Proofs

theorem wpAnyIn_inv {F : Fence} {n : Nat} {P : Program} {ops : Array Oper} {Q : Exit → Act → World → Prop} (Inv : Array Bool → Act → World → Prop)
    (hsz : ∀ l a w, Inv l a w → l.size = ops.size)
    (hstep : ∀ l a w i, Inv l a w → i ∈ Region.ready .any ops l → wpOpIn F n P ops Q i (Inv (l.setIfInBounds i true)) a w)
    (hend : ∀ l a w, Inv l a w → Region.ready .any ops l = [] → Q .normal a w) :
    ∀ (fuel : Nat) (l : Array Bool) (a : Act) (w : World), Inv l a w → ((List.range ops.size).countP fun i => !l.getD i true) ≤ fuel → wpAnyIn F n P .any ops Q fuel l a w := by
  intro fuel
  induction fuel with
  | zero =>
    intro l a w hI hc
    have hnil : Region.ready .any ops l = [] := by
      cases hrd : Region.ready .any ops l with
      | nil => rfl
      | cons x r =>
        exfalso
        obtain ⟨h1, h2, _⟩ := Go.Mach.ready_spec (ops := ops) (listed := l) (i := x) (by rw [hrd]; simp)
        have : 0 < (List.range ops.size).countP fun i => !l.getD i true := List.countP_pos_iff.2 ⟨x, List.mem_range.2 h1, by rw [h2]; rfl⟩
        omega
    exact ⟨hnil, hend l a w hI hnil⟩
  | succ fuel ih =>
    intro l a w hI hc
    refine ⟨fun h => hend l a w hI h, fun i hi => ?_⟩
    obtain ⟨h1, h2, _⟩ := Go.Mach.ready_spec (ops := ops) (listed := l) (i := i) hi
    refine wpOpIn_mono (fun a' w' hI' => ih _ a' w' hI' ?_) (hstep l a w i hI hi)
    have hls := hsz l a w hI
    have : ((List.range ops.size).countP fun j => !(l.setIfInBounds i true).getD j true) + 1 ≤ (List.range ops.size).countP fun j => !l.getD j true := by
      have hsplit : ∀ (L : List Nat), L.Nodup → i ∈ L → (L.countP fun j => !(l.setIfInBounds i true).getD j true) + 1 ≤ L.countP fun j => !l.getD j true := by
        intro L
        induction L with
        | nil => intro _ h; cases h
        | cons x xs ihx =>
          intro hnd hm
          rw [List.nodup_cons] at hnd
          rcases List.mem_cons.1 hm with rfl | hm'
          · have heq : (xs.countP fun j => !(l.setIfInBounds i true).getD j true) = xs.countP fun j => !l.getD j true := by
              refine List.countP_congr fun j hj => ?_
              have hne : i ≠ j := fun e => hnd.1 (e ▸ hj)
              simp [Array.getD_eq_getD_getElem?, Array.getElem?_setIfInBounds, hne]
            rw [List.countP_cons, List.countP_cons, heq]
            have hx : (l.setIfInBounds i true).getD i true = true := by simp [Array.getD_eq_getD_getElem?, Array.getElem?_setIfInBounds, hls, h1]
            rw [hx, h2]
            simp
          · have hne : i ≠ x := fun e => hnd.1 (e ▸ hm')
            have := ihx hnd.2 hm'
            rw [List.countP_cons, List.countP_cons]
            have hx : (!(l.setIfInBounds i true).getD x true) = !l.getD x true := by simp [Array.getD_eq_getD_getElem?, Array.getElem?_setIfInBounds, hne]
            rw [hx]; omega
      exact hsplit _ List.nodup_range (List.mem_range.2 h1)
    omega

theorem op_val {l n : Nat} {P : Program} {ops : Array Oper} {Q : Exit → Act → World → Prop} {i : Nat} {o : Oper} {K : Act → World → Prop} {a : Act} {w w' : World} {v : Value} (ho : ops[i]? = some o) (hg : o.guard = none)
    (hd : ∀ c, o.op ≠ .defer c) (hr : (execOp a.eval o).run P w = .ok (.value v) w') (hK : K (a.put o.dst v) w') : wpOpIn (Fence.wide.inRound l) n P ops Q i K a w := by
  unfold wpOpIn
  simp only [ho]
  have hw : Region.wanted o (yielded ops a.tmps) = true := by unfold Region.wanted; rw [hg]
  simp only [hw, if_true]
  refine ⟨fun f _ => trivial, ?_⟩
  rw [Oper.semAt_eq _ _ _ hd, hr]
  exact hK
theorem op_skip {l n : Nat} {P : Program} {ops : Array Oper} {Q : Exit → Act → World → Prop} {i : Nat} {o : Oper} {K : Act → World → Prop} {a : Act} {w w' : World} (ho : ops[i]? = some o) (hg : o.guard = none)
    (hd : ∀ c, o.op ≠ .defer c) (hr : (execOp a.eval o).run P w = .ok .skip w') (hK : K (a.put o.dst undef) w') : wpOpIn (Fence.wide.inRound l) n P ops Q i K a w := by
  unfold wpOpIn
  simp only [ho]
  have hw : Region.wanted o (yielded ops a.tmps) = true := by unfold Region.wanted; rw [hg]
  simp only [hw, if_true]
  refine ⟨fun f _ => trivial, ?_⟩
  rw [Oper.semAt_eq _ _ _ hd, hr]
  exact hK


/-- The four result cells. -/
def four (N : Nat) (W : World) (r a z : Int) (b : Bool) : Prop :=
  W.heap[N + 1]? = some (.cells #[.int .i32 r] 21 (0, 0)) ∧ W.heap[N + 2]? = some (.cells #[.int .i64 a] 3 (0, 0)) ∧ W.heap[N + 3]? = some (.cells #[.int .i64 z] 3 (0, 0)) ∧ W.heap[N + 4]? = some (.cells #[.bool b] 4 (0, 0))

theorem four.kept {N : Nat} {A B : World} {r a z : Int} {b : Bool} (h : four N A r a z b) (hb : ∀ k, k < N + 5 → B.heap[k]? = A.heap[k]?) : four N B r a z b :=
  ⟨(hb _ (by omega)).trans h.1, (hb _ (by omega)).trans h.2.1, (hb _ (by omega)).trans h.2.2.1, (hb _ (by omega)).trans h.2.2.2⟩

/-- The region 'r, at, size, ok = u.r, u.at, u.size, true', as the dump has it. -/
def reg4 : Array Oper := #[{ dst := some 14, op := Op.fieldAddr 109 (Operand.tmp 8) 0, type := 0, pos := "codepoint.go:65", after := #[], guard := none },
        { dst := some 15, op := Op.load 21 (Operand.tmp 14), type := 21, pos := "codepoint.go:65",
          after := #[{ on := 0, ground := Ground.data }], guard := none },
        { dst := some 16, op := Op.fieldAddr 109 (Operand.tmp 8) 1, type := 0, pos := "codepoint.go:65",
          after := #[{ on := 6, ground := Ground.gcOnly Departure.lateStores }], guard := none },
        { dst := some 17, op := Op.load 3 (Operand.tmp 16), type := 3, pos := "codepoint.go:65",
          after := #[{ on := 2, ground := Ground.data }, { on := 6, ground := Ground.gcOnly Departure.lateStores }],
          guard := none },
        { dst := some 18, op := Op.fieldAddr 109 (Operand.tmp 8) 2, type := 0, pos := "codepoint.go:65",
          after := #[{ on := 7, ground := Ground.gcOnly Departure.lateStores }], guard := none },
        { dst := some 19, op := Op.load 3 (Operand.tmp 18), type := 3, pos := "codepoint.go:65",
          after := #[{ on := 4, ground := Ground.data }, { on := 7, ground := Ground.gcOnly Departure.lateStores }],
          guard := none },
        { dst := none, op := Op.store 21 (Operand.tmp 4) (Operand.tmp 15), type := 0, pos := "codepoint.go:65",
          after :=
            #[{ on := 1, ground := Ground.data }, { on := 0, ground := Ground.phase },
              { on := 1, ground := Ground.phase }, { on := 2, ground := Ground.textOnly Departure.lateStores },
              { on := 3, ground := Ground.textOnly Departure.lateStores },
              { on := 4, ground := Ground.textOnly Departure.lateStores },
              { on := 5, ground := Ground.textOnly Departure.lateStores }],
          guard := none },
        { dst := none, op := Op.store 3 (Operand.tmp 5) (Operand.tmp 17), type := 0, pos := "codepoint.go:65",
          after :=
            #[{ on := 3, ground := Ground.data }, { on := 6, ground := Ground.chain },
              { on := 0, ground := Ground.phase }, { on := 1, ground := Ground.phase },
              { on := 2, ground := Ground.phase }, { on := 3, ground := Ground.phase },
              { on := 4, ground := Ground.textOnly Departure.lateStores },
              { on := 5, ground := Ground.textOnly Departure.lateStores }, { on := 6, ground := Ground.phase }],
          guard := none },
        { dst := none, op := Op.store 3 (Operand.tmp 6) (Operand.tmp 19), type := 0, pos := "codepoint.go:65",
          after :=
            #[{ on := 5, ground := Ground.data }, { on := 7, ground := Ground.chain },
              { on := 0, ground := Ground.phase }, { on := 1, ground := Ground.phase },
              { on := 2, ground := Ground.phase }, { on := 3, ground := Ground.phase },
              { on := 4, ground := Ground.phase }, { on := 5, ground := Ground.phase },
              { on := 6, ground := Ground.phase }, { on := 7, ground := Ground.phase }],
          guard := none },
        { dst := none, op := Op.store 4 (Operand.tmp 7) (Operand.const (Value.bool true)), type := 0,
          pos := "codepoint.go:65",
          after :=
            #[{ on := 8, ground := Ground.chain }, { on := 0, ground := Ground.phase },
              { on := 1, ground := Ground.phase }, { on := 2, ground := Ground.phase },
              { on := 3, ground := Ground.phase }, { on := 4, ground := Ground.phase },
              { on := 5, ground := Ground.phase }, { on := 6, ground := Ground.phase },
              { on := 7, ground := Ground.phase }, { on := 8, ground := Ground.phase }],
          guard := none }]

/-- Where the stores stand: how many of the four are done. -/
abbrev st4a (W : World) (N : Nat) (r : Int) : World := W.setCell ⟨N + 1, 0, none⟩ (.int .i32 r)
abbrev st4b (W : World) (N : Nat) (r a : Int) : World := (st4a W N r).setCell ⟨N + 2, 0, none⟩ (.int .i64 a)
abbrev st4c (W : World) (N : Nat) (r a z : Int) : World := (st4b W N r a).setCell ⟨N + 3, 0, none⟩ (.int .i64 z)
abbrev st4d (W : World) (N : Nat) (r a z : Int) : World := (st4c W N r a z).setCell ⟨N + 4, 0, none⟩ (.bool true)
def st4 (W : World) (N : Nat) (r a z : Int) : Nat → World
  | 0 => W
  | 1 => st4a W N r
  | 2 => st4b W N r a
  | 3 => st4c W N r a z
  | 4 => st4d W N r a z
  | _ + 5 => W

structure Inv4 (W : World) (N Bx : Nat) (r a z : Int) (k : Nat) (L : Array Bool) (A : Act) (V : World) : Prop where
  sz : L.size = 10
  ts : A.tmps.size = 22
  t4 : A.tmps.getD 4 undef = .pointer (some ⟨N + 1, 0, none⟩)
  t5 : A.tmps.getD 5 undef = .pointer (some ⟨N + 2, 0, none⟩)
  t6 : A.tmps.getD 6 undef = .pointer (some ⟨N + 3, 0, none⟩)
  t7 : A.tmps.getD 7 undef = .pointer (some ⟨N + 4, 0, none⟩)
  t8 : A.tmps.getD 8 undef = .pointer (some ⟨Bx, 0, none⟩)
  l0 : L.getD 0 true = true → A.tmps.getD 14 undef = .pointer (some ⟨Bx, 0, none⟩)
  l1 : L.getD 1 true = true → A.tmps.getD 15 undef = .int .i32 r
  l2 : L.getD 2 true = true → A.tmps.getD 16 undef = .pointer (some ⟨Bx, 1, none⟩)
  l3 : L.getD 3 true = true → A.tmps.getD 17 undef = .int .i64 a
  l4 : L.getD 4 true = true → A.tmps.getD 18 undef = .pointer (some ⟨Bx, 2, none⟩)
  l5 : L.getD 5 true = true → A.tmps.getD 19 undef = .int .i64 z
  hV : V = st4 W N r a z k
  k4 : k ≤ 4
  b6 : L.getD 6 true = decide (1 ≤ k)
  b7 : L.getD 7 true = decide (2 ≤ k)
  b8 : L.getD 8 true = decide (3 ≤ k)
  b9 : L.getD 9 true = decide (4 ≤ k)

theorem st4_other (W : World) (N : Nat) (r a z : Int) : ∀ k j, j ≠ N + 1 → j ≠ N + 2 → j ≠ N + 3 → j ≠ N + 4 → (st4 W N r a z k).heap[j]? = W.heap[j]?
  | 0, j, h1, h2, h3, h4 => rfl
  | 1, j, h1, h2, h3, h4 => Below.heap_setCell _ _ _ _ h1
  | 2, j, h1, h2, h3, h4 => (Below.heap_setCell _ _ _ _ h2).trans (Below.heap_setCell _ _ _ _ h1)
  | 3, j, h1, h2, h3, h4 => (Below.heap_setCell _ _ _ _ h3).trans ((Below.heap_setCell _ _ _ _ h2).trans (Below.heap_setCell _ _ _ _ h1))
  | 4, j, h1, h2, h3, h4 => (Below.heap_setCell _ _ _ _ h4).trans ((Below.heap_setCell _ _ _ _ h3).trans ((Below.heap_setCell _ _ _ _ h2).trans (Below.heap_setCell _ _ _ _ h1)))
  | _ + 5, j, h1, h2, h3, h4 => rfl

theorem put_getD (A : Act) (d t : Nat) (v : Value) (hd : d < A.tmps.size) : (A.put (some d) v).tmps.getD t undef = if t = d then v else A.tmps.getD t undef := by
  simp only [Act.put, Array.getD_eq_getD_getElem?, Array.getElem?_setIfInBounds]
  by_cases h : d = t
  · subst h; simp [hd]
  · simp [h, Ne.symm h]

theorem put_size (A : Act) (d : Option Nat) (v : Value) : (A.put d v).tmps.size = A.tmps.size := by
  cases d <;> simp [Act.put]

theorem set_getD (L : Array Bool) (i j : Nat) (hi : i < L.size) : (L.setIfInBounds i true).getD j true = if j = i then true else L.getD j true := by
  simp only [Array.getD_eq_getD_getElem?, Array.getElem?_setIfInBounds]
  by_cases h : i = j
  · subst h; simp [hi]
  · simp [h, Ne.symm h]

theorem gdT {L : Array Bool} {j : Nat} (h : L.getD j false = true) : L.getD j true = true := by
  simp only [Array.getD_eq_getD_getElem?] at *
  cases e : L[j]? with
  | none => rfl
  | some b => rw [e] at h; exact h
theorem keepT {A : Act} {d t : Nat} {x v : Value} (hd : d < A.tmps.size) (hne : t ≠ d) (h : A.tmps.getD t undef = v) : (A.put (some d) x).tmps.getD t undef = v := by
  rw [put_getD A d t x hd, if_neg hne]; exact h
theorem newT {A : Act} {d : Nat} {x : Value} (hd : d < A.tmps.size) : (A.put (some d) x).tmps.getD d undef = x := by
  rw [put_getD A d d x hd, if_pos rfl]
theorem keepB {L : Array Bool} {i j : Nat} {b : Bool} (hi : i < L.size) (hne : j ≠ i) (h : L.getD j true = b) : (L.setIfInBounds i true).getD j true = b := by
  rw [set_getD L i j hi, if_neg hne]; exact h
theorem newB {L : Array Bool} {i : Nat} (hi : i < L.size) : (L.setIfInBounds i true).getD i true = true := by
  rw [set_getD L i i hi, if_pos rfl]
theorem backB {L : Array Bool} {i j : Nat} (hi : i < L.size) (hne : j ≠ i) (h : (L.setIfInBounds i true).getD j true = true) : L.getD j true = true := by
  rw [set_getD L i j hi, if_neg hne] at h; exact h

theorem ready_nil' {ops : Array Oper} (hback : ∀ i o, ops[i]? = some o → ∀ j ∈ Go.Mach.directsO o, j < i) {listed : Array Bool} (hsz : listed.size = ops.size) (h : Region.ready .any ops listed = []) : ∀ i, i < ops.size → listed.getD i false = true := by
  intro i
  induction i using Nat.strongRecOn with
  | _ i ih =>
    intro hi
    cases hl : listed.getD i false with
    | true => rfl
    | false =>
      exfalso
      have ho : ops[i]? = some ops[i] := by simp [hi]
      have hmem : i ∈ Region.ready .any ops listed := by
        unfold Region.ready
        rw [List.mem_filter, List.mem_range]
        refine ⟨hi, ?_⟩
        rw [Go.Mach.getD_true_false (by rw [hsz]; exact hi), hl, ho]
        simp only [Bool.not_false, Option.map_some, Option.getD_some, Bool.true_and]
        rw [Array.all_eq_true_iff_forall_mem]
        intro e he
        cases hb : Region.binds .any e with
        | false => simp
        | true =>
          have hd : e.on ∈ Go.Mach.directsO ops[i] := by
            unfold Go.Mach.directsO
            exact List.mem_map.2 ⟨e, List.mem_filter.2 ⟨by simpa using he, hb⟩, rfl⟩
          have hlt := hback i ops[i] ho _ hd
          simp [ih e.on hlt (by omega)]
      rw [h] at hmem
      cases hmem

theorem reg4_back : ∀ i o, reg4[i]? = some o → ∀ j ∈ Go.Mach.directsO o, j < i := by
  have hall : (List.range 10).all (fun i => (Go.Mach.directsO (reg4.getD i default)).all fun j => decide (j < i)) = true := by decide
  intro i o ho j hj
  have hi : i < reg4.size := (Array.getElem?_eq_some_iff.1 ho).1
  have h1 := List.all_eq_true.1 hall i (List.mem_range.2 hi)
  have h2 : reg4.getD i default = o := by rw [Array.getD_eq_getD_getElem?, ho]; rfl
  rw [h2] at h1
  simpa using List.all_eq_true.1 h1 j hj

section
variable {W : World} {N Bx : Nat} {r a z : Int} {n l : Nat} {Q : Exit → Act → World → Prop}
variable (hBx : N + 5 ≤ Bx) (hx : W.heap[Bx]? = some (.cells #[.int .i32 r, .int .i64 a, .int .i64 z] 109 (0, 0))) (hf : four N W 0 0 0 false)
include hBx hx hf

theorem reg4_cells (k : Nat) (hk : k ≤ 4) : four N (st4 W N r a z k) (if 1 ≤ k then r else 0) (if 2 ≤ k then a else 0) (if 3 ≤ k then z else 0) (decide (4 ≤ k)) ∧
    (st4 W N r a z k).heap[Bx]? = some (.cells #[.int .i32 r, .int .i64 a, .int .i64 z] 109 (0, 0)) := by
  refine ⟨?_, (st4_other W N r a z k Bx (by omega) (by omega) (by omega) (by omega)).trans hx⟩
  obtain ⟨h1, h2, h3, h4⟩ := hf
  have o := fun (V : World) (i j : Nat) (v : Value) (h : j ≠ i) => Below.heap_setCell V ⟨i, 0, none⟩ v j h
  have e1 : (st4 W N r a z 1).heap[N + 1]? = _ := set10 h1 (.int .i32 r)
  have e12 : (st4 W N r a z 1).heap[N + 2]? = _ := (o _ _ _ _ (by omega)).trans h2
  have e13 : (st4 W N r a z 1).heap[N + 3]? = _ := (o _ _ _ _ (by omega)).trans h3
  have e14 : (st4 W N r a z 1).heap[N + 4]? = _ := (o _ _ _ _ (by omega)).trans h4
  have e21 : (st4 W N r a z 2).heap[N + 1]? = _ := (o _ _ _ _ (by omega)).trans e1
  have e22 : (st4 W N r a z 2).heap[N + 2]? = _ := set10 e12 (.int .i64 a)
  have e23 : (st4 W N r a z 2).heap[N + 3]? = _ := (o _ _ _ _ (by omega)).trans e13
  have e24 : (st4 W N r a z 2).heap[N + 4]? = _ := (o _ _ _ _ (by omega)).trans e14
  have e31 : (st4 W N r a z 3).heap[N + 1]? = _ := (o _ _ _ _ (by omega)).trans e21
  have e32 : (st4 W N r a z 3).heap[N + 2]? = _ := (o _ _ _ _ (by omega)).trans e22
  have e33 : (st4 W N r a z 3).heap[N + 3]? = _ := set10 e23 (.int .i64 z)
  have e34 : (st4 W N r a z 3).heap[N + 4]? = _ := (o _ _ _ _ (by omega)).trans e24
  have e41 : (st4 W N r a z 4).heap[N + 1]? = _ := (o _ _ _ _ (by omega)).trans e31
  have e42 : (st4 W N r a z 4).heap[N + 2]? = _ := (o _ _ _ _ (by omega)).trans e32
  have e43 : (st4 W N r a z 4).heap[N + 3]? = _ := (o _ _ _ _ (by omega)).trans e33
  have e44 : (st4 W N r a z 4).heap[N + 4]? = _ := set10 e34 (.bool true)
  match k, hk with
  | 0, _ => exact ⟨h1, h2, h3, h4⟩
  | 1, _ => exact ⟨e1, e12, e13, e14⟩
  | 2, _ => exact ⟨e21, e22, e23, e24⟩
  | 3, _ => exact ⟨e31, e32, e33, e34⟩
  | 4, _ => exact ⟨e41, e42, e43, e44⟩

theorem reg4_step (k : Nat) (L : Array Bool) (A : Act) (V : World) (i : Nat) (h : Inv4 W N Bx r a z k L A V) (hi : i ∈ Region.ready .any reg4 L) :
    wpOpIn (Fence.wide.inRound l) n Tryz.prog reg4 Q i (fun A' V' => ∃ k', Inv4 W N Bx r a z k' (L.setIfInBounds i true) A' V') A V := by
  obtain ⟨h1, h2, h3'⟩ := Go.Mach.ready_spec hi
  have h3 := fun (o : Oper) (ho : reg4[i]? = some o) (j : Nat) (hj : j ∈ Go.Mach.directsO o) => gdT (h3' o ho j hj)
  have hsz : reg4.size = 10 := rfl
  rw [hsz] at h1
  obtain ⟨⟨q1, q2, q3, q4⟩, qx⟩ := reg4_cells hBx hx hf k h.k4
  obtain ⟨c0, c1, c2, f0, f1, f2⟩ := cell_of3 qx
  obtain ⟨q1c, q1f⟩ := cell_of1 q1
  obtain ⟨q2c, q2f⟩ := cell_of1 q2
  obtain ⟨q3c, q3f⟩ := cell_of1 q3
  obtain ⟨q4c, q4f⟩ := cell_of1 q4
  obtain ⟨sz, ts, t4, t5, t6, t7, t8, l0, l1, l2, l3, l4, l5, hV, k4, b6, b7, b8, b9⟩ := h
  subst hV
  have ev : ∀ t, A.eval (.tmp t) = A.tmps.getD t undef := fun t => rfl
  have iv : i = 0 ∨ i = 1 ∨ i = 2 ∨ i = 3 ∨ i = 4 ∨ i = 5 ∨ i = 6 ∨ i = 7 ∨ i = 8 ∨ i = 9 := by omega
  rcases iv with rfl | rfl | rfl | rfl | rfl | rfl | rfl | rfl | rfl | rfl
  · skip
    refine op_val (o := reg4[0]) rfl rfl (fun c h => by cases h) (v := .pointer (some ⟨Bx, 0, none⟩)) (w' := st4 W N r a z k) ?_ ?_
    · simp [reg4, go_sem, ev, *]
    · have hd : 14 < A.tmps.size := by omega
      have hl : 0 < L.size := by omega
      refine ⟨k, by simp [sz], (put_size _ _ _).trans ts, keepT hd (by decide) t4, keepT hd (by decide) t5, keepT hd (by decide) t6, keepT hd (by decide) t7, keepT hd (by decide) t8, fun _ => newT hd, fun h => keepT hd (by decide) (l1 (backB hl (by decide) h)), fun h => keepT hd (by decide) (l2 (backB hl (by decide) h)), fun h => keepT hd (by decide) (l3 (backB hl (by decide) h)), fun h => keepT hd (by decide) (l4 (backB hl (by decide) h)), fun h => keepT hd (by decide) (l5 (backB hl (by decide) h)), rfl, k4, keepB hl (by decide) b6, keepB hl (by decide) b7, keepB hl (by decide) b8, keepB hl (by decide) b9⟩
  · have r0 := l0 (h3 _ rfl 0 (by decide))
    refine op_val (o := reg4[1]) rfl rfl (fun c h => by cases h) (v := .int .i32 r) (w' := st4 W N r a z k) ?_ ?_
    · simp [reg4, go_sem, ev, *]
    · have hd : 15 < A.tmps.size := by omega
      have hl : 1 < L.size := by omega
      refine ⟨k, by simp [sz], (put_size _ _ _).trans ts, keepT hd (by decide) t4, keepT hd (by decide) t5, keepT hd (by decide) t6, keepT hd (by decide) t7, keepT hd (by decide) t8, fun h => keepT hd (by decide) (l0 (backB hl (by decide) h)), fun _ => newT hd, fun h => keepT hd (by decide) (l2 (backB hl (by decide) h)), fun h => keepT hd (by decide) (l3 (backB hl (by decide) h)), fun h => keepT hd (by decide) (l4 (backB hl (by decide) h)), fun h => keepT hd (by decide) (l5 (backB hl (by decide) h)), rfl, k4, keepB hl (by decide) b6, keepB hl (by decide) b7, keepB hl (by decide) b8, keepB hl (by decide) b9⟩
  · skip
    refine op_val (o := reg4[2]) rfl rfl (fun c h => by cases h) (v := .pointer (some ⟨Bx, 1, none⟩)) (w' := st4 W N r a z k) ?_ ?_
    · simp [reg4, go_sem, ev, *]
    · have hd : 16 < A.tmps.size := by omega
      have hl : 2 < L.size := by omega
      refine ⟨k, by simp [sz], (put_size _ _ _).trans ts, keepT hd (by decide) t4, keepT hd (by decide) t5, keepT hd (by decide) t6, keepT hd (by decide) t7, keepT hd (by decide) t8, fun h => keepT hd (by decide) (l0 (backB hl (by decide) h)), fun h => keepT hd (by decide) (l1 (backB hl (by decide) h)), fun _ => newT hd, fun h => keepT hd (by decide) (l3 (backB hl (by decide) h)), fun h => keepT hd (by decide) (l4 (backB hl (by decide) h)), fun h => keepT hd (by decide) (l5 (backB hl (by decide) h)), rfl, k4, keepB hl (by decide) b6, keepB hl (by decide) b7, keepB hl (by decide) b8, keepB hl (by decide) b9⟩
  · have r2 := l2 (h3 _ rfl 2 (by decide))
    refine op_val (o := reg4[3]) rfl rfl (fun c h => by cases h) (v := .int .i64 a) (w' := st4 W N r a z k) ?_ ?_
    · simp [reg4, go_sem, ev, *]
    · have hd : 17 < A.tmps.size := by omega
      have hl : 3 < L.size := by omega
      refine ⟨k, by simp [sz], (put_size _ _ _).trans ts, keepT hd (by decide) t4, keepT hd (by decide) t5, keepT hd (by decide) t6, keepT hd (by decide) t7, keepT hd (by decide) t8, fun h => keepT hd (by decide) (l0 (backB hl (by decide) h)), fun h => keepT hd (by decide) (l1 (backB hl (by decide) h)), fun h => keepT hd (by decide) (l2 (backB hl (by decide) h)), fun _ => newT hd, fun h => keepT hd (by decide) (l4 (backB hl (by decide) h)), fun h => keepT hd (by decide) (l5 (backB hl (by decide) h)), rfl, k4, keepB hl (by decide) b6, keepB hl (by decide) b7, keepB hl (by decide) b8, keepB hl (by decide) b9⟩
  · skip
    refine op_val (o := reg4[4]) rfl rfl (fun c h => by cases h) (v := .pointer (some ⟨Bx, 2, none⟩)) (w' := st4 W N r a z k) ?_ ?_
    · simp [reg4, go_sem, ev, *]
    · have hd : 18 < A.tmps.size := by omega
      have hl : 4 < L.size := by omega
      refine ⟨k, by simp [sz], (put_size _ _ _).trans ts, keepT hd (by decide) t4, keepT hd (by decide) t5, keepT hd (by decide) t6, keepT hd (by decide) t7, keepT hd (by decide) t8, fun h => keepT hd (by decide) (l0 (backB hl (by decide) h)), fun h => keepT hd (by decide) (l1 (backB hl (by decide) h)), fun h => keepT hd (by decide) (l2 (backB hl (by decide) h)), fun h => keepT hd (by decide) (l3 (backB hl (by decide) h)), fun _ => newT hd, fun h => keepT hd (by decide) (l5 (backB hl (by decide) h)), rfl, k4, keepB hl (by decide) b6, keepB hl (by decide) b7, keepB hl (by decide) b8, keepB hl (by decide) b9⟩
  · have r4 := l4 (h3 _ rfl 4 (by decide))
    refine op_val (o := reg4[5]) rfl rfl (fun c h => by cases h) (v := .int .i64 z) (w' := st4 W N r a z k) ?_ ?_
    · simp [reg4, go_sem, ev, *]
    · have hd : 19 < A.tmps.size := by omega
      have hl : 5 < L.size := by omega
      refine ⟨k, by simp [sz], (put_size _ _ _).trans ts, keepT hd (by decide) t4, keepT hd (by decide) t5, keepT hd (by decide) t6, keepT hd (by decide) t7, keepT hd (by decide) t8, fun h => keepT hd (by decide) (l0 (backB hl (by decide) h)), fun h => keepT hd (by decide) (l1 (backB hl (by decide) h)), fun h => keepT hd (by decide) (l2 (backB hl (by decide) h)), fun h => keepT hd (by decide) (l3 (backB hl (by decide) h)), fun h => keepT hd (by decide) (l4 (backB hl (by decide) h)), fun _ => newT hd, rfl, k4, keepB hl (by decide) b6, keepB hl (by decide) b7, keepB hl (by decide) b8, keepB hl (by decide) b9⟩
  · have hk1 : k = 0 := by
      have hn := b6.symm.trans h2
      skip
      simp at hn
      omega
    subst hk1
    have rd := l1 (h3 _ rfl 1 (by decide))
    simp only [Nat.reduceLeDiff, if_true, if_false, decide_true, decide_false] at q1c q2c q3c q4c
    refine op_skip (o := reg4[6]) rfl rfl (fun c h => by cases h) (w' := st4 W N r a z 1) ?_ ?_
    · simp [reg4, go_sem, ev, *]
      try rfl
    · have hl : 6 < L.size := by omega
      refine ⟨1, by simp [sz], ts, t4, t5, t6, t7, t8, fun h => l0 (backB hl (by decide) h), fun h => l1 (backB hl (by decide) h), fun h => l2 (backB hl (by decide) h), fun h => l3 (backB hl (by decide) h), fun h => l4 (backB hl (by decide) h), fun h => l5 (backB hl (by decide) h), rfl, by omega, (newB hl).trans (by simp), (keepB hl (by decide) b7).trans (by simp), (keepB hl (by decide) b8).trans (by simp), (keepB hl (by decide) b9).trans (by simp)⟩
  · have hk1 : k = 1 := by
      have hn := b7.symm.trans h2
      have hp := b6.symm.trans (h3 _ rfl 6 (by decide))
      simp at hn hp
      omega
    subst hk1
    have rd := l3 (h3 _ rfl 3 (by decide))
    simp only [Nat.reduceLeDiff, if_true, if_false, decide_true, decide_false] at q1c q2c q3c q4c
    refine op_skip (o := reg4[7]) rfl rfl (fun c h => by cases h) (w' := st4 W N r a z 2) ?_ ?_
    · simp [reg4, go_sem, ev, *]
      try rfl
    · have hl : 7 < L.size := by omega
      refine ⟨2, by simp [sz], ts, t4, t5, t6, t7, t8, fun h => l0 (backB hl (by decide) h), fun h => l1 (backB hl (by decide) h), fun h => l2 (backB hl (by decide) h), fun h => l3 (backB hl (by decide) h), fun h => l4 (backB hl (by decide) h), fun h => l5 (backB hl (by decide) h), rfl, by omega, (keepB hl (by decide) b6).trans (by simp), (newB hl).trans (by simp), (keepB hl (by decide) b8).trans (by simp), (keepB hl (by decide) b9).trans (by simp)⟩
  · have hk1 : k = 2 := by
      have hn := b8.symm.trans h2
      have hp := b7.symm.trans (h3 _ rfl 7 (by decide))
      simp at hn hp
      omega
    subst hk1
    have rd := l5 (h3 _ rfl 5 (by decide))
    simp only [Nat.reduceLeDiff, if_true, if_false, decide_true, decide_false] at q1c q2c q3c q4c
    refine op_skip (o := reg4[8]) rfl rfl (fun c h => by cases h) (w' := st4 W N r a z 3) ?_ ?_
    · simp [reg4, go_sem, ev, *]
      try rfl
    · have hl : 8 < L.size := by omega
      refine ⟨3, by simp [sz], ts, t4, t5, t6, t7, t8, fun h => l0 (backB hl (by decide) h), fun h => l1 (backB hl (by decide) h), fun h => l2 (backB hl (by decide) h), fun h => l3 (backB hl (by decide) h), fun h => l4 (backB hl (by decide) h), fun h => l5 (backB hl (by decide) h), rfl, by omega, (keepB hl (by decide) b6).trans (by simp), (keepB hl (by decide) b7).trans (by simp), (newB hl).trans (by simp), (keepB hl (by decide) b9).trans (by simp)⟩
  · have hk1 : k = 3 := by
      have hn := b9.symm.trans h2
      have hp := b8.symm.trans (h3 _ rfl 8 (by decide))
      simp at hn hp
      omega
    subst hk1
    skip
    simp only [Nat.reduceLeDiff, if_true, if_false, decide_true, decide_false] at q1c q2c q3c q4c
    refine op_skip (o := reg4[9]) rfl rfl (fun c h => by cases h) (w' := st4 W N r a z 4) ?_ ?_
    · simp [reg4, go_sem, ev, *]
      try rfl
    · have hl : 9 < L.size := by omega
      refine ⟨4, by simp [sz], ts, t4, t5, t6, t7, t8, fun h => l0 (backB hl (by decide) h), fun h => l1 (backB hl (by decide) h), fun h => l2 (backB hl (by decide) h), fun h => l3 (backB hl (by decide) h), fun h => l4 (backB hl (by decide) h), fun h => l5 (backB hl (by decide) h), rfl, by omega, (keepB hl (by decide) b6).trans (by simp), (keepB hl (by decide) b7).trans (by simp), (keepB hl (by decide) b8).trans (by simp), (newB hl).trans (by simp)⟩

theorem reg4_wp {A : Act} (h : Inv4 { W with drawn := W.drawn + 1 } N Bx r a z 0 (Array.replicate 10 false) A { W with drawn := W.drawn + 1 })
    (hQ : ∀ A', Q .normal A' (st4 { W with drawn := W.drawn + 1 } N r a z 4)) : (Code.region 4 reg4 true).wpIn (Fence.wide.inRound l) n Tryz.prog Q A W := by
  refine wpIn_region_any Tryz.checked.mixed ?_
  refine wpAnyIn_inv (fun L A V => ∃ k, Inv4 { W with drawn := W.drawn + 1 } N Bx r a z k L A V) (fun L A V ⟨k, h⟩ => show L.size = reg4.size from h.sz) (fun L A V i ⟨k, h⟩ hi => reg4_step (W := { W with drawn := W.drawn + 1 }) hBx hx hf k L A V i h hi) ?_ _ _ _ _ ⟨0, h⟩ ?_
  · rintro L A V ⟨k, h⟩ hnil
    have h9 := ready_nil' reg4_back h.sz hnil 9 (by decide)
    have h9' := gdT h9
    rw [h.b9] at h9'
    simp at h9'
    have hk : k = 4 := by have := h.k4; omega
    subst hk
    rw [h.hV]
    exact hQ A
  · exact Nat.le_trans List.countP_le_length (by simp [reg4])
end
end Go.Proofs.YtlipmjpapkfaeaaGreatDoor.Orc
end
