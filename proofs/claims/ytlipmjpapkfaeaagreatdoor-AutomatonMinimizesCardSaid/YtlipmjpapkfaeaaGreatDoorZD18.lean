/- The iterator codepoint.units$1 (F111): its contract. No condition but the string's size.
Merged from 1 texts. -/
import Derived.Test.YtlipmjpapkfaeaaGreatDoorZD17
import Derived.Lib.OthersKept
section
set_option linter.unusedSimpArgs false
set_option linter.unusedVariables false
namespace Go.Proofs.YtlipmjpapkfaeaaGreatDoor.Orc
open Go Go.RowKit Go.Shelf Go.Proofs
attribute [local go_sem] Oper.semAt_some
theorem cell_of3 {W : World} {B : Nat} {a b c : Value} {t : TypeId} (h : W.heap[B]? = some (.cells #[a, b, c] t (0, 0))) :
    W.cell? ⟨B, 0, none⟩ = some a ∧ W.cell? ⟨B, 1, none⟩ = some b ∧ W.cell? ⟨B, 2, none⟩ = some c ∧ W.frozen? ⟨B, 0, none⟩ = false ∧ W.frozen? ⟨B, 1, none⟩ = false ∧ W.frozen? ⟨B, 2, none⟩ = false := by
  refine ⟨?_, ?_, ?_, ?_, ?_, ?_⟩ <;> simp [World.cell?, World.frozen?, h]
theorem cell_of1 {W : World} {B : Nat} {a : Value} {t : TypeId} (h : W.heap[B]? = some (.cells #[a] t (0, 0))) :
    W.cell? ⟨B, 0, none⟩ = some a ∧ W.frozen? ⟨B, 0, none⟩ = false := by
  refine ⟨?_, ?_⟩ <;> simp [World.cell?, World.frozen?, h]
theorem set30 {W : World} {B : Nat} {a b c : Value} {t : TypeId} (h : W.heap[B]? = some (.cells #[a, b, c] t (0, 0))) (x : Value) : (W.setCell ⟨B, 0, none⟩ x).heap[B]? = some (.cells #[x, b, c] t (0, 0)) := by
  simp [World.setCell, Array.getElem?_modify, h]
theorem set31 {W : World} {B : Nat} {a b c : Value} {t : TypeId} (h : W.heap[B]? = some (.cells #[a, b, c] t (0, 0))) (x : Value) : (W.setCell ⟨B, 1, none⟩ x).heap[B]? = some (.cells #[a, x, c] t (0, 0)) := by
  simp [World.setCell, Array.getElem?_modify, h]
theorem set32 {W : World} {B : Nat} {a b c : Value} {t : TypeId} (h : W.heap[B]? = some (.cells #[a, b, c] t (0, 0))) (x : Value) : (W.setCell ⟨B, 2, none⟩ x).heap[B]? = some (.cells #[a, b, x] t (0, 0)) := by
  simp [World.setCell, Array.getElem?_modify, h]
theorem store3 {W : World} {B : Nat} {a b c : Value} {t : TypeId} (h : W.heap[B]? = some (.cells #[a, b, c] t (0, 0))) (x y z : Value) :
    (((W.setCell ⟨B, 0, none⟩ x).setCell ⟨B, 1, none⟩ y).setCell ⟨B, 2, none⟩ z).heap[B]? = some (.cells #[x, y, z] t (0, 0)) ∧
    (∀ k, k ≠ B → (((W.setCell ⟨B, 0, none⟩ x).setCell ⟨B, 1, none⟩ y).setCell ⟨B, 2, none⟩ z).heap[k]? = W.heap[k]?) ∧
    Below B W (((W.setCell ⟨B, 0, none⟩ x).setCell ⟨B, 1, none⟩ y).setCell ⟨B, 2, none⟩ z) :=
  ⟨set32 (set31 (set30 h x) y) z,
   fun k hk => ((Below.heap_setCell _ _ _ _ hk).trans (Below.heap_setCell _ _ _ _ hk)).trans (Below.heap_setCell _ _ _ _ hk),
   ((((Below.refl B W).setCell (p := ⟨B, 0, none⟩) (Nat.le_refl _) x).setCell (p := ⟨B, 1, none⟩) (Nat.le_refl _) y).setCell (p := ⟨B, 2, none⟩) (Nat.le_refl _) z)⟩
theorem mkU_cons2 (n c p c' p' : Nat) (r : List (Nat × Nat)) : mkU n ((c, p) :: (c', p') :: r) = (c, p, (p' : Int) - p) :: mkU n ((c', p') :: r) := rfl
structure LH (s : ByteArray) (Bm B3 It : Nat) (r a z : Int) (pos : Nat) (W : World) : Prop where
  box : W.heap[Bm]? = some (.cells #[.string s] 9 (0, 0))
  u : W.heap[B3]? = some (.cells #[.int .i32 r, .int .i64 a, .int .i64 z] 109 (0, 0))
  it : W.heap[It]? = some (.stringIter s pos)
set_option maxRecDepth 100000 in
set_option maxHeartbeats 1000000 in
theorem units1_in (n : Nat) (l Bm n₀ : Nat) (s : ByteArray) (hs : s.size < 4611686018427387904) (J Jx : List (Nat × Nat × Int) → World → Prop)
    (hY : ∀ pre x W, J pre W → pre ++ [x] <+: units s → YieldAt Fence.wide (n - 1) Tryz.prog l #[encU x] W fun e W' =>
      (e = .returned (.bool true) ∧ J (pre ++ [x]) W' ∧ Kp n₀ W W') ∨ (e = .returned (.bool false) ∧ Jx (pre ++ [x]) W'))
    (W : World) (hn0 : n₀ ≤ Bm) (hJ : ∀ pre A B, J pre A → Below W.heap.size A B → J pre B)
    (hbox : W.heap[Bm]? = some (.cells #[.string s] 9 (0, 0))) (h0 : J [] W) :
    CallsIn Fence.wide n Tryz.prog 111 #[.func (.yield l) #[] #[], .pointer (some ⟨Bm, 0, none⟩)] W fun e W' => (∃ v, e = .returned v) ∧
      (J (units s) W' ∨ ∃ pre, pre <+: units s ∧ Jx pre W') := by
  refine callsIn_of_wp Tryz.func111 rfl trivial ?_ rfl
  simp only [Tryz.ntmps111, List.size_toArray, List.length_cons, List.length_nil, Nat.reduceAdd, Nat.reduceSub, Array.replicate_succ, Array.replicate_zero, List.push_toArray, List.append_toArray, List.nil_append, List.cons_append]
  have hbc := (cell_of1 hbox).1
  have hBlt : Bm < W.heap.size := (Array.getElem?_eq_some_iff.1 hbox).1
  gi_wp2
  gi_loopw [] (fun wr => ∃ (r a z : Int) (pos : Nat) (pre : List (Nat × Nat × Int)) (pend : Option (Nat × Nat)) (k : Nat), LH s Bm W.heap.size (W.heap.size + 1) r a z pos wr ∧ J pre wr ∧
      (pend = none ∧ a = -1 ∧ pos = 0 ∧ pre = [] ∨ ∃ c p, pend = some (c, p) ∧ r = c ∧ a = p ∧ p < s.size) ∧ s.size ≤ pos + k ∧
      units s = pre ++ mkU s.size (pend.toList ++ decs s k pos)) (fun wr => s.size - wr.iterPos (W.heap.size + 1))
  case atStart =>
    refine ⟨0, -1, 0, 0, [], none, s.size, ⟨?_, ?_, ?_⟩, hJ _ _ _ h0 (((Below.refl _ W).alloc (Nat.le_refl _) _).alloc (by simp) _), .inl ⟨rfl, rfl, rfl, rfl⟩, by omega, by simp [units]⟩
    · exact (Below.heap_alloc _ _ _ (by simp; omega)).trans ((Below.heap_alloc _ _ _ (by omega)).trans hbox)
    · exact (Below.heap_alloc _ _ _ (by simp)).trans (World.alloc_heap_new _ _)
    · have := World.iter_heap (W.alloc (.cells #[.int .i32 0, .int .i64 (-1), .int .i64 0] 109)) s 0
      rwa [World.size_alloc] at this
  case round =>
    obtain ⟨r, a, z, pos, pre, pend, k, ⟨hb, hu, hi⟩, hJs, hph, hk, hun⟩ := hrel
    by_cases hp : pos < s.size
    · have hnx := fun ty => Lib.run_next_any_at (P := Tryz.prog) wr (W.heap.size + 1) s pos ty hi hp
      obtain ⟨W2, hW2⟩ : ∃ W2, wr.iterAt (W.heap.size + 1) s (pos + (Utf8.decode s pos).2) = W2 := ⟨_, rfl⟩
      have hb2 : W2.heap[Bm]? = some (.cells #[.string s] 9 (0, 0)) := by rw [← hW2]; exact (Lib.iterAt_other _ _ _ _ _ (by omega)).trans hb
      have hu2 : W2.heap[W.heap.size]? = some (.cells #[.int .i32 r, .int .i64 a, .int .i64 z] 109 (0, 0)) := by rw [← hW2]; exact (Lib.iterAt_other _ _ _ _ _ (by omega)).trans hu
      have hi2 : W2.heap[W.heap.size + 1]? = some (.stringIter s (pos + (Utf8.decode s pos).2)) := by rw [← hW2]; exact Lib.iterAt_heap _ _ _ _ _ hi
      have hB2 : Below W.heap.size wr W2 := by rw [← hW2]; exact Lib.below_iterAt (Below.refl _ wr) (by omega) _ _
      simp only [hW2] at hnx
      clear hW2
      obtain ⟨c0, c1, c2, f0, f1, f2⟩ := cell_of3 hu2
      rcases hph with ⟨rfl, rfl, rfl, rfl⟩ | ⟨c, p, rfl, rfl, rfl, hps⟩
      · gi_wp2
        refine ⟨fun _ h => (by cases h), ?_⟩
        gi_wp2
        go_roundw
        case rel =>
          obtain ⟨s1, s2, s3⟩ := store3 (set32 hu2 (.int .i64 1)) (.int .i32 ↑(Utf8.decode s 0).fst) (.int .i64 0) (.int .i64 0)
          have s4 : Below W.heap.size W2 (W2.setCell ⟨W.heap.size, 2, none⟩ (.int .i64 1)) := (Below.refl _ W2).setCell (p := ⟨W.heap.size, 2, none⟩) (Nat.le_refl _) _
          cases k with
          | zero => omega
          | succ k =>
            refine ⟨_, _, _, 0 + (Utf8.decode s 0).2, [], some ((Utf8.decode s 0).1, 0), k, ⟨?_, s1, ?_⟩, hJ _ _ _ hJs ((hB2.trans s4).trans s3), .inr ⟨_, _, rfl, rfl, rfl, hp⟩, ?_, ?_⟩
            · exact (s2 _ (by omega)).trans ((Below.heap_setCell _ _ _ _ (by show Bm ≠ W.heap.size; omega)).trans hb2)
            · exact (s2 _ (by omega)).trans ((Below.heap_setCell _ _ _ _ (by show W.heap.size + 1 ≠ W.heap.size; omega)).trans hi2)
            · have := width_pos s 0 hp; omega
            · rw [hun]; simp [decs, hp]
        case measure =>
          obtain ⟨s1, s2, s3⟩ := store3 (set32 hu2 (.int .i64 1)) (.int .i32 ↑(Utf8.decode s 0).fst) (.int .i64 0) (.int .i64 0)
          rw [iterPos_of ((s2 _ (by omega)).trans ((Below.heap_setCell _ _ _ _ (by show W.heap.size + 1 ≠ W.heap.size; omega)).trans hi2)), iterPos_of hi]
          have := width_pos s 0 hp; omega
      · have hwr : wrap64 ((pos : Int) - p) = (pos : Int) - p := by unfold wrap64; omega
        have s4 : Below W.heap.size W2 (W2.setCell ⟨W.heap.size, 2, none⟩ (.int .i64 ((pos : Int) - p))) := (Below.refl _ W2).setCell (p := ⟨W.heap.size, 2, none⟩) (Nat.le_refl _) _
        cases k with
        | zero => omega
        | succ k =>
        have hun2 : units s = (pre ++ [(c, p, (pos : Int) - p)]) ++ mkU s.size (((Utf8.decode s pos).1, pos) :: decs s k (pos + (Utf8.decode s pos).2)) := by
          rw [hun]; simp [decs, hp, mkU_cons2]
        obtain ⟨fn, tmps, assign, body, hy, hR⟩ := hY pre (c, p, (pos : Int) - p) (W2.setCell ⟨W.heap.size, 2, none⟩ (.int .i64 ((pos : Int) - p))) (hJ _ _ _ hJs (hB2.trans s4)) ⟨_, hun2.symm⟩
        dsimp only [encU] at hy
        have hu3 := set32 hu2 (.int .i64 ((pos : Int) - p))
        have hb3 : (W2.setCell ⟨W.heap.size, 2, none⟩ (.int .i64 ((pos : Int) - p))).heap[Bm]? = _ := (Below.heap_setCell _ _ _ _ (by show Bm ≠ W.heap.size; omega)).trans hb2
        have hi3 : (W2.setCell ⟨W.heap.size, 2, none⟩ (.int .i64 ((pos : Int) - p))).heap[W.heap.size + 1]? = _ := (Below.heap_setCell _ _ _ _ (by show W.heap.size + 1 ≠ W.heap.size; omega)).trans hi2
        gi_wp2
        refine ⟨fun h => by simp [Fence.wide] at h, hR.mono ?_⟩
        rintro e W4 (⟨rfl, hJ4, hk4⟩ | ⟨rfl, hJx4⟩)
        · have hu4 := hk4.2 _ _ (by omega) hu3 (.inl rfl)
          have hb4 := hk4.2 _ _ (by omega) hb3 (.inl rfl)
          have hi4 := hk4.2 _ _ (by omega) hi3 (.inr rfl)
          obtain ⟨d0, d1, d2, g0, g1, g2⟩ := cell_of3 hu4
          gi_wp2
          go_roundw
          case rel =>
            obtain ⟨s1, s2, s3⟩ := store3 hu4 (.int .i32 ↑(Utf8.decode s pos).fst) (.int .i64 pos) (.int .i64 0)
            refine ⟨_, _, _, pos + (Utf8.decode s pos).2, pre ++ [(c, p, (pos : Int) - p)], some ((Utf8.decode s pos).1, pos), k, ⟨?_, s1, ?_⟩, hJ _ _ _ hJ4 s3, .inr ⟨_, _, rfl, rfl, rfl, hp⟩, ?_, ?_⟩
            · exact (s2 _ (by omega)).trans hb4
            · exact (s2 _ (by omega)).trans hi4
            · have := width_pos s pos hp; omega
            · exact hun2
          case measure =>
            obtain ⟨s1, s2, s3⟩ := store3 hu4 (.int .i32 ↑(Utf8.decode s pos).fst) (.int .i64 pos) (.int .i64 0)
            rw [iterPos_of ((s2 _ (by omega)).trans hi4), iterPos_of hi]
            have := width_pos s pos hp; omega
        · gi_wp2
          refine bodyPost_ret (results_none rfl _ _ _) rfl ?_
          exact ⟨⟨_, rfl⟩, .inr ⟨_, ⟨_, hun2.symm⟩, hJx4⟩⟩
    · have hnx := fun ty => Lib.run_next_end_at (P := Tryz.prog) wr (W.heap.size + 1) s pos ty hi hp
      obtain ⟨c0, c1, c2, f0, f1, f2⟩ := cell_of3 hu
      have hbc := (cell_of1 hb).1
      rcases hph with ⟨rfl, rfl, rfl, rfl⟩ | ⟨c, p, rfl, rfl, rfl, hps⟩
      · gi_wp2
        go_end0
        refine ⟨⟨_, rfl⟩, .inl ?_⟩
        rw [hun, decs_stop hp]
        exact hJ _ _ _ hJs ((Below.refl _ wr).setCell (p := ⟨W.heap.size, 2, none⟩) (Nat.le_refl _) _)
      · have hwr : wrap64 ((s.size : Int) - p) = (s.size : Int) - p := by unfold wrap64; omega
        have hun2 : units s = pre ++ [(c, p, (s.size : Int) - p)] := by rw [hun, decs_stop hp]; rfl
        obtain ⟨fn, tmps, assign, body, hy, hR⟩ := hY pre (c, p, (s.size : Int) - p) (wr.setCell ⟨W.heap.size, 2, none⟩ (.int .i64 ((s.size : Int) - p))) (hJ _ _ _ hJs ((Below.refl _ wr).setCell (p := ⟨W.heap.size, 2, none⟩) (Nat.le_refl _) _)) (by rw [hun2]; exact List.prefix_rfl)
        dsimp only [encU] at hy
        gi_wp2
        refine ⟨fun h => by simp [Fence.wide] at h, hR.mono ?_⟩
        rintro e W4 (⟨rfl, hJ4, hk4⟩ | ⟨rfl, hJx4⟩)
        · gi_wp2
          go_end0
          exact ⟨⟨_, rfl⟩, .inl (by rw [hun2]; exact hJ4)⟩
        · gi_wp2
          go_end0
          exact ⟨⟨_, rfl⟩, .inr ⟨_, by rw [hun2]; exact List.prefix_rfl, hJx4⟩⟩
end Go.Proofs.YtlipmjpapkfaeaaGreatDoor.Orc
end
