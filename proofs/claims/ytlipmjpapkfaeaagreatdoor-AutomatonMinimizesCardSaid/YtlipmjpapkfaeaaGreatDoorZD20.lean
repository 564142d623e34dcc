/- codepoint.Valid (F40): what it answers, at every string of at most 2^62 bytes.
Merged from 1 texts. -/
import Derived.Test.YtlipmjpapkfaeaaGreatDoorZD19
section
set_option linter.unusedSimpArgs false
set_option linter.unusedVariables false
namespace Go.Proofs.YtlipmjpapkfaeaaGreatDoor.Orc
open Go Go.RowKit Go.Shelf Go.Proofs
attribute [local go_sem] Oper.semAt_some
theorem set10 {W : World} {B : Nat} {a : Value} {t : TypeId} (h : W.heap[B]? = some (.cells #[a] t (0, 0))) (x : Value) : (W.setCell ⟨B, 0, none⟩ x).heap[B]? = some (.cells #[x] t (0, 0)) := by
  simp [World.setCell, Array.getElem?_modify, h]
def okU (u : Nat × Nat × Int) : Bool := !decide (u.1 = 65533) || decide (u.2.2 = 3)
def validB (s : ByteArray) : Bool := (units s).all okU
set_option maxRecDepth 100000 in
theorem units_in (n : Nat) (s : ByteArray) (w : World) :
    CallsIn Fence.wide n Tryz.prog 72 #[.string s] w fun e w' => e = .returned (.func (.func 111) #[] #[.pointer (some ⟨w.heap.size, 0, none⟩)]) ∧ w' = w.alloc (.cells #[.string s] 9) := by
  refine callsIn_of_wp Tryz.func72 rfl trivial ?_ rfl
  simp only [Tryz.ntmps72, List.size_toArray, List.length_cons, List.length_nil, Nat.reduceAdd, Nat.reduceSub, Array.replicate_succ, Array.replicate_zero, List.push_toArray, List.append_toArray, List.nil_append, List.cons_append]
  gi_wp2
  go_ret
  exact ⟨rfl, rfl⟩
set_option maxRecDepth 100000 in
theorem unitValid_in (n : Nat) (u : Nat × Nat × Int) (w : World) :
    CallsIn Fence.wide n Tryz.prog 73 #[encU u] w fun e w' => e = .returned (.bool (okU u)) ∧ w' = w.alloc (cellsU u) := by
  obtain ⟨c, p, z⟩ := u
  refine callsIn_of_wp Tryz.func73 rfl trivial ?_ rfl
  simp only [Tryz.ntmps73, encU, List.size_toArray, List.length_cons, List.length_nil, Nat.reduceAdd, Nat.reduceSub, Array.replicate_succ, Array.replicate_zero, List.push_toArray, List.append_toArray, List.nil_append, List.cons_append]
  by_cases h1 : c = 65533
  · by_cases h2 : z = 3
    · subst h1 h2
      gi_wp2
      go_ret
      exact ⟨rfl, rfl⟩
    · subst h1
      gi_wp2
      go_ret
      refine ⟨?_, rfl⟩
      simp [okU, h2]
  · have h1' : ¬ ((c : Int) = 65533) := by omega
    gi_wp2
    go_ret
    refine ⟨?_, rfl⟩
    simp [okU, h1]
set_option maxRecDepth 100000 in
set_option maxHeartbeats 1000000 in
theorem valid_in (s : ByteArray) (hs : s.size < 4611686018427387904) (w : World) :
    Calls Tryz.prog 40 #[.string s] w fun e w' => e = .returned (.bool (validB s)) ∧ Below w.heap.size w w' := by
  refine (callsIn_wide (n := 5)).1 ?_
  refine callsIn_of_wp_marks Tryz.func40 rfl trivial ?_ rfl
  simp only [Tryz.ntmps40, List.size_toArray, List.length_cons, List.length_nil, Nat.reduceAdd, Nat.reduceSub, Array.replicate_succ, Array.replicate_zero, List.push_toArray, List.append_toArray, List.nil_append, List.cons_append]
  gi_wp2_with (refine ⟨trivial, ?_⟩; gi_at_call 72; refine (units_in _ s _).mono ?_; rintro e w' ⟨rfl, rfl⟩)
  have hbx : ((w.alloc (Obj.cells #[Value.bool false] 4)).alloc (Obj.cells #[Value.string s] 9)).heap[w.heap.size + 1]? = some (.cells #[.string s] 9 (0, 0)) := by
    have := World.alloc_heap_new (w.alloc (Obj.cells #[Value.bool false] 4)) (Obj.cells #[Value.string s] 9)
    rwa [World.size_alloc] at this
  have hB0 : Below w.heap.size w ((w.alloc (Obj.cells #[Value.bool false] 4)).alloc (Obj.cells #[Value.string s] 9)) := ((Below.refl _ w).alloc (Nat.le_refl _) _).alloc (by simp) _
  have hc0 : ((w.alloc (Obj.cells #[Value.bool false] 4)).alloc (Obj.cells #[Value.string s] 9)).heap[w.heap.size]? = some (.cells #[.bool false] 4 (0, 0)) :=
    (Below.heap_alloc _ _ _ (by simp)).trans (World.alloc_heap_new w _)
  refine wpIn_units (p := 6) (Bm := w.heap.size + 1) (s := s) hs rfl hbx
    (fun pre W => W.heap[w.heap.size]? = some (.cells #[.bool false] 4 (0, 0)) ∧ pre.all okU = true ∧ Below w.heap.size w W)
    (fun c pre W => c = .ret ∧ W.heap[w.heap.size]? = some (.cells #[.bool false] 4 (0, 0)) ∧ pre.all okU = false ∧ Below w.heap.size w W)
    (fun pre A B h hb => ⟨(hb.block _ (by simp; omega)).trans h.1, h.2.1, h.2.2.trans (hb.mono (by simp; omega))⟩)
    (fun c pre A B h hb => ⟨h.1, (hb.block _ (by simp; omega)).trans h.2.1, h.2.2.1, h.2.2.2.trans (hb.mono (by simp; omega))⟩)
    ⟨hc0, rfl, hB0⟩
    (fun Bx x => { tmps := #[.string s, undef, .pointer (some ⟨w.heap.size, 0, none⟩), .pointer (some ⟨Bx, 0, none⟩), .string s, .func (.func 111) #[] #[.pointer (some ⟨w.heap.size + 1, 0, none⟩)], encU x, undef, undef, undef], defers := [] }) ?assign ?body ?done ?stop
  case assign =>
    rintro l ⟨c, p, z⟩ W K hK
    simp only [encU]
    gi_wp2
    exact hK
  case body =>
    rintro l pre x Bx W ⟨hc, hall, hB⟩ hBx hx hpre
    obtain ⟨c, p, z⟩ := x
    obtain ⟨c0, c1, c2, f0, f1, f2⟩ := cell_of3 hx
    have hcc := cell_of1 hc
    obtain ⟨hcc, hcf⟩ := hcc
    simp only [encU]
    by_cases hok : okU (c, p, z) = true
    · gi_wp2_with (refine ⟨trivial, ?_⟩; gi_at_call 73; refine (CallsIn.inRound l (unitValid_in _ (c, p, z) _)).mono ?_; rintro e w' ⟨rfl, rfl⟩)
      exact ⟨⟨by simp, fun k o hk ho => (Below.heap_alloc _ _ _ (Array.getElem?_eq_some_iff.1 ho).1).trans ho⟩, (Below.heap_alloc _ _ _ (Array.getElem?_eq_some_iff.1 hc).1).trans hc, by simp [hall, hok], hB.alloc hB.size _⟩
    · have hok' : okU (c, p, z) = false := by simpa using hok
      have hcA : (W.alloc (cellsU (c, p, z))).heap[w.heap.size]? = some (.cells #[.bool false] 4 (0, 0)) := (Below.heap_alloc _ _ _ (Array.getElem?_eq_some_iff.1 hc).1).trans hc
      obtain ⟨hA, hAf⟩ := cell_of1 hcA
      gi_wp2_with (refine ⟨trivial, ?_⟩; gi_at_call 73; refine (CallsIn.inRound l (unitValid_in _ (c, p, z) _)).mono ?_; rintro e w' ⟨rfl, rfl⟩)
      refine ⟨⟨by simp [World.setCell], fun k o hk ho => ?_⟩, rfl, set10 hcA _, by simp [hall, hok'], (hB.alloc hB.size _).setCell (p := ⟨w.heap.size, 0, none⟩) (Nat.le_refl _) _⟩
      exact (Below.heap_setCell _ _ _ _ (by show k ≠ w.heap.size; omega)).trans ((Below.heap_alloc _ _ _ (Array.getElem?_eq_some_iff.1 ho).1).trans ho)
  case done =>
    rintro D W hD ⟨hc, hall, hB⟩ hK
    obtain ⟨hcc, hcf⟩ := cell_of1 hc
    gi_wp2
    simp at hD
    have hK' : (W.setCell { block := w.heap.size, off := 0 } (Value.bool true)).heap[D]? = some (.deferred (some [])) := (Below.heap_setCell _ _ _ _ (by show D ≠ w.heap.size; omega)).trans hK
    refine ⟨by simp, .inl ⟨_, _, rfl, run_takeDeferred hK', ?_⟩⟩
    have hc5 := (cell_of1 ((World.putObj_heap_other (w := W.setCell { block := w.heap.size, off := 0 } (Value.bool true)) (r := D) (k := w.heap.size) (o := .deferred none) (by omega)).trans (set10 hc _))).1
    refine ⟨.bool true, ?_, by rw [validB, hall], (hB.setCell (p := ⟨w.heap.size, 0, none⟩) (Nat.le_refl _) _).trans (below_putObj _ _ (by omega))⟩
    simp [results, Tryz.f40, go_sem, hc5]
  case stop =>
    rintro D c pre W hD hpre ⟨rfl, hc, hall, hB⟩ hK
    obtain ⟨hcc, hcf⟩ := cell_of1 hc
    gi_wp2
    simp at hD
    refine ⟨by simp, .inl ⟨_, _, rfl, run_takeDeferred hK, ?_⟩⟩
    have hc5 := (cell_of1 ((World.putObj_heap_other (w := W) (r := D) (k := w.heap.size) (o := .deferred none) (by omega)).trans hc)).1
    refine ⟨.bool false, ?_, ?_, hB.trans (below_putObj _ _ (by omega))⟩
    · simp [results, Tryz.f40, go_sem, hc5]
    · obtain ⟨r, hr⟩ := hpre
      rw [validB, ← hr, List.all_append, hall]; rfl
end Go.Proofs.YtlipmjpapkfaeaaGreatDoor.Orc
end
