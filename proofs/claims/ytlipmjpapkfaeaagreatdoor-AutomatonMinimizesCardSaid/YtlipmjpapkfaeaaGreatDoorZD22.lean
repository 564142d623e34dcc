/- codepoint.At (F69): what it answers. No condition but the string's size and 0 <= i < 2^62.
Merged from 1 texts. -/
import Derived.Test.YtlipmjpapkfaeaaGreatDoorZD21
section
set_option linter.unusedSimpArgs false
set_option linter.unusedVariables false
namespace Go.Proofs.YtlipmjpapkfaeaaGreatDoor.Orc
open Go Go.RowKit Go.Shelf Go.Proofs
attribute [local go_sem] Oper.semAt_some
def atU (s : ByteArray) (i : Nat) : Value :=
  match (units s)[i]? with
  | some u => .tuple #[.int .i32 u.1, .int .i64 u.2.1, .int .i64 u.2.2, .bool true]
  | none => .tuple #[.int .i32 0, .int .i64 0, .int .i64 0, .bool false]
theorem four_set {W : World} {N : Nat} {r0 a0 z0 : Int} {b0 : Bool} (hf : four N W r0 a0 z0 b0) (r a z : Int) (b : Bool) :
    four N ((((W.setCell ⟨N + 1, 0, none⟩ (.int .i32 r)).setCell ⟨N + 2, 0, none⟩ (.int .i64 a)).setCell ⟨N + 3, 0, none⟩ (.int .i64 z)).setCell ⟨N + 4, 0, none⟩ (.bool b)) r a z b ∧
    (∀ j, j ≠ N + 1 → j ≠ N + 2 → j ≠ N + 3 → j ≠ N + 4 → ((((W.setCell ⟨N + 1, 0, none⟩ (.int .i32 r)).setCell ⟨N + 2, 0, none⟩ (.int .i64 a)).setCell ⟨N + 3, 0, none⟩ (.int .i64 z)).setCell ⟨N + 4, 0, none⟩ (.bool b)).heap[j]? = W.heap[j]?) ∧
    Below N W ((((W.setCell ⟨N + 1, 0, none⟩ (.int .i32 r)).setCell ⟨N + 2, 0, none⟩ (.int .i64 a)).setCell ⟨N + 3, 0, none⟩ (.int .i64 z)).setCell ⟨N + 4, 0, none⟩ (.bool b)) := by
  obtain ⟨h1, h2, h3, h4⟩ := hf
  have o := fun (V : World) (i j : Nat) (v : Value) (h : j ≠ i) => Below.heap_setCell V ⟨i, 0, none⟩ v j h
  refine ⟨⟨?_, ?_, ?_, ?_⟩, fun j k1 k2 k3 k4 => (o _ _ _ _ k4).trans ((o _ _ _ _ k3).trans ((o _ _ _ _ k2).trans (o _ _ _ _ k1))), ?_⟩
  · exact (o _ _ _ _ (by omega)).trans ((o _ _ _ _ (by omega)).trans ((o _ _ _ _ (by omega)).trans (set10 h1 _)))
  · exact (o _ _ _ _ (by omega)).trans ((o _ _ _ _ (by omega)).trans (set10 ((o _ _ _ _ (by omega)).trans h2) _))
  · exact (o _ _ _ _ (by omega)).trans (set10 ((o _ _ _ _ (by omega)).trans ((o _ _ _ _ (by omega)).trans h3)) _)
  · exact set10 ((o _ _ _ _ (by omega)).trans ((o _ _ _ _ (by omega)).trans ((o _ _ _ _ (by omega)).trans h4))) _
  · exact ((((Below.refl N W).setCell (p := ⟨N + 1, 0, none⟩) (by simp) _).setCell (p := ⟨N + 2, 0, none⟩) (by simp) _).setCell (p := ⟨N + 3, 0, none⟩) (by simp) _).setCell (p := ⟨N + 4, 0, none⟩) (by simp) _
theorem new_at (W : World) (o : Obj) (k : Nat) (h : k = W.heap.size) : (W.alloc o).heap[k]? = some o := by subst h; exact World.alloc_heap_new W o
theorem six (w : World) (o0 o1 o2 o3 o4 o5 : Obj) :
    ((((((w.alloc o0).alloc o1).alloc o2).alloc o3).alloc o4).alloc o5).heap[w.heap.size]? = some o0 ∧
    ((((((w.alloc o0).alloc o1).alloc o2).alloc o3).alloc o4).alloc o5).heap[w.heap.size + 1]? = some o1 ∧
    ((((((w.alloc o0).alloc o1).alloc o2).alloc o3).alloc o4).alloc o5).heap[w.heap.size + 2]? = some o2 ∧
    ((((((w.alloc o0).alloc o1).alloc o2).alloc o3).alloc o4).alloc o5).heap[w.heap.size + 3]? = some o3 ∧
    ((((((w.alloc o0).alloc o1).alloc o2).alloc o3).alloc o4).alloc o5).heap[w.heap.size + 4]? = some o4 ∧
    ((((((w.alloc o0).alloc o1).alloc o2).alloc o3).alloc o4).alloc o5).heap[w.heap.size + 5]? = some o5 ∧
    ((((((w.alloc o0).alloc o1).alloc o2).alloc o3).alloc o4).alloc o5).heap.size = w.heap.size + 6 ∧
    Below w.heap.size w ((((((w.alloc o0).alloc o1).alloc o2).alloc o3).alloc o4).alloc o5) := by
  refine ⟨?_, ?_, ?_, ?_, ?_, ?_, ?_, ?_⟩
  · exact (Below.heap_alloc _ _ _ (by simp only [World.size_alloc]; omega)).trans ((Below.heap_alloc _ _ _ (by simp only [World.size_alloc]; omega)).trans ((Below.heap_alloc _ _ _ (by simp only [World.size_alloc]; omega)).trans ((Below.heap_alloc _ _ _ (by simp only [World.size_alloc]; omega)).trans ((Below.heap_alloc _ _ _ (by simp only [World.size_alloc]; omega)).trans (new_at _ _ _ (by simp only [World.size_alloc]))))))
  · exact (Below.heap_alloc _ _ _ (by simp only [World.size_alloc]; omega)).trans ((Below.heap_alloc _ _ _ (by simp only [World.size_alloc]; omega)).trans ((Below.heap_alloc _ _ _ (by simp only [World.size_alloc]; omega)).trans ((Below.heap_alloc _ _ _ (by simp only [World.size_alloc]; omega)).trans (new_at _ _ _ (by simp only [World.size_alloc])))))
  · exact (Below.heap_alloc _ _ _ (by simp only [World.size_alloc]; omega)).trans ((Below.heap_alloc _ _ _ (by simp only [World.size_alloc]; omega)).trans ((Below.heap_alloc _ _ _ (by simp only [World.size_alloc]; omega)).trans (new_at _ _ _ (by simp only [World.size_alloc]))))
  · exact (Below.heap_alloc _ _ _ (by simp only [World.size_alloc]; omega)).trans ((Below.heap_alloc _ _ _ (by simp only [World.size_alloc]; omega)).trans (new_at _ _ _ (by simp only [World.size_alloc])))
  · exact (Below.heap_alloc _ _ _ (by simp only [World.size_alloc]; omega)).trans (new_at _ _ _ (by simp only [World.size_alloc]))
  · exact new_at _ _ _ (by simp only [World.size_alloc])
  · simp
  · exact ((((((Below.refl _ w).alloc (Nat.le_refl _) _).alloc (by simp) _).alloc (by simp; omega) _).alloc (by simp; omega) _).alloc (by simp; omega) _).alloc (by simp; omega) _
set_option maxRecDepth 100000 in
set_option maxHeartbeats 4000000 in
theorem at_in (s : ByteArray) (hs : s.size < 4611686018427387904) (i : Nat) (hi : i < 4611686018427387904) (w : World) :
    Calls Tryz.prog 69 #[.string s, .int .i64 i] w fun e w' => e = .returned (atU s i) ∧ Below w.heap.size w w' := by
  refine (callsIn_wide (n := 5)).1 ?_
  refine callsIn_of_wp_marks Tryz.func69 rfl trivial ?_ rfl
  simp only [Tryz.ntmps69, List.size_toArray, List.length_cons, List.length_nil, Nat.reduceAdd, Nat.reduceSub, Array.replicate_succ, Array.replicate_zero, List.push_toArray, List.append_toArray, List.nil_append, List.cons_append]
  gi_wp2_with (refine ⟨trivial, ?_⟩; gi_at_call 72; refine (units_in _ s _).mono ?_; rintro e w' ⟨rfl, rfl⟩)
  obtain ⟨e0, e1, e2, e3, e4, e5, e6, e7⟩ := six w (Obj.cells #[Value.int IntKind.i64 ↑i] 3) (Obj.cells #[Value.int IntKind.i32 0] 21) (Obj.cells #[Value.int IntKind.i64 0] 3) (Obj.cells #[Value.int IntKind.i64 0] 3) (Obj.cells #[Value.bool false] 4) (Obj.cells #[Value.string s] 9)
  obtain ⟨W0, hW0⟩ : ∃ W0, ((((((w.alloc (Obj.cells #[Value.int IntKind.i64 ↑i] 3)).alloc (Obj.cells #[Value.int IntKind.i32 0] 21)).alloc (Obj.cells #[Value.int IntKind.i64 0] 3)).alloc (Obj.cells #[Value.int IntKind.i64 0] 3)).alloc (Obj.cells #[Value.bool false] 4)).alloc (Obj.cells #[Value.string s] 9)) = W0 := ⟨_, rfl⟩
  simp only [hW0] at e0 e1 e2 e3 e4 e5 e6 e7
  simp only [World.size_alloc, hW0]
  simp only [Nat.add_assoc, Nat.reduceAdd]
  clear hW0
  refine wpIn_units (p := 11) (Bm := w.heap.size + 5) (s := s) hs rfl e5
    (fun pre W => W.heap[w.heap.size]? = some (.cells #[.int .i64 ((i : Int) - pre.length)] 3 (0, 0)) ∧ pre.length ≤ i ∧ four w.heap.size W 0 0 0 false ∧ Below w.heap.size w W)
    (fun c pre W => c = .ret ∧ (∃ pre' x, pre = pre' ++ [x] ∧ pre'.length = i ∧ four w.heap.size W x.1 x.2.1 x.2.2 true) ∧ Below w.heap.size w W)
    (fun pre A B h hb => ⟨(hb.block _ (by omega)).trans h.1, h.2.1, h.2.2.1.kept (fun k hk => hb.block _ (by omega)), h.2.2.2.trans (hb.mono (by omega))⟩)
    (fun c pre A B h hb => by obtain ⟨h1, ⟨p', x, h2, h3, h4⟩, h5⟩ := h; exact ⟨h1, ⟨p', x, h2, h3, h4.kept (fun k hk => hb.block _ (by omega))⟩, h5.trans (hb.mono (by omega))⟩)
    ⟨by simpa using e0, by simp, ⟨e1, e2, e3, e4⟩, e7⟩
    (fun Bx x => { tmps := #[.string s, .int .i64 i, undef, .pointer (some ⟨w.heap.size, 0, none⟩), .pointer (some ⟨w.heap.size + 1, 0, none⟩), .pointer (some ⟨w.heap.size + 2, 0, none⟩), .pointer (some ⟨w.heap.size + 3, 0, none⟩), .pointer (some ⟨w.heap.size + 4, 0, none⟩), .pointer (some ⟨Bx, 0, none⟩), .string s, .func (.func 111) #[] #[.pointer (some ⟨w.heap.size + 5, 0, none⟩)], encU x, undef, undef, undef, undef, undef, undef, undef, undef, undef, undef], defers := [] }) ?assign ?body ?done ?stop
  case assign =>
    rintro l ⟨c, p, z⟩ W K hK
    simp only [encU]
    gi_wp2
    exact hK
  case body =>
    rintro l pre ⟨c, p, z⟩ Bx W ⟨hc, hle, hf, hB⟩ hBx hx hpre
    obtain ⟨c0, c1, c2, f0, f1, f2⟩ := cell_of3 hx
    obtain ⟨hcc, hcf⟩ := cell_of1 hc
    obtain ⟨q1, q2, q3, q4⟩ := hf
    obtain ⟨q1c, q1f⟩ := cell_of1 q1
    obtain ⟨q2c, q2f⟩ := cell_of1 q2
    obtain ⟨q3c, q3f⟩ := cell_of1 q3
    obtain ⟨q4c, q4f⟩ := cell_of1 q4
    simp only [encU]
    by_cases hz : pre.length = i
    · have hz' : (i : Int) - pre.length = 0 := by omega
      simp only [hz'] at hcc
      have hf0 : four w.heap.size W 0 0 0 false := ⟨q1, q2, q3, q4⟩
      gi_wp2
      refine reg4_wp (W := W) (N := w.heap.size) (Bx := Bx) (r := c) (a := p) (z := z) (by omega) hx hf0 ⟨rfl, rfl, rfl, rfl, rfl, rfl, rfl, (by intro h; cases h), (by intro h; cases h), (by intro h; cases h), (by intro h; cases h), (by intro h; cases h), (by intro h; cases h), rfl, by omega, rfl, rfl, rfl, rfl⟩ ?_
      intro A'
      obtain ⟨g1, g2⟩ := reg4_cells (W := { W with drawn := W.drawn + 1 }) (N := w.heap.size) (Bx := Bx) (r := c) (a := p) (z := z) (by omega) hx hf0 4 (by omega)
      have g3 := st4_other { W with drawn := W.drawn + 1 } w.heap.size c p z 4
      obtain ⟨V, hV⟩ : ∃ V, st4 { W with drawn := W.drawn + 1 } w.heap.size c p z 4 = V := ⟨_, rfl⟩
      have hBV : Below w.heap.size W V := by
        rw [← hV]
        have h0 : Below w.heap.size W { W with drawn := W.drawn + 1 } := ⟨rfl, rfl, rfl, Nat.le_refl _, fun _ _ => rfl⟩
        exact (((h0.setCell (p := ⟨w.heap.size + 1, 0, none⟩) (by simp) _).setCell (p := ⟨w.heap.size + 2, 0, none⟩) (by simp) _).setCell (p := ⟨w.heap.size + 3, 0, none⟩) (by simp) _).setCell (p := ⟨w.heap.size + 4, 0, none⟩) (by simp) _
      rw [hV] at g1 g2 g3 ⊢
      simp only [Nat.reduceLeDiff, if_true, decide_true] at g1
      gi_wp2
      refine ⟨⟨hBV.size, fun k o hk ho => (g3 k (by omega) (by omega) (by omega) (by omega)).trans ho⟩, rfl, ⟨pre, _, _, _, rfl, hz, g1⟩, hB.trans hBV⟩
    · have hz' : ¬ (i : Int) - pre.length = 0 := by omega
      have hw : wrap64 ((i : Int) - pre.length - 1) = (i : Int) - (pre.length + 1) := by unfold wrap64; omega
      gi_wp2
      refine ⟨⟨by simp [World.setCell], fun k o hk ho => (Below.heap_setCell _ _ _ _ (by show k ≠ w.heap.size; omega)).trans ho⟩, ?_, by simp; omega, ?_, hB.setCell (p := ⟨w.heap.size, 0, none⟩) (Nat.le_refl _) _⟩
      · have he : (((pre ++ [(c, p, z)]).length : Nat) : Int) = pre.length + 1 := by simp
        show _ = some (Obj.cells #[Value.int IntKind.i64 ((i : Int) - ((pre ++ [(c, p, z)]).length : Nat))] 3)
        rw [he, show (i : Int) - (pre.length + 1) = (i : Int) - pre.length - 1 by omega]
        exact set10 hc _
      · have o := fun (j : Nat) (v : Value) (h : j ≠ w.heap.size) => Below.heap_setCell W ⟨w.heap.size, 0, none⟩ v j h
        exact ⟨(o _ _ (by omega)).trans q1, (o _ _ (by omega)).trans q2, (o _ _ (by omega)).trans q3, (o _ _ (by omega)).trans q4⟩
  case done =>
    rintro D W hD ⟨hc, hle, hf, hB⟩ hK
    obtain ⟨q1, q2, q3, q4⟩ := hf
    obtain ⟨q1c, q1f⟩ := cell_of1 q1
    obtain ⟨q2c, q2f⟩ := cell_of1 q2
    obtain ⟨q3c, q3f⟩ := cell_of1 q3
    obtain ⟨q4c, q4f⟩ := cell_of1 q4
    obtain ⟨⟨s1, s2, s3, s4⟩, s5, s6⟩ := four_set (W := W) (N := w.heap.size) ⟨q1, q2, q3, q4⟩ 0 0 0 false
    gi_wp2
    try simp at hD
    have hK' := (s5 D (by omega) (by omega) (by omega) (by omega)).trans hK
    obtain ⟨V, hV⟩ : ∃ V, ((((W.setCell ⟨w.heap.size + 1, 0, none⟩ (.int .i32 0)).setCell ⟨w.heap.size + 2, 0, none⟩ (.int .i64 0)).setCell ⟨w.heap.size + 3, 0, none⟩ (.int .i64 0)).setCell ⟨w.heap.size + 4, 0, none⟩ (.bool false)) = V := ⟨_, rfl⟩
    rw [hV] at s1 s2 s3 s4 s6 hK' ⊢
    refine ⟨by simp, .inl ⟨_, _, rfl, run_takeDeferred hK', ?_⟩⟩
    have o := fun (j : Nat) (h : j ≠ D) => World.putObj_heap_other (w := V) (r := D) (k := j) (o := .deferred none) h
    have c1 := (cell_of1 ((o _ (by omega)).trans s1)).1
    have c2 := (cell_of1 ((o _ (by omega)).trans s2)).1
    have c3 := (cell_of1 ((o _ (by omega)).trans s3)).1
    have c4 := (cell_of1 ((o _ (by omega)).trans s4)).1
    refine ⟨atU s i, ?_, rfl, (hB.trans s6).trans (below_putObj _ _ (by omega))⟩
    have hget : (units s)[i]? = none := List.getElem?_eq_none hle
    simp [results, Tryz.f69, go_sem, c1, c2, c3, c4, atU, hget]
  case stop =>
    rintro D c pre W hD hpre ⟨rfl, ⟨pre', x, rfl, hl, hf⟩, hB⟩ hK
    obtain ⟨q1, q2, q3, q4⟩ := hf
    try simp at hD
    gi_wp2
    refine ⟨by simp, .inl ⟨_, _, rfl, run_takeDeferred hK, ?_⟩⟩
    have o := fun (j : Nat) (h : j ≠ D) => World.putObj_heap_other (w := W) (r := D) (k := j) (o := .deferred none) h
    have c1 := (cell_of1 ((o _ (by omega)).trans q1)).1
    have c2 := (cell_of1 ((o _ (by omega)).trans q2)).1
    have c3 := (cell_of1 ((o _ (by omega)).trans q3)).1
    have c4 := (cell_of1 ((o _ (by omega)).trans q4)).1
    refine ⟨atU s i, ?_, rfl, hB.trans (below_putObj _ _ (by omega))⟩
    have hget : (units s)[i]? = some x := by
      obtain ⟨r, hr⟩ := hpre
      rw [← hr, ← hl]; simp
    simp [results, Tryz.f69, go_sem, c1, c2, c3, c4, atU, hget]
end Go.Proofs.YtlipmjpapkfaeaaGreatDoor.Orc
end
