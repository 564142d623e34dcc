/- codepoint.At (F69): what it answers. No condition but the string's size and 0 <= i < 2^62.
Merged from 5 texts. -/
import Derived.Test.YtlipmjpapkfaeaaGreatDoorZC12
import Derived.Shelf.Strings.Runes
import Derived.Test.YtlipmjpapkfaeaaGreatDoorProg
import Derived.Test.YtlipmjpapkfaeaaGreatDoorChecked
import Derived.KernelRfl
import Derived.Test.YtlipmjpapkfaeaaGreatDoorZC11
section
set_option linter.unusedSimpArgs false
set_option linter.unusedVariables false
namespace Go.Proofs.YtlipmjpapkfaeaaGreatDoor.Orc
open Go Go.RowKit Go.Shelf Go.Proofs
attribute [local go_sem] Oper.semAt_some

def atU (s : ByteArray) (i : Nat) : Value :=
  match (units s)[i]? with
  | some u => .tuple #[.int .i32 u.1, .int .i64 u.2.1, .int .i64 u.2.2, .bool true]
  | none => .tuple #[.int .i32 0, .int .i64 0, .int .i64 0, .bool false]

theorem four_set {W : World} {N : Nat} {r0 a0 z0 : Int} {b0 : Bool} (hf : four N W r0 a0 z0 b0) (r a z : Int) (b : Bool) :
    four N ((((W.setCell ⟨N + 1, 0, none⟩ (.int .i32 r)).setCell ⟨N + 2, 0, none⟩ (.int .i64 a)).setCell ⟨N + 3, 0, none⟩ (.int .i64 z)).setCell ⟨N + 4, 0, none⟩ (.bool b)) r a z b ∧
    (∀ j, j ≠ N + 1 → j ≠ N + 2 → j ≠ N + 3 → j ≠ N + 4 → ((((W.setCell ⟨N + 1, 0, none⟩ (.int .i32 r)).setCell ⟨N + 2, 0, none⟩ (.int .i64 a)).setCell ⟨N + 3, 0, none⟩ (.int .i64 z)).setCell ⟨N + 4, 0, none⟩ (.bool b)).heap[j]? = W.heap[j]?) ∧
    Below N W ((((W.setCell ⟨N + 1, 0, none⟩ (.int .i32 r)).setCell ⟨N + 2, 0, none⟩ (.int .i64 a)).setCell ⟨N + 3, 0, none⟩ (.int .i64 z)).setCell ⟨N + 4, 0, none⟩ (.bool b)) := by
  obtain ⟨h1, h2, h3, h4⟩ := hf
  have o := fun (V : World) (i j : Nat) (v : Value) (h : j ≠ i) => Below.heap_setCell V ⟨i, 0, none⟩ v j h
  refine ⟨⟨?_, ?_, ?_, ?_⟩, fun j k1 k2 k3 k4 => (o _ _ _ _ k4).trans ((o _ _ _ _ k3).trans ((o _ _ _ _ k2).trans (o _ _ _ _ k1))), ?_⟩
  · exact (o _ _ _ _ (by omega)).trans ((o _ _ _ _ (by omega)).trans ((o _ _ _ _ (by omega)).trans (set10 h1 _)))
  · exact (o _ _ _ _ (by omega)).trans ((o _ _ _ _ (by omega)).trans (set10 ((o _ _ _ _ (by omega)).trans h2) _))
  · exact (o _ _ _ _ (by omega)).trans (set10 ((o _ _ _ _ (by omega)).trans ((o _ _ _ _ (by omega)).trans h3)) _)
  · exact set10 ((o _ _ _ _ (by omega)).trans ((o _ _ _ _ (by omega)).trans ((o _ _ _ _ (by omega)).trans h4))) _
  · exact ((((Below.refl N W).setCell (p := ⟨N + 1, 0, none⟩) (by simp) _).setCell (p := ⟨N + 2, 0, none⟩) (by simp) _).setCell (p := ⟨N + 3, 0, none⟩) (by simp) _).setCell (p := ⟨N + 4, 0, none⟩) (by simp) _

theorem new_at (W : World) (o : Obj) (k : Nat) (h : k = W.heap.size) : (W.alloc o).heap[k]? = some o := by subst h; exact World.alloc_heap_new W o

theorem six (w : World) (o0 o1 o2 o3 o4 o5 : Obj) :
    ((((((w.alloc o0).alloc o1).alloc o2).alloc o3).alloc o4).alloc o5).heap[w.heap.size]? = some o0 ∧
    ((((((w.alloc o0).alloc o1).alloc o2).alloc o3).alloc o4).alloc o5).heap[w.heap.size + 1]? = some o1 ∧
    ((((((w.alloc o0).alloc o1).alloc o2).alloc o3).alloc o4).alloc o5).heap[w.heap.size + 2]? = some o2 ∧
    ((((((w.alloc o0).alloc o1).alloc o2).alloc o3).alloc o4).alloc o5).heap[w.heap.size + 3]? = some o3 ∧
    ((((((w.alloc o0).alloc o1).alloc o2).alloc o3).alloc o4).alloc o5).heap[w.heap.size + 4]? = some o4 ∧
    ((((((w.alloc o0).alloc o1).alloc o2).alloc o3).alloc o4).alloc o5).heap[w.heap.size + 5]? = some o5 ∧
    ((((((w.alloc o0).alloc o1).alloc o2).alloc o3).alloc o4).alloc o5).heap.size = w.heap.size + 6 ∧
    Below w.heap.size w ((((((w.alloc o0).alloc o1).alloc o2).alloc o3).alloc o4).alloc o5) := by
  refine ⟨?_, ?_, ?_, ?_, ?_, ?_, ?_, ?_⟩
  · exact (Below.heap_alloc _ _ _ (by simp only [World.size_alloc]; omega)).trans ((Below.heap_alloc _ _ _ (by simp only [World.size_alloc]; omega)).trans ((Below.heap_alloc _ _ _ (by simp only [World.size_alloc]; omega)).trans ((Below.heap_alloc _ _ _ (by simp only [World.size_alloc]; omega)).trans ((Below.heap_alloc _ _ _ (by simp only [World.size_alloc]; omega)).trans (new_at _ _ _ (by simp only [World.size_alloc]))))))
  · exact (Below.heap_alloc _ _ _ (by simp only [World.size_alloc]; omega)).trans ((Below.heap_alloc _ _ _ (by simp only [World.size_alloc]; omega)).trans ((Below.heap_alloc _ _ _ (by simp only [World.size_alloc]; omega)).trans ((Below.heap_alloc _ _ _ (by simp only [World.size_alloc]; omega)).trans (new_at _ _ _ (by simp only [World.size_alloc])))))
  · exact (Below.heap_alloc _ _ _ (by simp only [World.size_alloc]; omega)).trans ((Below.heap_alloc _ _ _ (by simp only [World.size_alloc]; omega)).trans ((Below.heap_alloc _ _ _ (by simp only [World.size_alloc]; omega)).trans (new_at _ _ _ (by simp only [World.size_alloc]))))
  · exact (Below.heap_alloc _ _ _ (by simp only [World.size_alloc]; omega)).trans ((Below.heap_alloc _ _ _ (by simp only [World.size_alloc]; omega)).trans (new_at _ _ _ (by simp only [World.size_alloc])))
  · exact (Below.heap_alloc _ _ _ (by simp only [World.size_alloc]; omega)).trans (new_at _ _ _ (by simp only [World.size_alloc]))
  · exact new_at _ _ _ (by simp only [World.size_alloc])
  · simp
  · exact ((((((Below.refl _ w).alloc (Nat.le_refl _) _).alloc (by simp) _).alloc (by simp; omega) _).alloc (by simp; omega) _).alloc (by simp; omega) _).alloc (by simp; omega) _

set_option maxRecDepth 100000 in
set_option maxHeartbeats 4000000 in
theorem at_in (s : ByteArray) (hs : s.size < 4611686018427387904) (i : Nat) (hi : i < 4611686018427387904) (w : World) :
    Calls Tryz.prog 69 #[.string s, .int .i64 i] w fun e w' => e = .returned (atU s i) ∧ Below w.heap.size w w' := by
  refine (callsIn_wide (n := 5)).1 ?_
  refine callsIn_of_wp_marks Tryz.func69 rfl trivial ?_ rfl
  simp only [Tryz.ntmps69, List.size_toArray, List.length_cons, List.length_nil, Nat.reduceAdd, Nat.reduceSub, Array.replicate_succ, Array.replicate_zero, List.push_toArray, List.append_toArray, List.nil_append, List.cons_append]
  gi_wp2_with (refine ⟨trivial, ?_⟩; gi_at_call 72; refine (units_in _ s _).mono ?_; rintro e w' ⟨rfl, rfl⟩)
  obtain ⟨e0, e1, e2, e3, e4, e5, e6, e7⟩ := six w (Obj.cells #[Value.int IntKind.i64 ↑i] 3) (Obj.cells #[Value.int IntKind.i32 0] 21) (Obj.cells #[Value.int IntKind.i64 0] 3) (Obj.cells #[Value.int IntKind.i64 0] 3) (Obj.cells #[Value.bool false] 4) (Obj.cells #[Value.string s] 9)
  obtain ⟨W0, hW0⟩ : ∃ W0, ((((((w.alloc (Obj.cells #[Value.int IntKind.i64 ↑i] 3)).alloc (Obj.cells #[Value.int IntKind.i32 0] 21)).alloc (Obj.cells #[Value.int IntKind.i64 0] 3)).alloc (Obj.cells #[Value.int IntKind.i64 0] 3)).alloc (Obj.cells #[Value.bool false] 4)).alloc (Obj.cells #[Value.string s] 9)) = W0 := ⟨_, rfl⟩
  simp only [hW0] at e0 e1 e2 e3 e4 e5 e6 e7
  simp only [World.size_alloc, hW0]
  simp only [Nat.add_assoc, Nat.reduceAdd]
  clear hW0
  refine wpIn_units (p := 11) (Bm := w.heap.size + 5) (s := s) hs rfl e5
    (fun pre W => W.heap[w.heap.size]? = some (.cells #[.int .i64 ((i : Int) - pre.length)] 3 (0, 0)) ∧ pre.length ≤ i ∧ four w.heap.size W 0 0 0 false ∧ Below w.heap.size w W)
    (fun c pre W => c = .ret ∧ (∃ pre' x, pre = pre' ++ [x] ∧ pre'.length = i ∧ four w.heap.size W x.1 x.2.1 x.2.2 true) ∧ Below w.heap.size w W)
    (fun pre A B h hb => ⟨(hb.block _ (by omega)).trans h.1, h.2.1, h.2.2.1.kept (fun k hk => hb.block _ (by omega)), h.2.2.2.trans (hb.mono (by omega))⟩)
    (fun c pre A B h hb => by obtain ⟨h1, ⟨p', x, h2, h3, h4⟩, h5⟩ := h; exact ⟨h1, ⟨p', x, h2, h3, h4.kept (fun k hk => hb.block _ (by omega))⟩, h5.trans (hb.mono (by omega))⟩)
    ⟨by simpa using e0, by simp, ⟨e1, e2, e3, e4⟩, e7⟩
    (fun Bx x => { tmps := #[.string s, .int .i64 i, undef, .pointer (some ⟨w.heap.size, 0, none⟩), .pointer (some ⟨w.heap.size + 1, 0, none⟩), .pointer (some ⟨w.heap.size + 2, 0, none⟩), .pointer (some ⟨w.heap.size + 3, 0, none⟩), .pointer (some ⟨w.heap.size + 4, 0, none⟩), .pointer (some ⟨Bx, 0, none⟩), .string s, .func (.func 111) #[] #[.pointer (some ⟨w.heap.size + 5, 0, none⟩)], encU x, undef, undef, undef, undef, undef, undef, undef, undef, undef, undef], defers := [] }) ?assign ?body ?done ?stop
  case assign =>
    rintro l ⟨c, p, z⟩ W K hK
    simp only [encU]
    gi_wp2
    exact hK
  case body =>
    rintro l pre ⟨c, p, z⟩ Bx W ⟨hc, hle, hf, hB⟩ hBx hx hpre
    obtain ⟨c0, c1, c2, f0, f1, f2⟩ := cell_of3 hx
    obtain ⟨hcc, hcf⟩ := cell_of1 hc
    obtain ⟨q1, q2, q3, q4⟩ := hf
    obtain ⟨q1c, q1f⟩ := cell_of1 q1
    obtain ⟨q2c, q2f⟩ := cell_of1 q2
    obtain ⟨q3c, q3f⟩ := cell_of1 q3
    obtain ⟨q4c, q4f⟩ := cell_of1 q4
    simp only [encU]
    by_cases hz : pre.length = i
    · have hz' : (i : Int) - pre.length = 0 := by omega
      simp only [hz'] at hcc
      have hf0 : four w.heap.size W 0 0 0 false := ⟨q1, q2, q3, q4⟩
      gi_wp2
      refine reg4_wp (W := W) (N := w.heap.size) (Bx := Bx) (r := c) (a := p) (z := z) (by omega) hx hf0 ⟨rfl, rfl, rfl, rfl, rfl, rfl, rfl, (by intro h; cases h), (by intro h; cases h), (by intro h; cases h), (by intro h; cases h), (by intro h; cases h), (by intro h; cases h), rfl, by omega, rfl, rfl, rfl, rfl⟩ ?_
      intro A'
      obtain ⟨g1, g2⟩ := reg4_cells (W := { W with drawn := W.drawn + 1 }) (N := w.heap.size) (Bx := Bx) (r := c) (a := p) (z := z) (by omega) hx hf0 4 (by omega)
      have g3 := st4_other { W with drawn := W.drawn + 1 } w.heap.size c p z 4
      obtain ⟨V, hV⟩ : ∃ V, st4 { W with drawn := W.drawn + 1 } w.heap.size c p z 4 = V := ⟨_, rfl⟩
      have hBV : Below w.heap.size W V := by
        rw [← hV]
        have h0 : Below w.heap.size W { W with drawn := W.drawn + 1 } := ⟨rfl, rfl, rfl, Nat.le_refl _, fun _ _ => rfl⟩
        exact (((h0.setCell (p := ⟨w.heap.size + 1, 0, none⟩) (by simp) _).setCell (p := ⟨w.heap.size + 2, 0, none⟩) (by simp) _).setCell (p := ⟨w.heap.size + 3, 0, none⟩) (by simp) _).setCell (p := ⟨w.heap.size + 4, 0, none⟩) (by simp) _
      rw [hV] at g1 g2 g3 ⊢
      simp only [Nat.reduceLeDiff, if_true, decide_true] at g1
      gi_wp2
      refine ⟨⟨hBV.size, fun k o hk ho => (g3 k (by omega) (by omega) (by omega) (by omega)).trans ho⟩, rfl, ⟨pre, _, _, _, rfl, hz, g1⟩, hB.trans hBV⟩
    · have hz' : ¬ (i : Int) - pre.length = 0 := by omega
      have hw : wrap64 ((i : Int) - pre.length - 1) = (i : Int) - (pre.length + 1) := by unfold wrap64; omega
      gi_wp2
      refine ⟨⟨by simp [World.setCell], fun k o hk ho => (Below.heap_setCell _ _ _ _ (by show k ≠ w.heap.size; omega)).trans ho⟩, ?_, by simp; omega, ?_, hB.setCell (p := ⟨w.heap.size, 0, none⟩) (Nat.le_refl _) _⟩
      · have he : (((pre ++ [(c, p, z)]).length : Nat) : Int) = pre.length + 1 := by simp
        show _ = some (Obj.cells #[Value.int IntKind.i64 ((i : Int) - ((pre ++ [(c, p, z)]).length : Nat))] 3)
        rw [he, show (i : Int) - (pre.length + 1) = (i : Int) - pre.length - 1 by omega]
        exact set10 hc _
      · have o := fun (j : Nat) (v : Value) (h : j ≠ w.heap.size) => Below.heap_setCell W ⟨w.heap.size, 0, none⟩ v j h
        exact ⟨(o _ _ (by omega)).trans q1, (o _ _ (by omega)).trans q2, (o _ _ (by omega)).trans q3, (o _ _ (by omega)).trans q4⟩
  case done =>
    rintro D W hD ⟨hc, hle, hf, hB⟩ hK
    obtain ⟨q1, q2, q3, q4⟩ := hf
    obtain ⟨q1c, q1f⟩ := cell_of1 q1
    obtain ⟨q2c, q2f⟩ := cell_of1 q2
    obtain ⟨q3c, q3f⟩ := cell_of1 q3
    obtain ⟨q4c, q4f⟩ := cell_of1 q4
    obtain ⟨⟨s1, s2, s3, s4⟩, s5, s6⟩ := four_set (W := W) (N := w.heap.size) ⟨q1, q2, q3, q4⟩ 0 0 0 false
    gi_wp2
    try simp at hD
    have hK' := (s5 D (by omega) (by omega) (by omega) (by omega)).trans hK
    obtain ⟨V, hV⟩ : ∃ V, ((((W.setCell ⟨w.heap.size + 1, 0, none⟩ (.int .i32 0)).setCell ⟨w.heap.size + 2, 0, none⟩ (.int .i64 0)).setCell ⟨w.heap.size + 3, 0, none⟩ (.int .i64 0)).setCell ⟨w.heap.size + 4, 0, none⟩ (.bool false)) = V := ⟨_, rfl⟩
    rw [hV] at s1 s2 s3 s4 s6 hK' ⊢
    refine ⟨by simp, .inl ⟨_, _, rfl, run_takeDeferred hK', ?_⟩⟩
    have o := fun (j : Nat) (h : j ≠ D) => World.putObj_heap_other (w := V) (r := D) (k := j) (o := .deferred none) h
    have c1 := (cell_of1 ((o _ (by omega)).trans s1)).1
    have c2 := (cell_of1 ((o _ (by omega)).trans s2)).1
    have c3 := (cell_of1 ((o _ (by omega)).trans s3)).1
    have c4 := (cell_of1 ((o _ (by omega)).trans s4)).1
    refine ⟨atU s i, ?_, rfl, (hB.trans s6).trans (below_putObj _ _ (by omega))⟩
    have hget : (units s)[i]? = none := List.getElem?_eq_none hle
    simp [results, Tryz.f69, go_sem, c1, c2, c3, c4, atU, hget]
  case stop =>
    rintro D c pre W hD hpre ⟨rfl, ⟨pre', x, rfl, hl, hf⟩, hB⟩ hK
    obtain ⟨q1, q2, q3, q4⟩ := hf
    try simp at hD
    gi_wp2
    refine ⟨by simp, .inl ⟨_, _, rfl, run_takeDeferred hK, ?_⟩⟩
    have o := fun (j : Nat) (h : j ≠ D) => World.putObj_heap_other (w := W) (r := D) (k := j) (o := .deferred none) h
    have c1 := (cell_of1 ((o _ (by omega)).trans q1)).1
    have c2 := (cell_of1 ((o _ (by omega)).trans q2)).1
    have c3 := (cell_of1 ((o _ (by omega)).trans q3)).1
    have c4 := (cell_of1 ((o _ (by omega)).trans q4)).1
    refine ⟨atU s i, ?_, rfl, hB.trans (below_putObj _ _ (by omega))⟩
    have hget : (units s)[i]? = some x := by
      obtain ⟨r, hr⟩ := hpre
      rw [← hr, ← hl]; simp
    simp [results, Tryz.f69, go_sem, c1, c2, c3, c4, atU, hget]

end Go.Proofs.YtlipmjpapkfaeaaGreatDoor.Orc
end
section
set_option linter.unusedSimpArgs false
namespace Go.Proofs.YtlipmjpapkfaeaaGreatDoor.Orc
open Go Go.RowKit Go.Shelf Go.Proofs

def ren : Ren where
  f := fun k => match k with
    | 119 => 162
    | 137 => 161
    | 151 => 149
    | 152 => 156
    | 217 => 166
    | 224 => 163
    | 225 => 164
    | 266 => 175
    | _ => 0
  t := fun k => match k with
    | 0 => 0
    | 3 => 3
    | 4 => 4
    | 5 => 5
    | 9 => 9
    | 21 => 21
    | 46 => 163
    | _ => 0
  g := fun k => k

theorem lays151 : Lays.n151 Tryz.prog ren where
  mixed := Tryz.checked.mixed
  f119 := by kernel_rfl
  f137 := by kernel_rfl
  f151 := by kernel_rfl
  f152 := by kernel_rfl
  f217 := by kernel_rfl
  f224 := by kernel_rfl
  f225 := by kernel_rfl
  f266 := by kernel_rfl
  t0 := Tryz.underlying0
  a0 := fun w => by simp [ren, isAgg, go_sem]
  z0 := fun w => Tryz.sizeOf0 w
  v0 := fun w => Tryz.zeroValue0 w
  t3 := Tryz.underlying3
  a3 := fun w => by simp [ren, isAgg, go_sem]
  z3 := fun w => Tryz.sizeOf3 w
  v3 := fun w => Tryz.zeroValue3 w
  t4 := Tryz.underlying4
  a4 := fun w => by simp [ren, isAgg, go_sem]
  z4 := fun w => Tryz.sizeOf4 w
  v4 := fun w => Tryz.zeroValue4 w
  t5 := Tryz.underlying5
  a5 := fun w => by simp [ren, isAgg, go_sem]
  z5 := fun w => Tryz.sizeOf5 w
  v5 := fun w => Tryz.zeroValue5 w
  t9 := Tryz.underlying9
  a9 := fun w => by simp [ren, isAgg, go_sem]
  z9 := fun w => Tryz.sizeOf9 w
  v9 := fun w => Tryz.zeroValue9 w
  t21 := Tryz.underlying21
  a21 := fun w => by simp [ren, isAgg, go_sem]
  z21 := fun w => Tryz.sizeOf21 w
  v21 := fun w => Tryz.zeroValue21 w
  t46 := Tryz.underlying163
  a46 := fun w => by simp [ren, isAgg, go_sem]
  z46 := fun w => Tryz.sizeOf163 w
  v46 := fun w => Tryz.zeroValue163 w

theorem containsRune (s : ByteArray) (r : Int) (w : World) (h0 : 0 ≤ r) (h1 : r < 128) :
    Calls Tryz.prog 149 #[.string s, .int .i32 r] w fun e w' => e = .returned (.bool (decide (0 ≤ Lib.indexByte s.data.toList r.toNat.toUInt8))) ∧ w' = w :=
  Any.strings_ContainsRune_ascii lays151 s r w h0 h1

end Go.Proofs.YtlipmjpapkfaeaaGreatDoor.Orc
end
section
set_option linter.unusedSimpArgs false
set_option linter.unusedVariables false
namespace Go.Mach
open Go Go.RowKit

theorem BR.later {W : World} {μ : PMap} {p : Place} {w w' : World} {b : ABlk} (h : BR W μ p w b) (hb : Below w.heap.size w w') : BR W μ p w' b := by
  cases b with
  | dead => trivial
  | cells c =>
    have hl := BR.lt h rfl
    obtain ⟨h0, cs, e, h1, h2⟩ := h
    exact ⟨h0, cs, e, (hb.block _ hl).trans h1, h2⟩
  | map es =>
    have hl := BR.lt h rfl
    obtain ⟨h0, ents, clock, h1, h2⟩ := h
    exact ⟨h0, ents, clock, (hb.block _ hl).trans h1, h2⟩
  | iter s pos =>
    have hl := BR.lt h rfl
    exact ⟨h.1, (hb.block _ hl).trans h.2.1, h.2.2⟩

/-- New blocks that the machine does not know change nothing. -/
theorem HR.later {W : World} {μ : PMap} {h : AHeap} {w w' : World} (H : HR W μ h w) (hb : Below w.heap.size w w') : HR W μ h w' :=
  ⟨H.below.trans (hb.mono H.below.size), H.dom, H.fresh, fun i p b hi hg => (H.rep i p b hi hg).later hb, H.inj⟩

/-- A function that reads plain values and answers a plain value, and makes nothing that is seen. -/
theorem ACalls.of_pure {P : Program} {W : World} {f : FuncId} {args : List Value} {h : AHeap} {v : Value} (hc : callable P f) (hp : ∀ v ∈ args, plainV v = true) (hv : ∀ μ, VR μ v v)
    (hcall : ∀ w, Calls P f args.toArray w fun e w' => e = .returned v ∧ Below w.heap.size w w') : ACalls P W f args h fun v2 h2 => v2 = v ∧ h2 = h := by
  refine ⟨hc, fun μ cargs w H hvs => ?_⟩
  have he : cargs = args := by
    apply List.ext_getElem?
    intro i
    rcases Nat.lt_or_ge i args.length with hi | hi
    · obtain ⟨v', h1, h2⟩ := hvs.2 i args[i] (by simp [hi])
      rw [h1, List.getElem?_eq_getElem hi]
      have hpl := hp args[i] (List.getElem_mem hi)
      rw [VR.plain_inv hpl h2]
    · rw [List.getElem?_eq_none hi, List.getElem?_eq_none (by rw [← hvs.1]; exact hi)]
  subst he
  exact (hcall w).mono fun e w' ⟨h1, h2⟩ => ⟨v, v, h, μ, h1, hv μ, H.later h2, Ext.refl _ _, Nat.le_refl _, rfl, rfl⟩

end Go.Mach

namespace Go.Proofs.YtlipmjpapkfaeaaGreatDoor.Orc
open Go Go.RowKit Go.Mach Go.Proofs

def orc : CF := fun f args h =>
  if f == 40 then (match args with
    | [.string s] => if s.size < 4611686018427387904 then some (.bool (validB s), h) else none
    | _ => none)
  else if f == 69 then (match args with
    | [.string s, .int .i64 i] => if s.size < 4611686018427387904 ∧ 0 ≤ i ∧ i < 4611686018427387904 then some (atU s i.toNat, h) else none
    | _ => none)
  else if f == 149 then (match args with
    | [.string s, .int .i32 r] => if 0 ≤ r ∧ r < 128 then some (.bool (decide (0 ≤ Lib.indexByte s.data.toList r.toNat.toUInt8)), h) else none
    | _ => none)
  else none

theorem vr_atU (μ : PMap) (s : ByteArray) (i : Nat) : VR μ (atU s i) (atU s i) := by
  unfold atU
  split
  · refine .tuple rfl fun k hk => ?_
    have : k = 0 ∨ k = 1 ∨ k = 2 ∨ k = 3 := by simp at hk; omega
    rcases this with rfl | rfl | rfl | rfl <;> exact .plain rfl
  · refine .tuple rfl fun k hk => ?_
    have : k = 0 ∨ k = 1 ∨ k = 2 ∨ k = 3 := by simp at hk; omega
    rcases this with rfl | rfl | rfl | rfl <;> exact .plain rfl

theorem orc_ok (W : World) : CFok Tryz.prog W orc := by
  intro f args h v h' hc
  unfold orc at hc
  split at hc
  · rename_i hf
    obtain rfl : f = 40 := by simpa using hf
    split at hc
    · rename_i s
      split at hc
      · rename_i hs
        cases hc
        exact ACalls.of_pure ⟨_, Tryz.func40, by kernel_rfl, by kernel_rfl⟩ (by simp [plainV]) (fun μ => .plain rfl) (fun w => valid_in s hs w)
      · cases hc
    · cases hc
  · split at hc
    · rename_i hf
      obtain rfl : f = 69 := by simpa using hf
      split at hc
      · rename_i s i
        split at hc
        · rename_i hs
          cases hc
          obtain ⟨hs, h0, h1⟩ := hs
          have hi : ((i.toNat : Nat) : Int) = i := Int.toNat_of_nonneg h0
          refine ACalls.of_pure ⟨_, Tryz.func69, by kernel_rfl, by kernel_rfl⟩ (by simp [plainV]) (fun μ => vr_atU μ s _) (fun w => ?_)
          have := at_in s hs i.toNat (by omega) w
          rw [hi] at this
          exact this
        · cases hc
      · cases hc
    · split at hc
      · rename_i hf
        obtain rfl : f = 149 := by simpa using hf
        split at hc
        · rename_i s r
          split at hc
          · rename_i hs
            cases hc
            exact ACalls.of_pure ⟨_, Tryz.func149, by kernel_rfl, by kernel_rfl⟩ (by simp [plainV]) (fun μ => .plain rfl) (fun w => (containsRune s r w hs.1 hs.2).mono fun e w' ⟨h1, h2⟩ => ⟨h1, by rw [h2]; exact Below.refl _ _⟩)
          · cases hc
        · cases hc
      · cases hc

end Go.Proofs.YtlipmjpapkfaeaaGreatDoor.Orc
end
section
set_option linter.unusedSimpArgs false
set_option linter.unusedVariables false
namespace Go.Proofs.YtlipmjpapkfaeaaGreatDoor.Fn
open Go Go.Mach Go.RowKit Go.Proofs Go.Proofs.YtlipmjpapkfaeaaGreatDoor.Orc

/-- The code points from a place on. -/
def rest (s : ByteArray) (pos : Nat) : List Nat := (decs s s.size pos).map (·.1)

theorem decs_fuel (s : ByteArray) : ∀ (k pos : Nat), s.size ≤ k + pos → decs s (k + 1) pos = decs s k pos
  | 0, pos, h => by rw [decs_stop (by omega), decs_stop (by omega)]
  | k + 1, pos, h => by
    by_cases hp : pos < s.size
    · have hw := width_pos s pos hp
      have := decs_fuel s k (pos + (Utf8.decode s pos).2) (by omega)
      conv => lhs; unfold decs
      conv => rhs; unfold decs
      simp only [hp, if_true, this]
    · rw [decs_stop hp, decs_stop hp]

theorem decs_cons {s : ByteArray} {pos : Nat} (hp : pos < s.size) : decs s s.size pos = ((Utf8.decode s pos).1, pos) :: decs s s.size (pos + (Utf8.decode s pos).2) := by
  have hw := width_pos s pos hp
  rw [← decs_fuel s s.size pos (by omega)]
  conv => lhs; unfold decs
  simp only [hp, if_true]

theorem rest_end {s : ByteArray} {pos : Nat} (h : ¬ pos < s.size) : rest s pos = [] := by unfold rest; rw [decs_stop h]; rfl
theorem rest_cons {s : ByteArray} {pos c w : Nat} (hp : pos < s.size) (hd : Utf8.decode s pos = (c, w)) : rest s pos = c :: rest s (pos + w) := by
  unfold rest; rw [decs_cons hp, hd]; rfl

/-- The state behind the code points. -/
def goA (A : Aut) : Int → List Nat → Int
  | q, [] => q
  | q, c :: cs => goA A (if q < 0 then -1 else nextA (A.arcs.getD q.toNat []) c) cs

def acceptA (A : Aut) (s : ByteArray) : Bool := decide (0 ≤ goA A 0 (rest s 0)) && A.fin.getD (goA A 0 (rest s 0)).toNat false
def runA (A : Aut) (s : ByteArray) : Bool := decide (validate A = 0) && validB s && acceptA A s

theorem goA_dead (A : Aut) : ∀ (cs : List Nat) {q : Int}, q < 0 → goA A q cs < 0
  | [], q, h => h
  | c :: cs, q, h => by unfold goA; rw [if_pos h]; exact goA_dead A cs (by omega)

theorem validate_zero {A : Aut} (h : validate A = 0) : A.fin.length ≤ 256 ∧ A.fin.length ≠ 0 ∧ A.arcs.length = A.fin.length ∧ chkAll A.fin.length A.arcs = none := by
  unfold validate at h
  split at h
  · omega
  · split at h
    · omega
    · rename_i h1 h2
      refine ⟨by omega, by omega, by omega, ?_⟩
      cases hc : chkAll A.fin.length A.arcs with
      | none => rfl
      | some c =>
        rw [hc] at h
        simp at h
        subst h
        exfalso
        have nz : ∀ (n : Nat) (l : List Arc3) (p : Option Arc3), chkFrom n p l ≠ some 0 := by
          intro n l
          induction l with
          | nil => intro p; simp [chkFrom]
          | cons x l ih =>
            intro p
            unfold chkFrom
            split
            · simp
            · cases p with
              | none => exact ih _
              | some q => simp only; split; · simp
                          · split; · simp
                            · exact ih _
        have nza : ∀ (n : Nat) (ls : List (List Arc3)), chkAll n ls ≠ some 0 := by
          intro n ls
          induction ls with
          | nil => simp [chkAll]
          | cons l ls ih =>
            unfold chkAll
            cases hl : chkFrom n none l with
            | some c => simp only; intro e; cases e; exact nz _ _ _ hl
            | none => exact ih
        exact nza _ _ hc

theorem chkAll_each {n : Nat} : ∀ {ls : List (List Arc3)}, chkAll n ls = none → ∀ l ∈ ls, chkFrom n none l = none
  | [], _, l, h => by simp at h
  | x :: ls, hc, l, h => by
    unfold chkAll at hc
    cases hx : chkFrom n none x with
    | some c => rw [hx] at hc; cases hc
    | none =>
      rw [hx] at hc
      rcases List.mem_cons.1 h with rfl | h
      · exact hx
      · exact chkAll_each hc l h

theorem chkFrom_state {n : Nat} : ∀ {l : List Arc3} {p : Option Arc3}, chkFrom n p l = none → ∀ x ∈ l, badArc n x = false
  | [], p, _, x, h => by simp at h
  | y :: l, p, hc, x, h => by
    unfold chkFrom at hc
    split at hc
    · cases hc
    · rename_i hb
      have hrec : chkFrom n (some y) l = none := by
        cases p with
        | none => exact hc
        | some q => simp only at hc; split at hc; · cases hc
                    · split at hc; · cases hc
                      · exact hc
      rcases List.mem_cons.1 h with rfl | h
      · simpa using hb
      · exact chkFrom_state hrec x h

theorem nextA_range {n : Nat} {l : List Arc3} (h : chkFrom n none l = none) (c : Int) : nextA l c = -1 ∨ (0 ≤ nextA l c ∧ nextA l c < n) := by
  unfold nextA
  cases hf : l.find? (fun x => decide (x.1 ≤ c) && decide (c ≤ x.2.1)) with
  | none => exact .inl rfl
  | some x =>
    have := chkFrom_state h x (List.mem_of_find?_eq_some hf)
    simp [badArc] at this
    right; simp only; omega
end Go.Proofs.YtlipmjpapkfaeaaGreatDoor.Fn
end
section
set_option maxRecDepth 100000
namespace Go.Proofs.YtlipmjpapkfaeaaGreatDoor.Fn
open Go Go.Mach
def r4 : RFunc := ⟨23, (.seq (.region [⟨(some 2), .box (.tmp 0), none⟩, ⟨(some 4), .mov (.const (.bool false)), none⟩]) (.seq (.seq (.region [⟨(some 5), .loadN (.tmp 2) 2, none⟩, ⟨(some 6), .buildSl [(.slice none 0 0), (.slice none 0 0)] [(0, 2, (.tmp 5))] 1 2, none⟩, ⟨(some 7), .call (.func 15) [(.const (.int .i64 40)), (.tmp 6)], none⟩, ⟨(some 8), .mov (.tmp 7), none⟩, ⟨(some 9), .mov (.tmp 1), (some (8, false))⟩, ⟨(some 10), .lenStr (.tmp 9), (some (8, false))⟩, ⟨(some 11), .bin .gtr (.sc .i) (.tmp 10) (.const (.int .i64 60)), (some (8, false))⟩, ⟨(some 12), .pick (.tmp 8) (.const (.bool true)) (.tmp 11), none⟩]) (.cond (.tmp 12) (.seq (.region [⟨(some 4), .mov (.const (.bool true)), none⟩]) .ret) .skip)) (.seq (.draws [⟨[⟨(some 13), .loadN (.tmp 2) 2, none⟩, ⟨(some 14), .mov (.tmp 1), none⟩, ⟨(some 16), .loadN (.tmp 2) 2, none⟩, ⟨(some 17), .mov (.tmp 1), none⟩], [⟨(some 13), .loadN (.tmp 2) 2, none⟩, ⟨(some 14), .mov (.tmp 1), none⟩, ⟨(some 16), .loadN (.tmp 2) 2, none⟩, ⟨(some 17), .mov (.tmp 1), none⟩], (some ⟨(some 15), .call (.func 19) [(.tmp 13), (.tmp 14)], none⟩)⟩, ⟨[], [⟨(some 16), .loadN (.tmp 2) 2, none⟩, ⟨(some 17), .mov (.tmp 1), none⟩], (some ⟨(some 18), .call (.func 20) [(.tmp 16), (.tmp 17)], none⟩)⟩, ⟨[⟨(some 19), .bin .eql (.sc .b) (.tmp 15) (.tmp 18), none⟩, ⟨(some 20), .mov (.tmp 19), none⟩], [⟨(some 19), .bin .eql (.sc .b) (.tmp 15) (.tmp 18), none⟩, ⟨(some 20), .mov (.tmp 19), none⟩], (some ⟨(some 21), .call (.func 18) [], (some (20, true))⟩)⟩, ⟨[⟨(some 22), .pick (.tmp 20) (.tmp 21) (.const (.bool false)), none⟩, ⟨(some 4), .mov (.tmp 22), none⟩], [⟨(some 22), .pick (.tmp 20) (.tmp 21) (.const (.bool false)), none⟩, ⟨(some 4), .mov (.tmp 22), none⟩], none⟩]) .ret))), [.tmp 4]⟩
theorem c4 : compFn Tryz.prog 4 = some r4 := by kernel_rfl
def r20 : RFunc := ⟨34, (.seq (.region [⟨(some 2), .box (.tmp 0), none⟩, ⟨(some 4), .mov (.const (.bool false)), none⟩]) (.seq (.seq (.region [⟨(some 8), .loadN (.tmp 2) 2, none⟩, ⟨(some 9), .call (.func 17) [(.tmp 8)], none⟩, ⟨(some 10), .bin .neq (.sc .i) (.tmp 9) (.const (.int .i64 0)), none⟩, ⟨(some 11), .mov (.tmp 10), none⟩, ⟨(some 12), .mov (.tmp 1), (some (11, false))⟩, ⟨(some 13), .call (.func 42) [(.tmp 12)], (some (11, false))⟩, ⟨(some 14), .un .not (.tmp 13), (some (11, false))⟩, ⟨(some 15), .pick (.tmp 11) (.const (.bool true)) (.tmp 14), none⟩]) (.cond (.tmp 15) (.seq (.region [⟨(some 4), .mov (.const (.bool false)), none⟩]) .ret) .skip)) (.seq (.region [⟨(some 5), .mov (.const (.int .i64 0)), none⟩]) (.seq (.seq (.region [⟨(some 16), .mov (.tmp 1), none⟩, ⟨(some 17), .rangeStr (.tmp 16), none⟩]) (.block 0 (.loop (.seq (.region [⟨(some 18), .nextStr (.tmp 17), none⟩, ⟨(some 19), .extract (.tmp 18) 0, none⟩]) (.seq (.cond (.tmp 19) .skip (.exit 0)) (.block 1 (.seq (.region [⟨(some 20), .extract (.tmp 18) 2, none⟩, ⟨(some 7), .mov (.tmp 20), none⟩]) (.region [⟨(some 21), .loadN (.tmp 2) 2, none⟩, ⟨(some 22), .mov (.tmp 5), none⟩, ⟨(some 23), .mov (.tmp 7), none⟩, ⟨(some 24), .call (.func 43) [(.tmp 21), (.tmp 22), (.tmp 23)], none⟩, ⟨(some 5), .mov (.tmp 24), none⟩])))))))) (.seq (.region [⟨(some 25), .mov (.tmp 5), none⟩, ⟨(some 26), .bin .geq (.sc .i) (.tmp 25) (.const (.int .i64 0)), none⟩, ⟨(some 27), .mov (.tmp 26), none⟩, ⟨(some 28), .addOff (.tmp 2) 0, (some (27, true))⟩, ⟨(some 29), .load1 (.tmp 28), (some (27, true))⟩, ⟨(some 30), .mov (.tmp 5), (some (27, true))⟩, ⟨(some 31), .idxA 1 (.tmp 29) (.tmp 30), (some (27, true))⟩, ⟨(some 32), .load1 (.tmp 31), (some (27, true))⟩, ⟨(some 33), .pick (.tmp 27) (.tmp 32) (.const (.bool false)), none⟩, ⟨(some 4), .mov (.tmp 33), none⟩]) .ret))))), [.tmp 4]⟩
theorem c20 : compFn Tryz.prog 20 = some r20 := by kernel_rfl
def r42 : RFunc := ⟨16, (.seq (.region [⟨(some 2), .mov (.const (.bool false)), none⟩]) (.seq (.seq (.region [⟨(some 5), .mov (.tmp 0), none⟩, ⟨(some 6), .call (.func 77) [(.tmp 5)], none⟩, ⟨(some 7), .lenSl (.tmp 6), none⟩, ⟨(some 8), .mov (.const (.int .i64 0)), none⟩]) (.block 0 (.loop (.seq (.region [⟨(some 9), .bin .lss (.sc .i) (.tmp 8) (.tmp 7), none⟩]) (.seq (.cond (.tmp 9) .skip (.exit 0)) (.seq (.block 1 (.seq (.region [⟨(some 10), .idxA 4 (.tmp 6) (.tmp 8), none⟩, ⟨(some 11), .loadN (.tmp 10) 4, none⟩, ⟨(some 4), .newv [(.int .i32 0), (.int .i64 0), (.int .i64 0), (.bool false)], none⟩, ⟨none, .store (.tmp 4) (.tmp 11) 4, none⟩]) (.seq (.region [⟨(some 12), .addOff (.tmp 4) 3, none⟩, ⟨(some 13), .load1 (.tmp 12), none⟩, ⟨(some 14), .un .not (.tmp 13), none⟩]) (.cond (.tmp 14) (.seq (.region [⟨(some 2), .mov (.const (.bool false)), none⟩]) .ret) .skip)))) (.region [⟨(some 15), .bin .add (.sc .i) (.tmp 8) (.const (.int .i64 1)), none⟩, ⟨(some 8), .mov (.tmp 15), none⟩]))))))) (.seq (.region [⟨(some 2), .mov (.const (.bool true)), none⟩]) .ret))), [.tmp 2]⟩
theorem c42 : compFn Tryz.prog 42 = some r42 := by kernel_rfl
def r43 : RFunc := ⟨34, (.seq (.region [⟨(some 3), .box (.tmp 0), none⟩, ⟨(some 6), .mov (.const (.int .i64 0)), none⟩]) (.seq (.seq (.region [⟨(some 9), .mov (.tmp 1), none⟩, ⟨(some 10), .bin .lss (.sc .i) (.tmp 9) (.const (.int .i64 0)), none⟩]) (.cond (.tmp 10) (.seq (.region [⟨(some 6), .mov (.const (.int .i64 (-1))), none⟩]) .ret) .skip)) (.seq (.seq (.region [⟨(some 11), .addOff (.tmp 3) 1, none⟩, ⟨(some 12), .load1 (.tmp 11), none⟩, ⟨(some 13), .mov (.tmp 1), none⟩, ⟨(some 14), .idxA 1 (.tmp 12) (.tmp 13), none⟩, ⟨(some 15), .load1 (.tmp 14), none⟩, ⟨(some 16), .lenSl (.tmp 15), none⟩, ⟨(some 17), .mov (.const (.int .i64 0)), none⟩]) (.block 0 (.loop (.seq (.region [⟨(some 18), .bin .lss (.sc .i) (.tmp 17) (.tmp 16), none⟩]) (.seq (.cond (.tmp 18) .skip (.exit 0)) (.seq (.block 1 (.seq (.region [⟨(some 19), .idxA 3 (.tmp 15) (.tmp 17), none⟩, ⟨(some 20), .loadN (.tmp 19) 3, none⟩, ⟨(some 8), .newv [(.int .i32 0), (.int .i32 0), (.int .i64 0)], none⟩, ⟨none, .store (.tmp 8) (.tmp 20) 3, none⟩]) (.seq (.region [⟨(some 21), .addOff (.tmp 8) 0, none⟩, ⟨(some 22), .load1 (.tmp 21), none⟩, ⟨(some 23), .mov (.tmp 2), none⟩, ⟨(some 24), .bin .leq (.sc .i) (.tmp 22) (.tmp 23), none⟩, ⟨(some 25), .mov (.tmp 24), none⟩, ⟨(some 26), .mov (.tmp 2), (some (25, true))⟩, ⟨(some 27), .addOff (.tmp 8) 1, (some (25, true))⟩, ⟨(some 28), .load1 (.tmp 27), (some (25, true))⟩, ⟨(some 29), .bin .leq (.sc .i) (.tmp 26) (.tmp 28), (some (25, true))⟩, ⟨(some 30), .pick (.tmp 25) (.tmp 29) (.const (.bool false)), none⟩]) (.cond (.tmp 30) (.seq (.region [⟨(some 31), .addOff (.tmp 8) 2, none⟩, ⟨(some 32), .load1 (.tmp 31), none⟩, ⟨(some 6), .mov (.tmp 32), none⟩]) .ret) .skip)))) (.region [⟨(some 33), .bin .add (.sc .i) (.tmp 17) (.const (.int .i64 1)), none⟩, ⟨(some 17), .mov (.tmp 33), none⟩]))))))) (.seq (.region [⟨(some 6), .mov (.const (.int .i64 (-1))), none⟩]) .ret)))), [.tmp 6]⟩
theorem c43 : compFn Tryz.prog 43 = some r43 := by kernel_rfl
def r77 : RFunc := ⟨81, (.seq (.region [⟨(some 2), .mov (.const (.slice none 0 0)), none⟩]) (.seq (.region [⟨(some 3), .mov (.const (.slice none 0 0)), none⟩]) (.seq (.seq (.region [⟨(some 7), .mov (.tmp 0), none⟩, ⟨(some 8), .rangeStr (.tmp 7), none⟩]) (.block 0 (.loop (.seq (.region [⟨(some 9), .nextStr (.tmp 8), none⟩, ⟨(some 10), .extract (.tmp 9) 0, none⟩]) (.seq (.cond (.tmp 10) .skip (.exit 0)) (.block 1 (.seq (.region [⟨(some 11), .extract (.tmp 9) 1, none⟩, ⟨(some 12), .extract (.tmp 9) 2, none⟩, ⟨(some 4), .mov (.tmp 11), none⟩, ⟨(some 5), .mov (.tmp 12), none⟩]) (.seq (.seq (.region [⟨(some 13), .mov (.tmp 3), none⟩, ⟨(some 14), .lenSl (.tmp 13), none⟩, ⟨(some 15), .bin .gtr (.sc .i) (.tmp 14) (.const (.int .i64 0)), none⟩]) (.cond (.tmp 15) (.region [⟨(some 16), .mov (.tmp 3), none⟩, ⟨(some 17), .mov (.tmp 3), none⟩, ⟨(some 18), .lenSl (.tmp 17), none⟩, ⟨(some 19), .bin .sub (.sc .i) (.tmp 18) (.const (.int .i64 1)), none⟩, ⟨(some 20), .mov (.tmp 4), none⟩, ⟨(some 21), .mov (.tmp 3), none⟩, ⟨(some 22), .mov (.tmp 3), none⟩, ⟨(some 23), .lenSl (.tmp 22), none⟩, ⟨(some 24), .bin .sub (.sc .i) (.tmp 23) (.const (.int .i64 1)), none⟩, ⟨(some 25), .idxA 4 (.tmp 21) (.tmp 24), none⟩, ⟨(some 26), .addOff (.tmp 25) 1, none⟩, ⟨(some 27), .load1 (.tmp 26), none⟩, ⟨(some 28), .bin .sub (.sc .i) (.tmp 20) (.tmp 27), none⟩, ⟨(some 29), .idxA 4 (.tmp 16) (.tmp 19), none⟩, ⟨(some 30), .addOff (.tmp 29) 2, none⟩, ⟨none, .store (.tmp 30) (.tmp 28) 1, none⟩]) .skip)) (.region [⟨(some 31), .mov (.tmp 3), none⟩, ⟨(some 32), .mov (.tmp 5), none⟩, ⟨(some 33), .mov (.tmp 4), none⟩, ⟨(some 34), .build [(.int .i32 0), (.int .i64 0), (.int .i64 0), (.bool false)] [(0, 1, (.tmp 32)), (1, 1, (.tmp 33))], none⟩, ⟨(some 35), .buildSl [(.int .i32 0), (.int .i64 0), (.int .i64 0), (.bool false)] [(0, 4, (.tmp 34))] 1 4, none⟩, ⟨(some 36), .app 4 (.tmp 31) (.tmp 35), none⟩, ⟨(some 3), .mov (.tmp 36), none⟩]))))))))) (.seq (.seq (.region [⟨(some 37), .mov (.tmp 3), none⟩, ⟨(some 38), .lenSl (.tmp 37), none⟩, ⟨(some 39), .bin .gtr (.sc .i) (.tmp 38) (.const (.int .i64 0)), none⟩]) (.cond (.tmp 39) (.region [⟨(some 40), .mov (.tmp 3), none⟩, ⟨(some 41), .mov (.tmp 3), none⟩, ⟨(some 42), .lenSl (.tmp 41), none⟩, ⟨(some 43), .bin .sub (.sc .i) (.tmp 42) (.const (.int .i64 1)), none⟩, ⟨(some 44), .mov (.tmp 0), none⟩, ⟨(some 45), .lenStr (.tmp 44), none⟩, ⟨(some 46), .mov (.tmp 3), none⟩, ⟨(some 47), .mov (.tmp 3), none⟩, ⟨(some 48), .lenSl (.tmp 47), none⟩, ⟨(some 49), .bin .sub (.sc .i) (.tmp 48) (.const (.int .i64 1)), none⟩, ⟨(some 50), .idxA 4 (.tmp 46) (.tmp 49), none⟩, ⟨(some 51), .addOff (.tmp 50) 1, none⟩, ⟨(some 52), .load1 (.tmp 51), none⟩, ⟨(some 53), .bin .sub (.sc .i) (.tmp 45) (.tmp 52), none⟩, ⟨(some 54), .idxA 4 (.tmp 40) (.tmp 43), none⟩, ⟨(some 55), .addOff (.tmp 54) 2, none⟩, ⟨none, .store (.tmp 55) (.tmp 53) 1, none⟩]) .skip)) (.seq (.seq (.region [⟨(some 56), .mov (.tmp 3), none⟩, ⟨(some 57), .lenSl (.tmp 56), none⟩, ⟨(some 58), .mov (.const (.int .i64 0)), none⟩]) (.block 2 (.loop (.seq (.region [⟨(some 59), .bin .lss (.sc .i) (.tmp 58) (.tmp 57), none⟩]) (.seq (.cond (.tmp 59) .skip (.exit 2)) (.seq (.block 3 (.seq (.region [⟨(some 60), .mov (.tmp 58), none⟩, ⟨(some 6), .mov (.tmp 60), none⟩]) (.region [⟨(some 61), .mov (.tmp 3), none⟩, ⟨(some 62), .mov (.tmp 6), none⟩, ⟨(some 63), .mov (.tmp 3), none⟩, ⟨(some 64), .mov (.tmp 6), none⟩, ⟨(some 65), .idxA 4 (.tmp 63) (.tmp 64), none⟩, ⟨(some 66), .addOff (.tmp 65) 0, none⟩, ⟨(some 67), .load1 (.tmp 66), none⟩, ⟨(some 68), .bin .neq (.sc .i) (.tmp 67) (.const (.int .i32 65533)), none⟩, ⟨(some 69), .mov (.tmp 68), none⟩, ⟨(some 70), .mov (.tmp 3), (some (69, false))⟩, ⟨(some 71), .mov (.tmp 6), (some (69, false))⟩, ⟨(some 72), .idxA 4 (.tmp 70) (.tmp 71), (some (69, false))⟩, ⟨(some 73), .addOff (.tmp 72) 2, (some (69, false))⟩, ⟨(some 74), .load1 (.tmp 73), (some (69, false))⟩, ⟨(some 75), .bin .eql (.sc .i) (.tmp 74) (.const (.int .i64 3)), (some (69, false))⟩, ⟨(some 76), .pick (.tmp 69) (.const (.bool true)) (.tmp 75), none⟩, ⟨(some 77), .idxA 4 (.tmp 61) (.tmp 62), none⟩, ⟨(some 78), .addOff (.tmp 77) 3, none⟩, ⟨none, .store (.tmp 78) (.tmp 76) 1, none⟩]))) (.region [⟨(some 79), .bin .add (.sc .i) (.tmp 58) (.const (.int .i64 1)), none⟩, ⟨(some 58), .mov (.tmp 79), none⟩]))))))) (.seq (.region [⟨(some 80), .mov (.tmp 3), none⟩, ⟨(some 2), .mov (.tmp 80), none⟩]) .ret)))))), [.tmp 2]⟩
theorem c77 : compFn Tryz.prog 77 = some r77 := by kernel_rfl
end Go.Proofs.YtlipmjpapkfaeaaGreatDoor.Fn
end
