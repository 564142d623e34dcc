/- 'for u := range units(s)': the statement over the iterator of O2, the loop variable boxed. No condition but the string's size.
Merged from 1 texts. -/
import Derived.Test.YtlipmjpapkfaeaaGreatDoorZD18
section
set_option linter.unusedSimpArgs false
set_option linter.unusedVariables false
namespace Go.Proofs.YtlipmjpapkfaeaaGreatDoor.Orc
open Go Go.RowKit Go.Shelf Go.Proofs
def KpAll (n₀ : Nat) (A B : World) : Prop := A.heap.size ≤ B.heap.size ∧ ∀ k (o : Obj), n₀ ≤ k → A.heap[k]? = some o → B.heap[k]? = some o
def cellsU (x : Nat × Nat × Int) : Obj := .cells #[.int .i32 x.1, .int .i64 x.2.1, .int .i64 x.2.2] 109 (0, 0)
def uPost (n₀ : Nat) (I : List (Nat × Nat × Int) → World → Prop) (Ix : Code → List (Nat × Nat × Int) → World → Prop) (xs : List (Nat × Nat × Int)) (W : World) : Exit → Act → World → Prop
  | .normal, _, W' => KpAll n₀ W W' ∧ I xs W'
  | .ret, _, W' => KpAll n₀ W W' ∧ Ix .ret xs W'
  | .exit id, _, W' => KpAll n₀ W W' ∧ Ix (.exit id) xs W'
  | .goto t, _, W' => KpAll n₀ W W' ∧ Ix (.goto t) xs W'
  | .panic _, _, _ => False
  | .outgrown, _, _ => False
theorem below_putObj {B : Nat} (W : World) {l : Nat} (o : Obj) (hl : B ≤ l) : Below B W (W.putObj l o) :=
  ⟨rfl, rfl, rfl, by simp, fun k hk => World.putObj_heap_other (by omega)⟩
theorem wpIn_units {p : Tmp} {g : Operand} {assign body : Code} {Q : Exit → Act → World → Prop} {a : Act} {w : World} {n Bm : Nat} {s : ByteArray} (hs : s.size < 4611686018427387904)
    (hg : a.eval g = .func (.func 111) #[] #[.pointer (some ⟨Bm, 0, none⟩)]) (hbox : w.heap[Bm]? = some (.cells #[.string s] 9 (0, 0)))
    (I : List (Nat × Nat × Int) → World → Prop) (Ix : Code → List (Nat × Nat × Int) → World → Prop)
    (hI : ∀ pre A B, I pre A → Below w.heap.size A B → I pre B) (hIx : ∀ c pre A B, Ix c pre A → Below w.heap.size A B → Ix c pre B) (h0 : I [] w)
    (a₁ : Nat → Nat × Nat × Int → Act)
    (hassign : ∀ (l : Nat) (x : Nat × Nat × Int) (W : World) (K : Act → World → Prop), K (a₁ W.heap.size x) (W.alloc (cellsU x)) →
      assign.wpIn (Fence.wide.inRound l) (n - 1 - 1) Tryz.prog (Exit.then K (fun _ _ _ => False)) { tmps := a.tmps.setIfInBounds p (encU x), defers := [] } W)
    (hbody : ∀ (l : Nat) (pre : List (Nat × Nat × Int)) (x : Nat × Nat × Int) (Bx : Nat) (W : World), I pre W → w.heap.size ≤ Bx → W.heap[Bx]? = some (cellsU x) → pre ++ [x] <+: units s →
      body.wpIn (Fence.wide.inRound l) (n - 1 - 1) Tryz.prog (uPost Bm I Ix (pre ++ [x]) W) (a₁ Bx x) W)
    (hdone : ∀ (D : Nat) (W : World), w.heap.size ≤ D → I (units s) W → W.heap[D]? = some (.deferred (some [])) → Q .normal { a with defers := { target := .collected D, args := #[] } :: a.defers } W)
    (hstop : ∀ (D : Nat) (c : Code) (pre : List (Nat × Nat × Int)) (W : World), w.heap.size ≤ D → pre <+: units s → Ix c pre W → W.heap[D]? = some (.deferred (some [])) → c.wpIn Fence.wide n Tryz.prog Q { a with defers := { target := .collected D, args := #[] } :: a.defers } W) :
    (Code.rangeFunc g #[p] assign body).wpIn Fence.wide n Tryz.prog Q a w := by
  refine wpIn_rangeFunc ?_
  intro fn hfn
  rw [Fence.wide_round]
  obtain ⟨rec, hrec⟩ : ∃ rec : LoopState → Option Code → Loop, rec = fun st pe => { state := st, pending := pe, fn, tmps := a.tmps, params := #[p], assign, body, defers := w.heap.size } := ⟨_, rfl⟩
  obtain ⟨W1, hW1⟩ : ∃ W1, (w.alloc (.deferred (some []))).alloc (.loop (rec .ready none)) = W1 := ⟨_, rfl⟩
  have hL1 : W1.heap[w.heap.size + 1]? = some (.loop (rec .ready none)) := by
    rw [← hW1]; have := World.alloc_heap_new (w.alloc (.deferred (some []))) (.loop (rec .ready none)); rwa [World.size_alloc] at this
  have hK1 : W1.heap[w.heap.size]? = some (.deferred (some [])) := by
    rw [← hW1]; exact (Below.heap_alloc _ _ _ (by simp)).trans (World.alloc_heap_new w _)
  have hb1 : Below w.heap.size w W1 := by rw [← hW1]; exact ((Below.refl _ w).alloc (Nat.le_refl _) _).alloc (by simp) _
  have hI1 : I [] W1 := hI _ _ _ h0 hb1
  have hBm : Bm < w.heap.size := (Array.getElem?_eq_some_iff.1 hbox).1
  have hbox1 : W1.heap[Bm]? = some (.cells #[.string s] 9 (0, 0)) := (hb1.block _ hBm).trans hbox
  have hs1 : W1.heap.size = w.heap.size + 2 := by rw [← hW1]; simp
  refine ⟨w.heap.size + 1, [{ target := .collected w.heap.size, args := #[] }], W1, { target := .fn (.func 111) #[.pointer (some ⟨Bm, 0, none⟩)], args := #[.func (.yield (w.heap.size + 1)) #[] #[]] }, W1, 111,
    #[.func (.yield (w.heap.size + 1)) #[] #[], .pointer (some ⟨Bm, 0, none⟩)], W1, ?_, ?_, fun _ _ => trivial, ?_, fun h => by simp [Fence.wide] at h, ?_⟩
  · rw [← hW1, hrec]; exact run_enterLoop_outer _ _ _ _ _
  · simp only [resolve, hg]
    simp [go_sem]
  · simp [invoke, go_sem, Tryz.call111]
  · refine (units1_in (n - 1) (w.heap.size + 1) Bm Bm s hs
      (fun pre W => I pre W ∧ W.heap[w.heap.size + 1]? = some (.loop (rec .ready none)) ∧ W.heap[w.heap.size]? = some (.deferred (some [])))
      (fun pre W => ∃ c, Ix c pre W ∧ W.heap[w.heap.size + 1]? = some (.loop (rec .done (some c))) ∧ W.heap[w.heap.size]? = some (.deferred (some [])))
      ?_ W1 (Nat.le_refl _)
      (fun pre A B hs hb => ⟨hI _ _ _ hs.1 (hb.mono (by omega)), (hb.block _ (by omega)).trans hs.2.1, (hb.block _ (by omega)).trans hs.2.2⟩)
      hbox1 ⟨hI1, hL1, hK1⟩).mono ?_
    · rintro pre x W ⟨hi, hl, hk⟩ hpre
      have hlt : w.heap.size + 1 < W.heap.size := (Array.getElem?_eq_some_iff.1 hl).1
      have hy := run_yield (P := Tryz.prog) (args := #[encU x]) hl (by rw [hrec]; rfl)
      rw [hrec] at hy
      dsimp only at hy
      rw [show ((#[p] : Array Tmp).zip #[encU x]).foldl (fun tmps (x : Tmp × Value) => match x with | (t, a) => tmps.setIfInBounds t a) a.tmps = a.tmps.setIfInBounds p (encU x) from by simp] at hy
      refine ⟨fn, _, assign, body, hy, roundIn_of_wpIn hfn ?_⟩
      refine hassign _ x W _ ?_
      have hl1 : (W.alloc (cellsU x)).heap[w.heap.size + 1]? = some (.loop (rec .ready none)) := (Below.heap_alloc _ _ _ hlt).trans hl
      refine ⟨_, run_beginRound hl1 (by rw [hrec]), ?_⟩
      obtain ⟨W2, hW2⟩ : ∃ W2, (W.alloc (cellsU x)).putObj (w.heap.size + 1) (.loop { rec .ready none with state := .busy }) = W2 := ⟨_, rfl⟩
      rw [hW2]
      have hl2 : W2.heap[w.heap.size + 1]? = some (.loop { rec .ready none with state := .busy }) := by rw [← hW2]; exact World.putObj_heap_same (Array.getElem?_eq_some_iff.1 hl1).1
      have hk2 : W2.heap[w.heap.size]? = some (.deferred (some [])) := by rw [← hW2]; exact (World.putObj_heap_other (by omega)).trans ((Below.heap_alloc _ _ _ (by omega)).trans hk)
      have hx2 : W2.heap[W.heap.size]? = some (cellsU x) := by rw [← hW2]; exact (World.putObj_heap_other (by omega)).trans (World.alloc_heap_new _ _)
      have hB2 : Below w.heap.size W W2 := by rw [← hW2]; exact ((Below.refl _ W).alloc (by omega) _).trans (below_putObj _ _ (by omega))
      have hk02 : ∀ k (o : Obj), W.heap[k]? = some o → k ≠ w.heap.size + 1 → W2.heap[k]? = some o := fun k o ho hne => by
        rw [← hW2]; exact (World.putObj_heap_other hne).trans ((Below.heap_alloc _ _ _ (Array.getElem?_eq_some_iff.1 ho).1).trans ho)
      have hs2 : W.heap.size ≤ W2.heap.size := by rw [← hW2]; simp
      clear hW2
      refine wpIn_mono (hbody _ pre x W.heap.size W2 (hI _ _ _ hi hB2) (by omega) hx2 hpre) ?_
      have fin : ∀ (jump : Option Code) (W3 : World), KpAll Bm W2 W3 →
          (Instr.endRound (w.heap.size + 1) jump).run Tryz.prog W3 = .ok (.bool jump.isNone) (W3.putObj (w.heap.size + 1) (.loop (rec (if jump.isNone then .ready else .done) jump))) ∧
          (W3.putObj (w.heap.size + 1) (.loop (rec (if jump.isNone then .ready else .done) jump))).heap[w.heap.size + 1]? = some (.loop (rec (if jump.isNone then .ready else .done) jump)) ∧
          (W3.putObj (w.heap.size + 1) (.loop (rec (if jump.isNone then .ready else .done) jump))).heap[w.heap.size]? = some (.deferred (some [])) := fun jump W3 hk3 => by
        have hl3 := hk3.2 _ _ (by omega) hl2
        have := run_endRound (P := Tryz.prog) jump hl3
        rw [hrec] at this ⊢
        exact ⟨this, World.putObj_heap_same (Array.getElem?_eq_some_iff.1 hl3).1, (World.putObj_heap_other (by omega)).trans (hk3.2 _ _ (by omega) hk2)⟩
      rintro e a3 W3 hp
      cases e with
      | normal =>
        obtain ⟨hk3, hi3⟩ := hp
        obtain ⟨hr, hl4, hk4⟩ := fin none W3 hk3
        refine ⟨_, _, hr, .inl ⟨rfl, ⟨hI _ _ _ hi3 (below_putObj _ _ (by omega)), hl4, hk4⟩, ?_⟩⟩
        refine ⟨Nat.le_trans hs2 (Nat.le_trans hk3.1 (by simp)), fun k o hkn ho hkind => ?_⟩
        have hne : k ≠ w.heap.size + 1 := by
          rintro rfl
          rw [hl] at ho; cases ho
          rcases hkind with h | h <;> cases h
        exact (World.putObj_heap_other hne).trans (hk3.2 _ _ hkn (hk02 _ _ ho hne))
      | ret =>
        obtain ⟨hk3, hi3⟩ := hp
        obtain ⟨hr, hl4, hk4⟩ := fin (some .ret) W3 hk3
        exact ⟨_, _, hr, .inr ⟨rfl, .ret, hIx _ _ _ _ hi3 (below_putObj _ _ (by omega)), hl4, hk4⟩⟩
      | exit id =>
        obtain ⟨hk3, hi3⟩ := hp
        obtain ⟨hr, hl4, hk4⟩ := fin (some (.exit id)) W3 hk3
        exact ⟨_, _, hr, .inr ⟨rfl, .exit id, hIx _ _ _ _ hi3 (below_putObj _ _ (by omega)), hl4, hk4⟩⟩
      | goto t =>
        obtain ⟨hk3, hi3⟩ := hp
        obtain ⟨hr, hl4, hk4⟩ := fin (some (.goto t)) W3 hk3
        exact ⟨_, _, hr, .inr ⟨rfl, .goto t, hIx _ _ _ _ hi3 (below_putObj _ _ (by omega)), hl4, hk4⟩⟩
      | panic ch => exact hp.elim
      | outgrown => exact hp.elim
    · rintro e W2 ⟨⟨v, rfl⟩, (⟨hi, hl, hk⟩ | ⟨pre, hSp, c, hi, hl, hk⟩)⟩
      · exact ⟨none, _, by have := run_endLoop (P := Tryz.prog) hl (by rw [hrec]; simp); rw [hrec] at this; exact this, hdone _ _ (Nat.le_refl _) (hI _ _ _ hi (below_putObj _ _ (by omega))) ((World.putObj_heap_other (by omega)).trans hk)⟩
      · exact ⟨some c, _, by have := run_endLoop (P := Tryz.prog) hl (by rw [hrec]; simp); rw [hrec] at this; exact this, hstop _ c pre _ (Nat.le_refl _) hSp (hIx _ _ _ _ hi (below_putObj _ _ (by omega))) ((World.putObj_heap_other (by omega)).trans hk)⟩
end Go.Proofs.YtlipmjpapkfaeaaGreatDoor.Orc
end
