/- The abstract machine, part 22: reading memory, own or given, and what keeps it. No condition. -/
import Derived.Test.YtlipmjpapkfaeaaGreatDoorX1
set_option linter.unusedSimpArgs false
set_option linter.unusedVariables false
namespace Go.Mach
open Go Go.RowKit

theorem AHeap.new_next (h : AHeap) (b : ABlk) : (h.new b).next = h.next + 1 := rfl
theorem AHeap.put_next (h : AHeap) (i : Nat) (b : ABlk) : (h.put i b).next = h.next := rfl
theorem AHeap.new_get (h : AHeap) (b : ABlk) (i : Nat) : (h.new b).own.get i = if i = h.next then some b else h.own.get i := by
  unfold AHeap.new; simp only [Tr.get_set]
theorem AHeap.put_get (h : AHeap) (j : Nat) (b : ABlk) (i : Nat) : (h.put j b).own.get i = if i = j then some b else h.own.get i := by
  unfold AHeap.put; simp only [Tr.get_set]

theorem wrap_i64 {x : Int} (h1 : -9223372036854775808 ≤ x) (h2 : x < 9223372036854775808) : IntKind.i64.wrap x = x := by
  have e1 : ((2 : Int) ^ IntKind.i64.bits) = 18446744073709551616 := by decide
  have e2 : ((2 : Int) ^ (IntKind.i64.bits - 1)) = 9223372036854775808 := by decide
  simp only [IntKind.wrap, e1, e2, IntKind.signed, Bool.true_and, decide_eq_true_eq]
  split <;> omega
theorem wrap_i32 {x : Int} (h1 : -2147483648 ≤ x) (h2 : x < 2147483648) : IntKind.i32.wrap x = x := by
  have e1 : ((2 : Int) ^ IntKind.i32.bits) = 4294967296 := by decide
  have e2 : ((2 : Int) ^ (IntKind.i32.bits - 1)) = 2147483648 := by decide
  simp only [IntKind.wrap, e1, e2, IntKind.signed, Bool.true_and, decide_eq_true_eq]
  split <;> omega

/-- h' holds all that h held. -/
structure Keeps (h h' : AHeap) : Prop where
  le : h.next ≤ h'.next
  same : ∀ i, i < h.next → h'.own.get i = h.own.get i

theorem Keeps.refl (h : AHeap) : Keeps h h := ⟨Nat.le_refl _, fun _ _ => rfl⟩
theorem Keeps.trans {a b c : AHeap} (h : Keeps a b) (k : Keeps b c) : Keeps a c := ⟨Nat.le_trans h.le k.le, fun i hi => (k.same i (Nat.lt_of_lt_of_le hi h.le)).trans (h.same i hi)⟩
theorem Keeps.new {a h : AHeap} (k : Keeps a h) (b : ABlk) : Keeps a (h.new b) :=
  ⟨Nat.le_trans k.le (by rw [AHeap.new_next]; omega), fun i hi => by rw [AHeap.new_get, if_neg (by have := k.le; omega)]; exact k.same i hi⟩
theorem Keeps.put {a h : AHeap} (k : Keeps a h) {j : Nat} (hj : a.next ≤ j) (b : ABlk) : Keeps a (h.put j b) :=
  ⟨k.le, fun i hi => by rw [AHeap.put_get, if_neg (by omega)]; exact k.same i hi⟩

/-- The address reads as v; if it is own memory its block has been made. -/
def Rd (W : World) (h : AHeap) (a : Addr) (v : Value) : Prop := aload1 W h a = some v ∧ (a.spot ≠ none → a.block < h.next)

theorem Rd.keeps {W : World} {h h' : AHeap} {a : Addr} {v : Value} (hr : Rd W h a v) (k : Keeps h h') : Rd W h' a v := by
  obtain ⟨h1, h2⟩ := hr
  refine ⟨?_, fun hs => Nat.lt_of_lt_of_le (h2 hs) k.le⟩
  unfold aload1 at *
  cases hs : a.spot with
  | none => simp only [hs] at h1 ⊢; exact h1
  | some q =>
    simp only [hs] at h1 ⊢
    rw [k.same _ (h2 (by simp [hs]))]
    exact h1

/-- A slice of elements of esz cells, element by element. -/
structure Sl (W : World) (h : AHeap) (esz : Nat) (v : Value) (l : List (List Value)) : Prop where
  is : ∃ a c, v = .slice a l.length c ∧ (∀ b, a = some b → (l = [] ∨ b.spot = none ∨ (b.spot = some 0 ∧ c = esz)) ∧ ∀ i x, l[i]? = some x → x.length = esz ∧ ∀ j u, x[j]? = some u → Rd W h (aadd b (i * esz + j)) u) ∧ (a = none → l = [] ∧ c = 0)

theorem Sl.keeps {W : World} {h h' : AHeap} {esz : Nat} {v : Value} {l : List (List Value)} (hs : Sl W h esz v l) (k : Keeps h h') : Sl W h' esz v l := by
  obtain ⟨a, c, h1, h2, h3⟩ := hs.is
  exact ⟨a, c, h1, fun b hb => ⟨(h2 b hb).1, fun i x hx => ⟨((h2 b hb).2 i x hx).1, fun j u hu => (((h2 b hb).2 i x hx).2 j u hu).keeps k⟩⟩, h3⟩

theorem Sl.len {W : World} {h : AHeap} {esz : Nat} {v : Value} {l : List (List Value)} (hs : Sl W h esz v l) : ∃ a c, v = .slice a l.length c := by
  obtain ⟨a, c, h1, _⟩ := hs.is; exact ⟨a, c, h1⟩

/-- The i-th element's address, and what lies there. -/
theorem Sl.at {W : World} {h : AHeap} {esz : Nat} {v : Value} {l : List (List Value)} (hs : Sl W h esz v l) {i : Nat} {x : List Value} (hx : l[i]? = some x) :
    ∃ a, idxV esz v (.int .i64 i) = some (.pointer (some a)) ∧ x.length = esz ∧ ∀ j u, x[j]? = some u → Rd W h (aadd a j) u := by
  obtain ⟨a, c, h1, h2, h3⟩ := hs.is
  have hi : i < l.length := (List.getElem?_eq_some_iff.1 hx).1
  cases a with
  | none => rw [(h3 rfl).1] at hi; simp at hi
  | some b =>
    obtain ⟨h4, h5⟩ := h2 b rfl
    obtain ⟨h6, h7⟩ := h5 i x hx
    refine ⟨aadd b (i * esz), ?_, h6, fun j u hu => ?_⟩
    · subst h1
      unfold idxV
      have hc : (b.spot.isNone || Nat.beq c esz) = true := by
        rcases h4 with h | h | ⟨h, h'⟩
        · rw [h] at hi; simp at hi
        · simp [h]
        · subst h'; simp
      simp [hc, hi]
    · have := h7 j u hu
      unfold aadd at *
      simpa [Nat.add_assoc] using this

theorem aloadN_of {W : World} {h : AHeap} : ∀ (x : List Value) (a : Addr), (∀ j u, x[j]? = some u → Rd W h (aadd a j) u) → aloadN W h a x.length = some x
  | [], a, _ => rfl
  | v :: x, a, hr => by
    have h0 := (hr 0 v rfl).1
    have h1 : aloadN W h (aadd a 1) x.length = some x := aloadN_of x (aadd a 1) fun j u hu => by
      have := hr (j + 1) u (by simpa using hu)
      unfold aadd at *
      simpa [Nat.add_assoc, Nat.add_comm 1 j] using this
    have h0' : aload1 W h a = some v := by simpa [aadd] using h0
    simp only [List.length_cons, aloadN, h0', h1]

end Go.Mach
