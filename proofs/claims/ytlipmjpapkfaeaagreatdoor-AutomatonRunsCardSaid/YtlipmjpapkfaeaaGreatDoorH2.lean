/- The abstract machine, part 25: own lists of elements of one size: reading, writing, appending. No condition. -/
import Derived.Test.YtlipmjpapkfaeaaGreatDoorX3
set_option linter.unusedSimpArgs false
set_option linter.unusedVariables false
namespace Go.Mach
open Go Go.RowKit

theorem splice_cons0 (a b : Value) (l vs : List Value) : splice (a :: l) 0 (b :: vs) = b :: splice l 0 vs := by simp [splice]
theorem splice_nil0 (l : List Value) : splice l 0 [] = l := by simp [splice]
theorem splice_succ (a : Value) (l vs : List Value) (n : Nat) : splice (a :: l) (n + 1) vs = a :: splice l n vs := by
  simp [splice, Nat.add_right_comm n 1]
theorem BS : type_of% splice_cons0 ∧ type_of% splice_nil0 ∧ type_of% splice_succ := ⟨splice_cons0, splice_nil0, splice_succ⟩

theorem splice_len {l vs : List Value} {o : Nat} (h : o + vs.length ≤ l.length) : (splice l o vs).length = l.length := by
  simp [splice]; omega
theorem splice_left {a b vs : List Value} {o : Nat} (h : o + vs.length ≤ a.length) : splice (a ++ b) o vs = splice a o vs ++ b := by
  unfold splice
  rw [List.take_append_of_le_length (by omega), List.drop_append_of_le_length h]
  simp [List.append_assoc]
theorem splice_right {a b vs : List Value} {o : Nat} : splice (a ++ b) (a.length + o) vs = a ++ splice b o vs := by
  unfold splice
  rw [List.take_length_add_append, Nat.add_assoc, List.drop_length_add_append]
  simp [List.append_assoc]

theorem flat_get {esz : Nat} : ∀ {es : List (List Value)} {i j : Nat} {e : List Value}, (∀ e ∈ es, e.length = esz) → es[i]? = some e → j < esz → es.flatten[i * esz + j]? = e[j]?
  | [], i, j, e, _, h, _ => by simp at h
  | x :: es, 0, j, e, hl, h, hj => by
    simp at h; subst h
    rw [List.flatten_cons, Nat.zero_mul, Nat.zero_add, List.getElem?_append_left (by rw [hl x (by simp)]; exact hj)]
  | x :: es, i + 1, j, e, hl, h, hj => by
    have hx := hl x (by simp)
    rw [List.flatten_cons, List.getElem?_append_right (by rw [hx, Nat.succ_mul]; omega), hx, show (i + 1) * esz + j - esz = i * esz + j by rw [Nat.succ_mul]; omega]
    exact flat_get (fun e he => hl e (by simp [he])) (by simpa using h) hj

theorem flat_splice {esz : Nat} {vs : List Value} : ∀ {es : List (List Value)} {i j : Nat} {e : List Value}, (∀ e ∈ es, e.length = esz) → es[i]? = some e → j + vs.length ≤ esz → splice es.flatten (i * esz + j) vs = (es.set i (splice e j vs)).flatten
  | [], i, j, e, _, h, _ => by simp at h
  | x :: es, 0, j, e, hl, h, hj => by
    simp at h; subst h
    have hx := hl x (by simp)
    rw [List.flatten_cons, Nat.zero_mul, Nat.zero_add, splice_left (by omega), List.set_cons_zero, List.flatten_cons]
  | x :: es, i + 1, j, e, hl, h, hj => by
    have hx := hl x (by simp)
    rw [List.flatten_cons, show (i + 1) * esz + j = x.length + (i * esz + j) by rw [Nat.succ_mul, hx]; omega, splice_right, List.set_cons_succ, List.flatten_cons,
      flat_splice (fun e he => hl e (by simp [he])) (by simpa using h) hj]

theorem flat_len {esz : Nat} : ∀ {es : List (List Value)}, (∀ e ∈ es, e.length = esz) → es.flatten.length = es.length * esz
  | [], _ => by simp
  | x :: es, hl => by
    rw [List.flatten_cons, List.length_append, hl x (by simp), flat_len fun e he => hl e (by simp [he]), List.length_cons, Nat.succ_mul]; omega

/-- Block b holds the elements, one behind the other. -/
structure Ow (h : AHeap) (b esz : Nat) (es : List (List Value)) : Prop where
  get : h.own.get b = some (.cells es.flatten)
  len : ∀ e ∈ es, e.length = esz
  lt : b < h.next

theorem Ow.at_ {h : AHeap} {b esz : Nat} {es : List (List Value)} (o : Ow h b esz es) {W : World} {i j : Nat} {e : List Value} {u : Value} (hi : es[i]? = some e) (hu : e[j]? = some u) : aload1 W h ⟨b, i * esz + j, some 0⟩ = some u := by
  have hj : j < esz := by rw [← o.len e (List.mem_of_getElem? hi)]; exact (List.getElem?_eq_some_iff.1 hu).1
  rw [aload1_own, o.get]
  simp only
  rw [flat_get o.len hi hj, hu]

theorem Ow.sl {W : World} {h : AHeap} {b esz : Nat} {es : List (List Value)} (o : Ow h b esz es) : Sl W h esz (.slice (some ⟨b, 0, some 0⟩) es.length esz) es :=
  ⟨some ⟨b, 0, some 0⟩, esz, rfl, fun b' hb' => by
    cases hb'
    refine ⟨.inr (.inr ⟨rfl, rfl⟩), fun i x hx => ⟨o.len x (List.mem_of_getElem? hx), fun j u hu => ⟨?_, fun _ => o.lt⟩⟩⟩
    have := o.at_ (W := W) hx hu
    simpa [aadd] using this, fun h => by cases h⟩

theorem Ow.keeps {h h' : AHeap} {b esz : Nat} {es : List (List Value)} (o : Ow h b esz es) (k : Keeps h h') : Ow h' b esz es :=
  ⟨by rw [k.same _ o.lt]; exact o.get, o.len, Nat.lt_of_lt_of_le o.lt k.le⟩
theorem Ow.same {h h' : AHeap} {b esz : Nat} {es : List (List Value)} (o : Ow h b esz es) (hg : h'.own.get b = h.own.get b) (hn : h.next ≤ h'.next) : Ow h' b esz es :=
  ⟨by rw [hg]; exact o.get, o.len, Nat.lt_of_lt_of_le o.lt hn⟩

theorem Ow.put {h : AHeap} {b esz : Nat} {es : List (List Value)} (o : Ow h b esz es) {i j : Nat} {e vs : List Value} (hi : es[i]? = some e) (hj : j + vs.length ≤ esz) :
    splice es.flatten (i * esz + j) vs = (es.set i (splice e j vs)).flatten ∧ Ow (h.put b (.cells (es.set i (splice e j vs)).flatten)) b esz (es.set i (splice e j vs)) := by
  refine ⟨flat_splice o.len hi hj, by rw [AHeap.put_get, if_pos rfl], fun x hx => ?_, o.lt⟩
  rcases List.mem_or_eq_of_mem_set hx with hx | rfl
  · exact o.len x hx
  · have := o.len e (List.mem_of_getElem? hi)
    rw [splice_len (by omega)]; exact this

theorem idx_own {b n esz i : Nat} (hi : i < n) : idxV esz (.slice (some ⟨b, 0, some 0⟩) n esz) (.int .i64 i) = some (.pointer (some ⟨b, i * esz, some 0⟩)) := by
  unfold idxV
  simp [hi, aadd]

theorem aloadN_own {W : World} {h : AHeap} {b esz : Nat} {es : List (List Value)} (o : Ow h b esz es) : aloadN W h ⟨b, 0, some 0⟩ (es.length * esz) = some es.flatten := by
  rw [← flat_len o.len]
  refine aloadN_of _ _ fun j u hu => ⟨?_, fun _ => o.lt⟩
  simp [aadd, aload1, o.get, hu]

/-- A list variable: nothing yet, or an own list in a block from N on. -/
def OwnV (N : Nat) (h : AHeap) (a : Option Addr) (c esz : Nat) (es : List (List Value)) : Prop :=
  (a = none ∧ c = 0 ∧ es = []) ∨ ∃ b, a = some ⟨b, 0, some 0⟩ ∧ c = esz ∧ N ≤ b ∧ Ow h b esz es
/-- It does not lie in block i. -/
def NotIn (a : Option Addr) (i : Nat) : Prop := ∀ x, a = some x → x.block ≠ i

theorem OwnV.nil (N : Nat) (h : AHeap) (esz : Nat) : OwnV N h none 0 esz [] := .inl ⟨rfl, rfl, rfl⟩
theorem OwnV.keeps {N : Nat} {h h' : AHeap} {a : Option Addr} {c esz : Nat} {es : List (List Value)} (o : OwnV N h a c esz es) (k : Keeps h h') : OwnV N h' a c esz es := by
  rcases o with o | ⟨b, h1, h2, h3, h4⟩
  · exact .inl o
  · exact .inr ⟨b, h1, h2, h3, h4.keeps k⟩
theorem OwnV.base {N M : Nat} {h : AHeap} {a : Option Addr} {c esz : Nat} {es : List (List Value)} (o : OwnV N h a c esz es) (k : M ≤ N) : OwnV M h a c esz es := by
  rcases o with o | ⟨b, h1, h2, h3, h4⟩
  · exact .inl o
  · exact .inr ⟨b, h1, h2, Nat.le_trans k h3, h4⟩
theorem OwnV.same {N : Nat} {h h' : AHeap} {a : Option Addr} {c esz : Nat} {es : List (List Value)} (o : OwnV N h a c esz es) (hg : ∀ i, N ≤ i → i < h.next → h'.own.get i = h.own.get i) (hn : h.next ≤ h'.next) : OwnV N h' a c esz es := by
  rcases o with o | ⟨b, h1, h2, h3, h4⟩
  · exact .inl o
  · exact .inr ⟨b, h1, h2, h3, h4.same (hg _ h3 h4.lt) hn⟩
theorem OwnV.notNew {N : Nat} {h : AHeap} {a : Option Addr} {c esz : Nat} {es : List (List Value)} (o : OwnV N h a c esz es) {i : Nat} (hi : h.next ≤ i) : NotIn a i := fun x hx => by
  rcases o with ⟨o, _⟩ | ⟨b, h1, h2, h3, h4⟩
  · rw [o] at hx; cases hx
  · rw [h1] at hx; cases hx; have := h4.lt; show b ≠ i; omega
theorem OwnV.notOld {N : Nat} {h : AHeap} {a : Option Addr} {c esz : Nat} {es : List (List Value)} (o : OwnV N h a c esz es) {i : Nat} (hi : i < N) : NotIn a i := fun x hx => by
  rcases o with ⟨o, _⟩ | ⟨b, h1, h2, h3, h4⟩
  · rw [o] at hx; cases hx
  · rw [h1] at hx; cases hx; show b ≠ i; omega
theorem OwnV.sl {W : World} {N : Nat} {h : AHeap} {a : Option Addr} {c esz : Nat} {es : List (List Value)} (o : OwnV N h a c esz es) : Sl W h esz (.slice a es.length c) es := by
  rcases o with ⟨rfl, rfl, rfl⟩ | ⟨b, rfl, rfl, _, h4⟩
  · exact ⟨none, 0, rfl, (fun b hb => by cases hb), fun _ => ⟨rfl, rfl⟩⟩
  · exact h4.sl

/-- One element more. -/
theorem OwnV.app {W : World} {N : Nat} {h0 h : AHeap} {a : Option Addr} {c esz b' : Nat} {es : List (List Value)} {e : List Value} (o : OwnV N h a c esz es) (k : Keeps h0 h) (k1 : h0.next ≤ N) (k2 : N ≤ h.next) (hb : h.own.get b' = some (.cells e)) (hb' : b' < h.next) (he : e.length = esz)
    (h1 : e.all oneV = true) (hs : es.length + 1 ≤ 1073741824) :
    ∃ a' c' h', appA W h esz (.slice a es.length c) (.slice (some ⟨b', 0, some 0⟩) 1 esz) = some (.slice a' (es ++ [e]).length c', h') ∧ OwnV N h' a' c' esz (es ++ [e]) ∧ Keeps h0 h' ∧ h'.next = h.next + 1 ∧
      (∀ i, i < h.next → NotIn a i → h'.own.get i = h.own.get i) ∧ (∀ i, i < h.next → NotIn a' i) := by
  have hO : Ow h b' esz [e] := ⟨by simpa using hb, fun x hx => by simp at hx; subst hx; exact he, hb'⟩
  have hld := aloadN_own (W := W) hO
  simp only [List.length_singleton, List.flatten_cons, List.flatten_nil, List.append_nil] at hld
  have hnews : newsOf W h esz (.slice (some ⟨b', 0, some 0⟩) 1 esz) = some (1, e) := by
    unfold newsOf
    simp only [Option.isNone_some, Bool.false_or, Nat.beq_refl, cond_true, hld, Option.map_some]
  rcases o with ⟨rfl, rfl, rfl⟩ | ⟨b, rfl, rfl, h3, h4⟩
  · refine ⟨some ⟨h.next, 0, some 0⟩, esz, h.new (.cells e), ?_, .inr ⟨h.next, rfl, rfl, k2, ?_, ?_, ?_⟩, k.new _, rfl, fun i hi _ => by rw [AHeap.new_get, if_neg (by omega)], fun i hi x hx => by cases hx; show h.next ≠ i; omega⟩
    · unfold appA
      simp only [hnews, List.length_nil, Nat.zero_add, Nat.reduceLeDiff, h1, Bool.and_true, oS, oA, List.nil_append, List.length_cons]
      rfl
    · rw [AHeap.new_get, if_pos rfl]; simp
    · intro x hx; simp at hx; subst hx; exact he
    · rw [AHeap.new_next]; omega
  · have hold := aloadN_own (W := W) h4
    refine ⟨some ⟨h.next, 0, some 0⟩, c, (h.put b .dead).new (.cells (es ++ [e]).flatten), ?_, .inr ⟨h.next, rfl, rfl, k2, ?_, ?_, ?_⟩, (k.put (Nat.le_trans k1 h3) _).new _, rfl, fun i hi hn => ?_, fun i hi x hx => by cases hx; show h.next ≠ i; omega⟩
    · unfold appA
      simp only [hnews, Nat.beq_refl, cond_true, hold, h4.get, Nat.ble_eq_true_of_le hs, h1, Bool.and_true, oS, oA, List.length_append, List.length_singleton, List.flatten_append, List.flatten_cons, List.flatten_nil, List.append_nil, Nat.zero_add, Nat.reduceAdd]
    · rw [AHeap.new_get, AHeap.put_next, if_pos rfl]
    · intro x hx
      rcases List.mem_append.1 hx with hx | hx
      · exact h4.len x hx
      · simp at hx; subst hx; exact he
    · rw [AHeap.new_next, AHeap.put_next]; omega
    · rw [AHeap.new_get, AHeap.put_next, if_neg (by omega), AHeap.put_get, if_neg]
      have := hn _ rfl
      intro e; exact this e.symm
end Go.Mach
