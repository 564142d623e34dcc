/- The abstract machine, part 25: own lists of elements of one size: reading, writing, appending. No condition.
Merged from 4 texts. -/
import Derived.Test.YtlipmjpapkfaeaaGreatDoorZC8
section
set_option linter.unusedSimpArgs false
set_option linter.unusedVariables false
namespace Go.Mach
open Go Go.RowKit

theorem splice_cons0 (a b : Value) (l vs : List Value) : splice (a :: l) 0 (b :: vs) = b :: splice l 0 vs := by simp [splice]
theorem splice_nil0 (l : List Value) : splice l 0 [] = l := by simp [splice]
theorem splice_succ (a : Value) (l vs : List Value) (n : Nat) : splice (a :: l) (n + 1) vs = a :: splice l n vs := by
  simp [splice, Nat.add_right_comm n 1]
theorem BS : type_of% splice_cons0 ∧ type_of% splice_nil0 ∧ type_of% splice_succ := ⟨splice_cons0, splice_nil0, splice_succ⟩

theorem splice_len {l vs : List Value} {o : Nat} (h : o + vs.length ≤ l.length) : (splice l o vs).length = l.length := by
  simp [splice]; omega
theorem splice_left {a b vs : List Value} {o : Nat} (h : o + vs.length ≤ a.length) : splice (a ++ b) o vs = splice a o vs ++ b := by
  unfold splice
  rw [List.take_append_of_le_length (by omega), List.drop_append_of_le_length h]
  simp [List.append_assoc]
theorem splice_right {a b vs : List Value} {o : Nat} : splice (a ++ b) (a.length + o) vs = a ++ splice b o vs := by
  unfold splice
  rw [List.take_length_add_append, Nat.add_assoc, List.drop_length_add_append]
  simp [List.append_assoc]

theorem flat_get {esz : Nat} : ∀ {es : List (List Value)} {i j : Nat} {e : List Value}, (∀ e ∈ es, e.length = esz) → es[i]? = some e → j < esz → es.flatten[i * esz + j]? = e[j]?
  | [], i, j, e, _, h, _ => by simp at h
  | x :: es, 0, j, e, hl, h, hj => by
    simp at h; subst h
    rw [List.flatten_cons, Nat.zero_mul, Nat.zero_add, List.getElem?_append_left (by rw [hl x (by simp)]; exact hj)]
  | x :: es, i + 1, j, e, hl, h, hj => by
    have hx := hl x (by simp)
    rw [List.flatten_cons, List.getElem?_append_right (by rw [hx, Nat.succ_mul]; omega), hx, show (i + 1) * esz + j - esz = i * esz + j by rw [Nat.succ_mul]; omega]
    exact flat_get (fun e he => hl e (by simp [he])) (by simpa using h) hj

theorem flat_splice {esz : Nat} {vs : List Value} : ∀ {es : List (List Value)} {i j : Nat} {e : List Value}, (∀ e ∈ es, e.length = esz) → es[i]? = some e → j + vs.length ≤ esz → splice es.flatten (i * esz + j) vs = (es.set i (splice e j vs)).flatten
  | [], i, j, e, _, h, _ => by simp at h
  | x :: es, 0, j, e, hl, h, hj => by
    simp at h; subst h
    have hx := hl x (by simp)
    rw [List.flatten_cons, Nat.zero_mul, Nat.zero_add, splice_left (by omega), List.set_cons_zero, List.flatten_cons]
  | x :: es, i + 1, j, e, hl, h, hj => by
    have hx := hl x (by simp)
    rw [List.flatten_cons, show (i + 1) * esz + j = x.length + (i * esz + j) by rw [Nat.succ_mul, hx]; omega, splice_right, List.set_cons_succ, List.flatten_cons,
      flat_splice (fun e he => hl e (by simp [he])) (by simpa using h) hj]

theorem flat_len {esz : Nat} : ∀ {es : List (List Value)}, (∀ e ∈ es, e.length = esz) → es.flatten.length = es.length * esz
  | [], _ => by simp
  | x :: es, hl => by
    rw [List.flatten_cons, List.length_append, hl x (by simp), flat_len fun e he => hl e (by simp [he]), List.length_cons, Nat.succ_mul]; omega

/-- Block b holds the elements, one behind the other. -/
structure Ow (h : AHeap) (b esz : Nat) (es : List (List Value)) : Prop where
  get : h.own.get b = some (.cells es.flatten)
  len : ∀ e ∈ es, e.length = esz
  lt : b < h.next

theorem Ow.at_ {h : AHeap} {b esz : Nat} {es : List (List Value)} (o : Ow h b esz es) {W : World} {i j : Nat} {e : List Value} {u : Value} (hi : es[i]? = some e) (hu : e[j]? = some u) : aload1 W h ⟨b, i * esz + j, some 0⟩ = some u := by
  have hj : j < esz := by rw [← o.len e (List.mem_of_getElem? hi)]; exact (List.getElem?_eq_some_iff.1 hu).1
  rw [aload1_own, o.get]
  simp only
  rw [flat_get o.len hi hj, hu]

theorem Ow.sl {W : World} {h : AHeap} {b esz : Nat} {es : List (List Value)} (o : Ow h b esz es) : Sl W h esz (.slice (some ⟨b, 0, some 0⟩) es.length esz) es :=
  ⟨some ⟨b, 0, some 0⟩, esz, rfl, fun b' hb' => by
    cases hb'
    refine ⟨.inr (.inr ⟨rfl, rfl⟩), fun i x hx => ⟨o.len x (List.mem_of_getElem? hx), fun j u hu => ⟨?_, fun _ => o.lt⟩⟩⟩
    have := o.at_ (W := W) hx hu
    simpa [aadd] using this, fun h => by cases h⟩

theorem Ow.keeps {h h' : AHeap} {b esz : Nat} {es : List (List Value)} (o : Ow h b esz es) (k : Keeps h h') : Ow h' b esz es :=
  ⟨by rw [k.same _ o.lt]; exact o.get, o.len, Nat.lt_of_lt_of_le o.lt k.le⟩
theorem Ow.same {h h' : AHeap} {b esz : Nat} {es : List (List Value)} (o : Ow h b esz es) (hg : h'.own.get b = h.own.get b) (hn : h.next ≤ h'.next) : Ow h' b esz es :=
  ⟨by rw [hg]; exact o.get, o.len, Nat.lt_of_lt_of_le o.lt hn⟩

theorem Ow.put {h : AHeap} {b esz : Nat} {es : List (List Value)} (o : Ow h b esz es) {i j : Nat} {e vs : List Value} (hi : es[i]? = some e) (hj : j + vs.length ≤ esz) :
    splice es.flatten (i * esz + j) vs = (es.set i (splice e j vs)).flatten ∧ Ow (h.put b (.cells (es.set i (splice e j vs)).flatten)) b esz (es.set i (splice e j vs)) := by
  refine ⟨flat_splice o.len hi hj, by rw [AHeap.put_get, if_pos rfl], fun x hx => ?_, o.lt⟩
  rcases List.mem_or_eq_of_mem_set hx with hx | rfl
  · exact o.len x hx
  · have := o.len e (List.mem_of_getElem? hi)
    rw [splice_len (by omega)]; exact this

theorem idx_own {b n esz i : Nat} (hi : i < n) : idxV esz (.slice (some ⟨b, 0, some 0⟩) n esz) (.int .i64 i) = some (.pointer (some ⟨b, i * esz, some 0⟩)) := by
  unfold idxV
  simp [hi, aadd]

theorem aloadN_own {W : World} {h : AHeap} {b esz : Nat} {es : List (List Value)} (o : Ow h b esz es) : aloadN W h ⟨b, 0, some 0⟩ (es.length * esz) = some es.flatten := by
  rw [← flat_len o.len]
  refine aloadN_of _ _ fun j u hu => ⟨?_, fun _ => o.lt⟩
  simp [aadd, aload1, o.get, hu]

/-- A list variable: nothing yet, or an own list in a block from N on. -/
def OwnV (N : Nat) (h : AHeap) (a : Option Addr) (c esz : Nat) (es : List (List Value)) : Prop :=
  (a = none ∧ c = 0 ∧ es = []) ∨ ∃ b, a = some ⟨b, 0, some 0⟩ ∧ c = esz ∧ N ≤ b ∧ Ow h b esz es
/-- It does not lie in block i. -/
def NotIn (a : Option Addr) (i : Nat) : Prop := ∀ x, a = some x → x.block ≠ i

theorem OwnV.nil (N : Nat) (h : AHeap) (esz : Nat) : OwnV N h none 0 esz [] := .inl ⟨rfl, rfl, rfl⟩
theorem OwnV.keeps {N : Nat} {h h' : AHeap} {a : Option Addr} {c esz : Nat} {es : List (List Value)} (o : OwnV N h a c esz es) (k : Keeps h h') : OwnV N h' a c esz es := by
  rcases o with o | ⟨b, h1, h2, h3, h4⟩
  · exact .inl o
  · exact .inr ⟨b, h1, h2, h3, h4.keeps k⟩
theorem OwnV.base {N M : Nat} {h : AHeap} {a : Option Addr} {c esz : Nat} {es : List (List Value)} (o : OwnV N h a c esz es) (k : M ≤ N) : OwnV M h a c esz es := by
  rcases o with o | ⟨b, h1, h2, h3, h4⟩
  · exact .inl o
  · exact .inr ⟨b, h1, h2, Nat.le_trans k h3, h4⟩
theorem OwnV.same {N : Nat} {h h' : AHeap} {a : Option Addr} {c esz : Nat} {es : List (List Value)} (o : OwnV N h a c esz es) (hg : ∀ i, N ≤ i → i < h.next → h'.own.get i = h.own.get i) (hn : h.next ≤ h'.next) : OwnV N h' a c esz es := by
  rcases o with o | ⟨b, h1, h2, h3, h4⟩
  · exact .inl o
  · exact .inr ⟨b, h1, h2, h3, h4.same (hg _ h3 h4.lt) hn⟩
theorem OwnV.notNew {N : Nat} {h : AHeap} {a : Option Addr} {c esz : Nat} {es : List (List Value)} (o : OwnV N h a c esz es) {i : Nat} (hi : h.next ≤ i) : NotIn a i := fun x hx => by
  rcases o with ⟨o, _⟩ | ⟨b, h1, h2, h3, h4⟩
  · rw [o] at hx; cases hx
  · rw [h1] at hx; cases hx; have := h4.lt; show b ≠ i; omega
theorem OwnV.notOld {N : Nat} {h : AHeap} {a : Option Addr} {c esz : Nat} {es : List (List Value)} (o : OwnV N h a c esz es) {i : Nat} (hi : i < N) : NotIn a i := fun x hx => by
  rcases o with ⟨o, _⟩ | ⟨b, h1, h2, h3, h4⟩
  · rw [o] at hx; cases hx
  · rw [h1] at hx; cases hx; show b ≠ i; omega
theorem OwnV.sl {W : World} {N : Nat} {h : AHeap} {a : Option Addr} {c esz : Nat} {es : List (List Value)} (o : OwnV N h a c esz es) : Sl W h esz (.slice a es.length c) es := by
  rcases o with ⟨rfl, rfl, rfl⟩ | ⟨b, rfl, rfl, _, h4⟩
  · exact ⟨none, 0, rfl, (fun b hb => by cases hb), fun _ => ⟨rfl, rfl⟩⟩
  · exact h4.sl

/-- One element more. -/
theorem OwnV.app {W : World} {N : Nat} {h0 h : AHeap} {a : Option Addr} {c esz b' : Nat} {es : List (List Value)} {e : List Value} (o : OwnV N h a c esz es) (k : Keeps h0 h) (k1 : h0.next ≤ N) (k2 : N ≤ h.next) (hb : h.own.get b' = some (.cells e)) (hb' : b' < h.next) (he : e.length = esz)
    (h1 : e.all oneV = true) (hs : es.length + 1 ≤ 1073741824) :
    ∃ a' c' h', appA W h esz (.slice a es.length c) (.slice (some ⟨b', 0, some 0⟩) 1 esz) = some (.slice a' (es ++ [e]).length c', h') ∧ OwnV N h' a' c' esz (es ++ [e]) ∧ Keeps h0 h' ∧ h'.next = h.next + 1 ∧
      (∀ i, i < h.next → NotIn a i → h'.own.get i = h.own.get i) ∧ (∀ i, i < h.next → NotIn a' i) := by
  have hO : Ow h b' esz [e] := ⟨by simpa using hb, fun x hx => by simp at hx; subst hx; exact he, hb'⟩
  have hld := aloadN_own (W := W) hO
  simp only [List.length_singleton, List.flatten_cons, List.flatten_nil, List.append_nil] at hld
  have hnews : newsOf W h esz (.slice (some ⟨b', 0, some 0⟩) 1 esz) = some (1, e) := by
    unfold newsOf
    simp only [Option.isNone_some, Bool.false_or, Nat.beq_refl, cond_true, hld, Option.map_some]
  rcases o with ⟨rfl, rfl, rfl⟩ | ⟨b, rfl, rfl, h3, h4⟩
  · refine ⟨some ⟨h.next, 0, some 0⟩, esz, h.new (.cells e), ?_, .inr ⟨h.next, rfl, rfl, k2, ?_, ?_, ?_⟩, k.new _, rfl, fun i hi _ => by rw [AHeap.new_get, if_neg (by omega)], fun i hi x hx => by cases hx; show h.next ≠ i; omega⟩
    · unfold appA
      simp only [hnews, List.length_nil, Nat.zero_add, Nat.reduceLeDiff, h1, Bool.and_true, oS, oA, List.nil_append, List.length_cons]
      rfl
    · rw [AHeap.new_get, if_pos rfl]; simp
    · intro x hx; simp at hx; subst hx; exact he
    · rw [AHeap.new_next]; omega
  · have hold := aloadN_own (W := W) h4
    refine ⟨some ⟨h.next, 0, some 0⟩, c, (h.put b .dead).new (.cells (es ++ [e]).flatten), ?_, .inr ⟨h.next, rfl, rfl, k2, ?_, ?_, ?_⟩, (k.put (Nat.le_trans k1 h3) _).new _, rfl, fun i hi hn => ?_, fun i hi x hx => by cases hx; show h.next ≠ i; omega⟩
    · unfold appA
      simp only [hnews, Nat.beq_refl, cond_true, hold, h4.get, Nat.ble_eq_true_of_le hs, h1, Bool.and_true, oS, oA, List.length_append, List.length_singleton, List.flatten_append, List.flatten_cons, List.flatten_nil, List.append_nil, Nat.zero_add, Nat.reduceAdd]
    · rw [AHeap.new_get, AHeap.put_next, if_pos rfl]
    · intro x hx
      rcases List.mem_append.1 hx with hx | hx
      · exact h4.len x hx
      · simp at hx; subst hx; exact he
    · rw [AHeap.new_next, AHeap.put_next]; omega
    · rw [AHeap.new_get, AHeap.put_next, if_neg (by omega), AHeap.put_get, if_neg]
      have := hn _ rfl
      intro e; exact this e.symm
end Go.Mach
end
section
set_option linter.unusedSimpArgs false
set_option linter.unusedVariables false
namespace Go.Mach
open Go Go.RowKit

/-- Two list variables lie in different blocks. -/
def Apart (a a' : Option Addr) : Prop := ∀ x y, a = some x → a' = some y → x.block ≠ y.block
theorem Apart.symm {a a' : Option Addr} (h : Apart a a') : Apart a' a := fun x y hx hy e => h y x hy hx e.symm
theorem Apart.none_l (a : Option Addr) : Apart none a := fun x y hx => by cases hx
theorem Apart.none_r (a : Option Addr) : Apart a none := fun x y _ hy => by cases hy

theorem OwnV.lt {N : Nat} {h : AHeap} {a : Option Addr} {c esz : Nat} {es : List (List Value)} (o : OwnV N h a c esz es) {x : Addr} (hx : a = some x) : N ≤ x.block ∧ x.block < h.next := by
  rcases o with ⟨o, _⟩ | ⟨b, h1, h2, h3, h4⟩
  · rw [o] at hx; cases hx
  · rw [h1] at hx; cases hx; exact ⟨h3, h4.lt⟩

/-- One list is written or grows: another one, apart from it, stays. -/
theorem OwnV.other {N : Nat} {h h' : AHeap} {a a' : Option Addr} {c esz : Nat} {es : List (List Value)} (o : OwnV N h a c esz es) (hsame : ∀ i, i < h.next → NotIn a' i → h'.own.get i = h.own.get i) (hn : h.next ≤ h'.next) (hap : Apart a a') : OwnV N h' a c esz es := by
  rcases o with o | ⟨b, h1, h2, h3, h4⟩
  · exact .inl o
  · exact .inr ⟨b, h1, h2, h3, h4.same (hsame b h4.lt fun y hy => fun e => hap _ _ h1 hy e.symm) hn⟩
theorem OwnV.apartNew {N : Nat} {h : AHeap} {a a' : Option Addr} {c esz : Nat} {es : List (List Value)} (o : OwnV N h a c esz es) (hnew : ∀ i, i < h.next → NotIn a' i) : Apart a a' := fun x y hx hy => by
  have := (o.lt hx).2
  exact fun e => hnew x.block this y hy e.symm

/-- All that g holds lies in h. -/
structure Sub (g h : AHeap) : Prop where
  le : g.next ≤ h.next
  same : ∀ i b, g.own.get i = some b → i < h.next ∧ h.own.get i = some b

theorem Sub.trans {a b c : AHeap} (h : Sub a b) (k : Sub b c) : Sub a c := ⟨Nat.le_trans h.le k.le, fun i x hx => k.same i x (h.same i x hx).2⟩
theorem Sub.keeps {g h h' : AHeap} (s : Sub g h) (k : Keeps h h') : Sub g h' :=
  ⟨Nat.le_trans s.le k.le, fun i b hb => ⟨Nat.lt_of_lt_of_le (s.same i b hb).1 k.le, by rw [k.same i (s.same i b hb).1]; exact (s.same i b hb).2⟩⟩
theorem Sub.new {g h : AHeap} (s : Sub g h) (b : ABlk) : Sub g (h.new b) := s.keeps ((Keeps.refl h).new b)
theorem Sub.put {g h : AHeap} (s : Sub g h) {j : Nat} (hj : g.own.get j = none) (b : ABlk) : Sub g (h.put j b) :=
  ⟨s.le, fun i x hx => ⟨(s.same i x hx).1, by
    rw [AHeap.put_get, if_neg (fun e => by rw [e, hj] at hx; cases hx)]; exact (s.same i x hx).2⟩⟩
theorem Sub.step {g h h' : AHeap} {a : Option Addr} (s : Sub g h) (hsame : ∀ i, i < h.next → NotIn a i → h'.own.get i = h.own.get i) (hn : h.next ≤ h'.next) (ha : ∀ x, a = some x → g.own.get x.block = none) : Sub g h' :=
  ⟨Nat.le_trans s.le hn, fun i x hx => ⟨Nat.lt_of_lt_of_le (s.same i x hx).1 hn, by
    rw [hsame i (s.same i x hx).1 fun y hy e => by rw [← e, ha y hy] at hx; cases hx]; exact (s.same i x hx).2⟩⟩

theorem Rd.sub {W : World} {g h : AHeap} {a : Addr} {v : Value} (hr : Rd W g a v) (s : Sub g h) : Rd W h a v := by
  obtain ⟨h1, h2⟩ := hr
  refine ⟨?_, fun hs => Nat.lt_of_lt_of_le (h2 hs) s.le⟩
  unfold aload1 at *
  cases hs : a.spot with
  | none => simp only [hs] at h1 ⊢; exact h1
  | some q =>
    simp only [hs] at h1 ⊢
    cases hg : g.own.get a.block with
    | none => rw [hg] at h1; cases h1
    | some b => rw [(s.same _ _ hg).2]; rw [hg] at h1; exact h1

theorem Sl.sub {W : World} {g h : AHeap} {esz : Nat} {v : Value} {l : List (List Value)} (hs : Sl W g esz v l) (s : Sub g h) : Sl W h esz v l := by
  obtain ⟨a, c, h1, h2, h3⟩ := hs.is
  exact ⟨a, c, h1, fun b hb => ⟨(h2 b hb).1, fun i x hx => ⟨((h2 b hb).2 i x hx).1, fun j u hu => (((h2 b hb).2 i x hx).2 j u hu).sub s⟩⟩, h3⟩

/-- A list is done: it joins what stays. -/
theorem Sub.freeze {g h : AHeap} (s : Sub g h) {b esz : Nat} {es : List (List Value)} (o : Ow h b esz es) :
    ∃ g', Sub g' h ∧ (∀ i, g'.own.get i = none ↔ (g.own.get i = none ∧ i ≠ b)) ∧ Ow g' b esz es ∧ (g.own.get b = none → Sub g g') := by
  refine ⟨⟨g.own.set b (.cells es.flatten), h.next⟩, ⟨Nat.le_refl _, fun i x hx => ?_⟩, fun i => ?_, ⟨?_, o.len, o.lt⟩, fun hb => ⟨s.le, fun i x hx => ?_⟩⟩
  · simp only [Tr.get_set] at hx
    by_cases hi : i = b
    · subst hi; rw [if_pos rfl] at hx; cases hx; exact ⟨o.lt, o.get⟩
    · rw [if_neg hi] at hx; exact s.same i x hx
  · simp only [Tr.get_set]
    by_cases hi : i = b
    · simp [hi]
    · simp [hi]
  · simp only [Tr.get_set, if_true]
  · refine ⟨(s.same i x hx).1, ?_⟩
    simp only [Tr.get_set]
    rw [if_neg (fun e => by rw [e, hb] at hx; cases hx)]; exact hx

/-! ### lists of arcs -/
theorem arcV_len (x : Arc3) : (arcV x).length = 3 := rfl

/-- The last arc is read, its end is written. -/
theorem Ow.lastArc {h : AHeap} {b : Nat} {l0 : List Arc3} {f' t' s' : Int} (o : Ow h b 3 ((l0 ++ [(f', t', s')]).map arcV)) (t : Int) :
    ∃ C, h.own.get b = some (.cells C) ∧ C[l0.length * 3 + 1]? = some (.int .i32 t') ∧ C[l0.length * 3 + 2]? = some (.int .i64 s') ∧ Nat.ble (l0.length * 3 + 2) C.length = true ∧
      ∃ C2, splice C (l0.length * 3 + 1) [.int .i32 t] = C2 ∧ Ow (h.put b (.cells C2)) b 3 ((l0 ++ [(f', t, s')]).map arcV) := by
  have hi : ((l0 ++ [(f', t', s')]).map arcV)[l0.length]? = some (arcV (f', t', s')) := by simp
  obtain ⟨hsp, o2⟩ := o.put (vs := [.int .i32 t]) hi (j := 1) (by simp)
  refine ⟨_, o.get, ?_, ?_, ?_, _, hsp, ?_⟩
  · rw [flat_get o.len hi (by omega)]; rfl
  · rw [flat_get o.len hi (by omega)]; rfl
  · rw [flat_len o.len]; refine Nat.ble_eq_true_of_le ?_; simp; omega
  · have e : ((l0 ++ [(f', t', s')]).map arcV).set l0.length (splice (arcV (f', t', s')) 1 [.int .i32 t]) = (l0 ++ [(f', t, s')]).map arcV := by
      rw [List.map_append, List.set_append_right _ _ (by simp)]
      simp [arcV, splice]
    rw [e] at o2 ⊢; exact o2

/-- An arc is added: it lengthens the last one, or stands behind it. -/
def addArc (l : List Arc3) (x : Arc3) : List Arc3 := match l.getLast? with
  | some y => if y.2.1 + 1 = x.1 ∧ y.2.2 = x.2.2 then l.dropLast ++ [(y.1, x.2.1, y.2.2)] else l ++ [x]
  | none => l ++ [x]
theorem addArc_nil (x : Arc3) : addArc [] x = [x] := rfl
theorem addArc_join {l : List Arc3} {f' t' s' : Int} {x : Arc3} (h1 : t' + 1 = x.1) (h2 : s' = x.2.2) : addArc (l ++ [(f', t', s')]) x = l ++ [(f', x.2.1, s')] := by
  simp [addArc, h1, h2]
theorem addArc_new {l : List Arc3} {f' t' s' : Int} {x : Arc3} (h : ¬ (t' + 1 = x.1 ∧ s' = x.2.2)) : addArc (l ++ [(f', t', s')]) x = (l ++ [(f', t', s')]) ++ [x] := by
  simp only [addArc, List.getLast?_append, List.getLast?_singleton, Option.some_or]
  rw [if_neg h]
theorem last_or (l : List Arc3) : l = [] ∨ ∃ l0 f t s, l = l0 ++ [(f, t, s)] := by
  rcases List.eq_nil_or_concat l with h | ⟨l0, ⟨f, t, s⟩, h⟩
  · exact .inl h
  · exact .inr ⟨l0, f, t, s, by simpa using h⟩

/-! ### lists of numbers -/
def numV (k : Int) : List Value := [.int .i64 k]
end Go.Mach
end
section
set_option linter.unusedSimpArgs false
set_option linter.unusedVariables false
set_option linter.unusedSectionVars false
namespace Go.Mach
open Go Go.RowKit

section
variable {α : Type} [DecidableEq α]

/-- The entries of a map that numbers the keys of a list. -/
def mapFrom (enc : α → Value) : Nat → List α → List (Value × Value)
  | _, [] => []
  | i, k :: ks => (enc k, .int .i64 (i : Nat)) :: mapFrom enc (i + 1) ks

theorem mapFrom_append (enc : α → Value) : ∀ (ks : List α) (i : Nat) (k : α), mapFrom enc i (ks ++ [k]) = mapFrom enc i ks ++ [(enc k, .int .i64 ((i + ks.length : Nat) : Int))]
  | [], i, k => rfl
  | x :: ks, i, k => by
    simp only [List.cons_append, mapFrom, mapFrom_append enc ks (i + 1) k, List.length_cons]
    rw [show i + 1 + ks.length = i + (ks.length + 1) by omega]
theorem mapFrom_len (enc : α → Value) : ∀ (ks : List α) (i : Nat), (mapFrom enc i ks).length = ks.length
  | [], i => rfl
  | x :: ks, i => by simp [mapFrom, mapFrom_len enc ks (i + 1)]

/-- The keys are told apart. -/
structure Keyed (e : EqTy) (enc : α → Value) : Prop where
  good : ∀ k, goodKey e (enc k) = true
  eq : ∀ a b, keq e (enc a) (enc b) = some (decide (a = b))

theorem findK_from {e : EqTy} {enc : α → Value} (K : Keyed e enc) (k : α) : ∀ (ks : List α) (i j : Nat), findK e (enc k) (mapFrom enc i ks) j = some (if k ∈ ks then some (j + ks.idxOf k, .int .i64 ((i + ks.idxOf k : Nat) : Int)) else none)
  | [], i, j => by simp [mapFrom, findK]
  | x :: ks, i, j => by
    simp only [mapFrom, findK, K.eq]
    by_cases h : k = x
    · subst h; simp
    · simp only [h, decide_false]
      rw [findK_from K k ks (i + 1) (j + 1)]
      have hx : x ≠ k := fun e => h e.symm
      by_cases hk : k ∈ ks
      · have hi : (x :: ks).idxOf k = (ks.idxOf k).succ := by rw [List.idxOf_cons, beq_false_of_ne hx]; rfl
        simp only [hk, if_true, List.mem_cons, or_true, hi]
        rw [show j + 1 + ks.idxOf k = j + (ks.idxOf k).succ by omega, show i + 1 + ks.idxOf k = i + (ks.idxOf k).succ by omega]
      · simp [hk, h]

theorem lookup_in {e : EqTy} {enc : α → Value} (K : Keyed e enc) {h : AHeap} {b : Nat} {ks : List α} (hb : h.own.get b = some (.map (mapFrom enc 0 ks))) {k : α} (hk : k ∈ ks) (z : Value) (ok : Bool) :
    lookupV e z h (.map (some b)) (enc k) ok = some (bif ok then .tuple #[.int .i64 (ks.idxOf k : Nat), .bool true] else .int .i64 (ks.idxOf k : Nat)) := by
  unfold lookupV
  simp only [K.good, cond_true, hb, findK_from K, hk, if_true, Nat.zero_add]
theorem lookup_out {e : EqTy} {enc : α → Value} (K : Keyed e enc) {h : AHeap} {b : Nat} {ks : List α} (hb : h.own.get b = some (.map (mapFrom enc 0 ks))) {k : α} (hk : k ∉ ks) (z : Value) (ok : Bool) :
    lookupV e z h (.map (some b)) (enc k) ok = some (bif ok then .tuple #[z, .bool false] else z) := by
  unfold lookupV
  simp only [K.good, cond_true, hb, findK_from K, hk, if_false]
theorem mapUpd_out {e : EqTy} {enc : α → Value} (K : Keyed e enc) {h : AHeap} {b : Nat} {ks : List α} (hb : h.own.get b = some (.map (mapFrom enc 0 ks))) {k : α} (hk : k ∉ ks) :
    mapUpdH e h (.map (some b)) (enc k) (.int .i64 (ks.length : Nat)) = some (h.put b (.map (mapFrom enc 0 (ks ++ [k])))) := by
  unfold mapUpdH
  simp only [K.good, cond_true, hb, findK_from K, hk, if_false, mapFrom_append, Nat.zero_add]
end

def numK (k : Int) : Value := .int .i64 k
theorem keyedNum : Keyed (.sc .i) numK := ⟨fun k => rfl, fun a b => by
  simp only [numK, keq, scEq, decide_true, cond_true, int_beq]⟩

/-- What stays, but for the blocks of M. -/
structure KeepsBut (M : Nat → Prop) (h h' : AHeap) : Prop where
  le : h.next ≤ h'.next
  same : ∀ i, i < h.next → ¬ M i → h'.own.get i = h.own.get i

theorem KeepsBut.refl (M : Nat → Prop) (h : AHeap) : KeepsBut M h h := ⟨Nat.le_refl _, fun _ _ _ => rfl⟩
theorem Keeps.but {h h' : AHeap} (k : Keeps h h') (M : Nat → Prop) : KeepsBut M h h' := ⟨k.le, fun i hi _ => k.same i hi⟩
theorem KeepsBut.trans {M : Nat → Prop} {a b c : AHeap} (h : KeepsBut M a b) (k : KeepsBut M b c) : KeepsBut M a c :=
  ⟨Nat.le_trans h.le k.le, fun i hi hm => (k.same i (Nat.lt_of_lt_of_le hi h.le) hm).trans (h.same i hi hm)⟩
theorem KeepsBut.new {M : Nat → Prop} {a h : AHeap} (k : KeepsBut M a h) (b : ABlk) : KeepsBut M a (h.new b) :=
  ⟨Nat.le_trans k.le (by rw [AHeap.new_next]; omega), fun i hi hm => by rw [AHeap.new_get, if_neg (by have := k.le; omega)]; exact k.same i hi hm⟩
theorem KeepsBut.put {M : Nat → Prop} {a h : AHeap} (k : KeepsBut M a h) {j : Nat} (hj : a.next ≤ j ∨ M j) (b : ABlk) : KeepsBut M a (h.put j b) :=
  ⟨k.le, fun i hi hm => by
    rw [AHeap.put_get, if_neg (fun e => by subst e; rcases hj with hj | hj; · omega
                                           · exact hm hj)]
    exact k.same i hi hm⟩
theorem KeepsBut.keeps {M : Nat → Prop} {a h h' : AHeap} (k : KeepsBut M a h) (k' : Keeps h h') : KeepsBut M a h' := k.trans (k'.but M)
/-- After an append: the list's old block is gone. -/
theorem KeepsBut.step {M : Nat → Prop} {a h h' : AHeap} {x : Option Addr} (k : KeepsBut M a h) (hsame : ∀ i, i < h.next → NotIn x i → h'.own.get i = h.own.get i) (hn : h.next ≤ h'.next) (hx : ∀ y, x = some y → a.next ≤ y.block ∨ M y.block) : KeepsBut M a h' :=
  ⟨Nat.le_trans k.le hn, fun i hi hm => by
    rw [hsame i (Nat.lt_of_lt_of_le hi k.le) fun y hy e => by
      rcases hx y hy with g | g
      · omega
      · rw [e] at g; exact hm g]
    exact k.same i hi hm⟩
theorem KeepsBut.all {M : Nat → Prop} {h0 a h : AHeap} (k0 : Keeps h0 a) (k : KeepsBut M a h) (hM : ∀ i, M i → h0.next ≤ i) : Keeps h0 h :=
  ⟨Nat.le_trans k0.le k.le, fun i hi => (k.same i (Nat.lt_of_lt_of_le hi k0.le) (fun hm => by have := hM i hm; omega)).trans (k0.same i hi)⟩
theorem Sub.but {M : Nat → Prop} {g a h : AHeap} (s : Sub g a) (k : KeepsBut M a h) (hM : ∀ i, M i → g.own.get i = none) : Sub g h :=
  ⟨Nat.le_trans s.le k.le, fun i x hx => ⟨Nat.lt_of_lt_of_le (s.same i x hx).1 k.le, by
    rw [k.same i (s.same i x hx).1 (fun hm => by rw [hM i hm] at hx; cases hx)]; exact (s.same i x hx).2⟩⟩
theorem OwnV.but {M : Nat → Prop} {N : Nat} {a h : AHeap} {x : Option Addr} {c esz : Nat} {es : List (List Value)} (o : OwnV N a x c esz es) (k : KeepsBut M a h) (hM : ∀ y, x = some y → ¬ M y.block) : OwnV N h x c esz es := by
  rcases o with o | ⟨b, h1, h2, h3, h4⟩
  · exact .inl o
  · exact .inr ⟨b, h1, h2, h3, h4.same (k.same b h4.lt (hM _ h1)) k.le⟩

theorem OwnV.sub {N : Nat} {g h : AHeap} {a : Option Addr} {c esz : Nat} {es : List (List Value)} (o : OwnV N g a c esz es) (s : Sub g h) : OwnV N h a c esz es := by
  rcases o with o | ⟨b, h1, h2, h3, h4⟩
  · exact .inl o
  · exact .inr ⟨b, h1, h2, h3, ⟨(s.same _ _ h4.get).2, h4.len, (s.same _ _ h4.get).1⟩⟩

/-- A list is done: it joins what stays. -/
theorem OwnV.freeze {N : Nat} {g h : AHeap} {a : Option Addr} {c esz : Nat} {es : List (List Value)} (o : OwnV N h a c esz es) (s : Sub g h) (hg : ∀ x, a = some x → g.own.get x.block = none) :
    ∃ g', Sub g' h ∧ Sub g g' ∧ OwnV N g' a c esz es ∧ (∀ i, i < N → g.own.get i = none → g'.own.get i = none) ∧ (∀ a2, Apart a a2 → (∀ x, a2 = some x → g.own.get x.block = none) → ∀ x, a2 = some x → g'.own.get x.block = none) := by
  rcases o with ⟨h1, h2, h3⟩ | ⟨b, h1, h2, h3, h4⟩
  · exact ⟨⟨g.own, h.next⟩, ⟨Nat.le_refl _, s.same⟩, ⟨s.le, fun i x hx => ⟨(s.same i x hx).1, hx⟩⟩, .inl ⟨h1, h2, h3⟩, fun i _ h => h, fun a2 _ h => h⟩
  · obtain ⟨g', s1, s2, s3, s4⟩ := s.freeze h4
    exact ⟨g', s1, s4 (hg _ h1), .inr ⟨b, h1, h2, h3, s3⟩, fun i hi hgi => (s2 i).2 ⟨hgi, by omega⟩, fun a2 hap h2 x hx => (s2 _).2 ⟨h2 x hx, fun e => hap _ x h1 hx e.symm⟩⟩

theorem AutoV.sub {W : World} {g h : AHeap} {v : Value} {A : Aut} {vf va : Value} {vs : List Value} (hA : AutoV W g v A vf va vs) (s : Sub g h) : AutoV W h v A vf va vs :=
  ⟨hA.v, hA.f.sub s, hA.a.sub s, hA.l, fun i x l hx hl => (hA.e i x l hx hl).sub s⟩

/-- An automaton in memory that was made from block N on. -/
def FreshA (W : World) (N : Nat) (h : AHeap) (A : Aut) (vf va : Value) (vs : List Value) : Prop := ∃ g, Sub g h ∧ (∀ j, j < N → g.own.get j = none) ∧ AutoV W g (.agg #[vf, va]) A vf va vs
theorem FreshA.auto {W : World} {N : Nat} {h : AHeap} {A : Aut} {vf va : Value} {vs : List Value} (f : FreshA W N h A vf va vs) : AutoV W h (.agg #[vf, va]) A vf va vs := by
  obtain ⟨g, h1, _, h3⟩ := f; exact h3.sub h1
theorem FreshA.keeps {W : World} {N : Nat} {h h' : AHeap} {A : Aut} {vf va : Value} {vs : List Value} (f : FreshA W N h A vf va vs) (k : Keeps h h') : FreshA W N h' A vf va vs := by
  obtain ⟨g, h1, h2, h3⟩ := f; exact ⟨g, h1.keeps k, h2, h3⟩
theorem FreshA.put {W : World} {N : Nat} {h : AHeap} {A : Aut} {vf va : Value} {vs : List Value} (f : FreshA W N h A vf va vs) {j : Nat} (hj : j < N) (b : ABlk) : FreshA W N (h.put j b) A vf va vs := by
  obtain ⟨g, h1, h2, h3⟩ := f; exact ⟨g, h1.put (h2 j hj) b, h2, h3⟩
theorem FreshA.base {W : World} {N M : Nat} {h : AHeap} {A : Aut} {vf va : Value} {vs : List Value} (f : FreshA W N h A vf va vs) (hM : M ≤ N) : FreshA W M h A vf va vs := by
  obtain ⟨g, h1, h2, h3⟩ := f; exact ⟨g, h1, fun j hj => h2 j (by omega), h3⟩
end Go.Mach
end
section
set_option linter.unusedSimpArgs false
set_option linter.unusedVariables false
namespace Go.Mach
open Go Go.RowKit

theorem repL_flat (z : List Value) : ∀ n, repL z n = (List.replicate n z).flatten
  | 0 => rfl
  | n + 1 => by simp only [repL, List.replicate_succ, List.flatten_cons, repL_flat z n]

theorem toNat_nat (n : Nat) : ((n : Nat) : Int).toNat = n := rfl

/-- A slice of n cells is made. -/
theorem mk_ow {h : AHeap} {z : Value} (n : Nat) : Ow (h.new (.cells (repL [z] n))) h.next 1 (List.replicate n [z]) :=
  ⟨by rw [AHeap.new_get, if_pos rfl, repL_flat], fun e he => by rw [(List.mem_replicate.1 he).2]; rfl, by rw [AHeap.new_next]; omega⟩

section
variable {α : Type} {f : α → List Value}

/-- An element of one cell is written. -/
theorem Ow.set1 {h : AHeap} {b : Nat} {l : List α} (hf : ∀ x, (f x).length = 1) (o : Ow h b 1 (l.map f)) {i : Nat} (hi : i < l.length) (x : α) :
    ∃ C, h.own.get b = some (.cells C) ∧ Nat.ble (i * 1 + 1) C.length = true ∧ ∃ C2, splice C (i * 1) (f x) = C2 ∧ Ow (h.put b (.cells C2)) b 1 ((l.set i x).map f) := by
  have hi' : (l.map f)[i]? = some (f l[i]) := by simp [hi]
  obtain ⟨hsp, o2⟩ := o.put (vs := f x) hi' (j := 0) (by rw [hf]; omega)
  rw [Nat.add_zero] at hsp
  refine ⟨_, o.get, ?_, _, hsp, ?_⟩
  · rw [flat_len o.len]; refine Nat.ble_eq_true_of_le ?_; simp; omega
  · have e : (l.map f).set i (splice (f l[i]) 0 (f x)) = (l.set i x).map f := by
      rw [List.map_set]
      congr 1
      have h1 := hf l[i]; have h2 := hf x
      unfold splice
      rw [List.take_zero, List.nil_append, List.drop_eq_nil_of_le (by omega), List.append_nil]
    rw [e] at o2 ⊢; exact o2
end

/-- A stack: the list may be longer than what is used of it. -/
def StkV (N : Nat) (h : AHeap) (a : Option Addr) (m c : Nat) (es : List (List Value)) : Prop := OwnV N h a c 1 es ∧ m ≤ es.length

theorem StkV.app {W : World} {N : Nat} {h0 h : AHeap} {a : Option Addr} {m c b' : Nat} {es : List (List Value)} {e : List Value} (o : StkV N h a m c es) (k : Keeps h0 h) (k1 : h0.next ≤ N) (k2 : N ≤ h.next) (hb : h.own.get b' = some (.cells e)) (hb' : b' < h.next) (he : e.length = 1)
    (h1 : e.all oneV = true) (hs : m + 1 ≤ 1073741824) :
    ∃ a' c' h', appA W h 1 (.slice a m c) (.slice (some ⟨b', 0, some 0⟩) 1 1) = some (.slice a' (m + 1) c', h') ∧ StkV N h' a' (m + 1) c' (es.take m ++ [e]) ∧ Keeps h0 h' ∧ h'.next = h.next + 1 ∧
      (∀ i, i < h.next → NotIn a i → h'.own.get i = h.own.get i) ∧ (∀ i, i < h.next → NotIn a' i) := by
  have hO : Ow h b' 1 [e] := ⟨by simpa using hb, fun x hx => by simp at hx; subst hx; exact he, hb'⟩
  have hld := aloadN_own (W := W) hO
  simp only [List.length_singleton, List.flatten_cons, List.flatten_nil, List.append_nil] at hld
  have hnews : newsOf W h 1 (.slice (some ⟨b', 0, some 0⟩) 1 1) = some (1, e) := by
    unfold newsOf
    simp only [Option.isNone_some, Bool.false_or, Nat.beq_refl, cond_true, hld, Option.map_some]
  obtain ⟨o, hm⟩ := o
  rcases o with ⟨rfl, rfl, rfl⟩ | ⟨b, rfl, rfl, h3, h4⟩
  · obtain rfl : m = 0 := by simpa using hm
    refine ⟨some ⟨h.next, 0, some 0⟩, 1, h.new (.cells e), ?_, ⟨.inr ⟨h.next, rfl, rfl, k2, ?_, ?_, ?_⟩, by simp⟩, k.new _, rfl, fun i hi _ => by rw [AHeap.new_get, if_neg (by omega)], fun i hi x hx => by cases hx; show h.next ≠ i; omega⟩
    · unfold appA
      simp only [hnews, Nat.zero_add, Nat.reduceLeDiff, h1, Bool.and_true, oS, oA]
      rfl
    · rw [AHeap.new_get, if_pos rfl]; simp
    · intro x hx; simp at hx; subst hx; exact he
    · rw [AHeap.new_next]; omega
  · have htl : (es.take m).flatten.length = m := by
      rw [flat_len (esz := 1) (fun x hx => h4.len x (List.mem_of_mem_take hx))]; simp; omega
    have hold : aloadN W h ⟨b, 0, some 0⟩ (m * 1) = some (es.take m).flatten := by
      rw [Nat.mul_one]
      conv => lhs; rw [← htl]
      refine aloadN_of _ _ fun j u hu => ⟨?_, fun _ => h4.lt⟩
      have hj : j < m := by rw [← htl]; exact (List.getElem?_eq_some_iff.1 hu).1
      have e1 : es.flatten[j]? = some u := by
        have : es.flatten = (es.take m).flatten ++ (es.drop m).flatten := by rw [← List.flatten_append, List.take_append_drop]
        rw [this, List.getElem?_append_left (by rw [htl]; exact hj)]; exact hu
      simp [aadd, aload1, h4.get, e1]
    refine ⟨some ⟨h.next, 0, some 0⟩, 1, (h.put b .dead).new (.cells (es.take m ++ [e]).flatten), ?_, ⟨.inr ⟨h.next, rfl, rfl, k2, ?_, ?_, ?_⟩, by simp; omega⟩, (k.put (Nat.le_trans k1 h3) _).new _, rfl, fun i hi hn => ?_, fun i hi x hx => by cases hx; show h.next ≠ i; omega⟩
    · unfold appA
      simp only [hnews, Nat.beq_refl, cond_true, hold, h4.get, Nat.ble_eq_true_of_le hs, h1, Bool.and_true, oS, oA, List.flatten_append, List.flatten_cons, List.flatten_nil, List.append_nil, Nat.zero_add, Nat.reduceAdd]
    · rw [AHeap.new_get, AHeap.put_next, if_pos rfl]
    · intro x hx
      rcases List.mem_append.1 hx with hx | hx
      · exact h4.len x (List.mem_of_mem_take hx)
      · simp at hx; subst hx; exact he
    · rw [AHeap.new_next, AHeap.put_next]; omega
    · rw [AHeap.new_get, AHeap.put_next, if_neg (by omega), AHeap.put_get, if_neg]
      have := hn _ rfl
      intro e; exact this e.symm

theorem StkV.pop {N : Nat} {h : AHeap} {a : Option Addr} {m c : Nat} {es : List (List Value)} (o : StkV N h a (m + 1) c es) : slcV 1 (.slice a (m + 1) c) none (some (.int .i64 m)) = some (.slice a m c) ∧ StkV N h a m c es := by
  obtain ⟨o, hm⟩ := o
  refine ⟨?_, o, by omega⟩
  rcases o with ⟨rfl, rfl, rfl⟩ | ⟨b, rfl, rfl, h3, h4⟩
  · simp at hm
  · have h1 : (0 : Int) ≤ (m : Int) := by omega
    have h2 : (m : Int) ≤ (m : Int) + 1 := by omega
    simp [slcV, slBounds, aadd, h1, h2]

theorem StkV.top {N : Nat} {h : AHeap} {a : Option Addr} {m c : Nat} {l : List Int} (o : StkV N h a (m + 1) c (l.map numV)) :
    ∃ b q C, a = some ⟨b, 0, some 0⟩ ∧ c = 1 ∧ l[m]? = some q ∧ idxV 1 (.slice (some ⟨b, 0, some 0⟩) (m + 1) 1) (.int .i64 m) = some (.pointer (some ⟨b, m * 1, some 0⟩)) ∧ h.own.get b = some (.cells C) ∧ C[m * 1]? = some (.int .i64 q) := by
  obtain ⟨o, hm⟩ := o
  rcases o with ⟨rfl, rfl, hl⟩ | ⟨b, rfl, rfl, h3, h4⟩
  · rw [hl] at hm; simp at hm
  · have hlt : m < l.length := by rw [List.length_map] at hm; omega
    refine ⟨b, l[m], _, rfl, rfl, by simp [hlt], idx_own (by omega), h4.get, ?_⟩
    have := flat_get (j := 0) h4.len (show (l.map numV)[m]? = some (numV l[m]) by simp [hlt]) (by omega)
    rw [Nat.add_zero] at this
    rw [this]; rfl

theorem Ow.get1 {α : Type} {f : α → List Value} {h : AHeap} {b : Nat} {l : List α} (o : Ow h b 1 (l.map f)) {i : Nat} {x : α} {v : Value} (hx : l[i]? = some x) (hv : f x = [v]) : ∃ C, h.own.get b = some (.cells C) ∧ C[i * 1]? = some v := by
  refine ⟨_, o.get, ?_⟩
  have := flat_get (j := 0) o.len (show (l.map f)[i]? = some (f x) by simp [hx]) (by omega)
  rw [Nat.add_zero] at this
  rw [this, hv]; rfl
end Go.Mach
end
