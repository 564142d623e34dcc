/- The abstract machine, part 28: lists of one cell an element: made, written, used as a stack. No condition.
Merged from 6 texts. -/
import Derived.Test.YtlipmjpapkfaeaaGreatDoorZD13
import Derived.Test.YtlipmjpapkfaeaaGreatDoorZD14
section
set_option linter.unusedSimpArgs false
set_option linter.unusedVariables false
namespace Go.Mach
open Go Go.RowKit
theorem repL_flat (z : List Value) : ∀ n, repL z n = (List.replicate n z).flatten
  | 0 => rfl
  | n + 1 => by simp only [repL, List.replicate_succ, List.flatten_cons, repL_flat z n]
theorem mk_ow {h : AHeap} {z : Value} (n : Nat) : Ow (h.new (.cells (repL [z] n))) h.next 1 (List.replicate n [z]) :=
  ⟨by rw [AHeap.new_get, if_pos rfl, repL_flat], fun e he => by rw [(List.mem_replicate.1 he).2]; rfl, by rw [AHeap.new_next]; omega⟩
section
variable {α : Type} {f : α → List Value}
theorem Ow.set1 {h : AHeap} {b : Nat} {l : List α} (hf : ∀ x, (f x).length = 1) (o : Ow h b 1 (l.map f)) {i : Nat} (hi : i < l.length) (x : α) :
    ∃ C, h.own.get b = some (.cells C) ∧ Nat.ble (i * 1 + 1) C.length = true ∧ ∃ C2, splice C (i * 1) (f x) = C2 ∧ Ow (h.put b (.cells C2)) b 1 ((l.set i x).map f) := by
  have hi' : (l.map f)[i]? = some (f l[i]) := by simp [hi]
  obtain ⟨hsp, o2⟩ := o.put (vs := f x) hi' (j := 0) (by rw [hf]; omega)
  rw [Nat.add_zero] at hsp
  refine ⟨_, o.get, ?_, _, hsp, ?_⟩
  · rw [flat_len o.len]; refine Nat.ble_eq_true_of_le ?_; simp; omega
  · have e : (l.map f).set i (splice (f l[i]) 0 (f x)) = (l.set i x).map f := by
      rw [List.map_set]
      congr 1
      have h1 := hf l[i]; have h2 := hf x
      unfold splice
      rw [List.take_zero, List.nil_append, List.drop_eq_nil_of_le (by omega), List.append_nil]
    rw [e] at o2 ⊢; exact o2
end
def StkV (N : Nat) (h : AHeap) (a : Option Addr) (m c : Nat) (es : List (List Value)) : Prop := OwnV N h a c 1 es ∧ m ≤ es.length
theorem StkV.app {W : World} {N : Nat} {h0 h : AHeap} {a : Option Addr} {m c b' : Nat} {es : List (List Value)} {e : List Value} (o : StkV N h a m c es) (k : Keeps h0 h) (k1 : h0.next ≤ N) (k2 : N ≤ h.next) (hb : h.own.get b' = some (.cells e)) (hb' : b' < h.next) (he : e.length = 1)
    (h1 : e.all oneV = true) (hs : m + 1 ≤ 1073741824) :
    ∃ a' c' h', appA W h 1 (.slice a m c) (.slice (some ⟨b', 0, some 0⟩) 1 1) = some (.slice a' (m + 1) c', h') ∧ StkV N h' a' (m + 1) c' (es.take m ++ [e]) ∧ Keeps h0 h' ∧ h'.next = h.next + 1 ∧
      (∀ i, i < h.next → NotIn a i → h'.own.get i = h.own.get i) ∧ (∀ i, i < h.next → NotIn a' i) := by
  have hO : Ow h b' 1 [e] := ⟨by simpa using hb, fun x hx => by simp at hx; subst hx; exact he, hb'⟩
  have hld := aloadN_own (W := W) hO
  simp only [List.length_singleton, List.flatten_cons, List.flatten_nil, List.append_nil] at hld
  have hnews : newsOf W h 1 (.slice (some ⟨b', 0, some 0⟩) 1 1) = some (1, e) := by
    unfold newsOf
    simp only [Option.isNone_some, Bool.false_or, Nat.beq_refl, cond_true, hld, Option.map_some]
  obtain ⟨o, hm⟩ := o
  rcases o with ⟨rfl, rfl, rfl⟩ | ⟨b, rfl, rfl, h3, h4⟩
  · obtain rfl : m = 0 := by simpa using hm
    refine ⟨some ⟨h.next, 0, some 0⟩, 1, h.new (.cells e), ?_, ⟨.inr ⟨h.next, rfl, rfl, k2, ?_, ?_, ?_⟩, by simp⟩, k.new _, rfl, fun i hi _ => by rw [AHeap.new_get, if_neg (by omega)], fun i hi x hx => by cases hx; show h.next ≠ i; omega⟩
    · unfold appA
      simp only [hnews, Nat.zero_add, Nat.reduceLeDiff, h1, Bool.and_true, oS, oA]
      rfl
    · rw [AHeap.new_get, if_pos rfl]; simp
    · intro x hx; simp at hx; subst hx; exact he
    · rw [AHeap.new_next]; omega
  · have htl : (es.take m).flatten.length = m := by
      rw [flat_len (esz := 1) (fun x hx => h4.len x (List.mem_of_mem_take hx))]; simp; omega
    have hold : aloadN W h ⟨b, 0, some 0⟩ (m * 1) = some (es.take m).flatten := by
      rw [Nat.mul_one]
      conv => lhs; rw [← htl]
      refine aloadN_of _ _ fun j u hu => ⟨?_, fun _ => h4.lt⟩
      have hj : j < m := by rw [← htl]; exact (List.getElem?_eq_some_iff.1 hu).1
      have e1 : es.flatten[j]? = some u := by
        have : es.flatten = (es.take m).flatten ++ (es.drop m).flatten := by rw [← List.flatten_append, List.take_append_drop]
        rw [this, List.getElem?_append_left (by rw [htl]; exact hj)]; exact hu
      simp [aadd, aload1, h4.get, e1]
    refine ⟨some ⟨h.next, 0, some 0⟩, 1, (h.put b .dead).new (.cells (es.take m ++ [e]).flatten), ?_, ⟨.inr ⟨h.next, rfl, rfl, k2, ?_, ?_, ?_⟩, by simp; omega⟩, (k.put (Nat.le_trans k1 h3) _).new _, rfl, fun i hi hn => ?_, fun i hi x hx => by cases hx; show h.next ≠ i; omega⟩
    · unfold appA
      simp only [hnews, Nat.beq_refl, cond_true, hold, h4.get, Nat.ble_eq_true_of_le hs, h1, Bool.and_true, oS, oA, List.flatten_append, List.flatten_cons, List.flatten_nil, List.append_nil, Nat.zero_add, Nat.reduceAdd]
    · rw [AHeap.new_get, AHeap.put_next, if_pos rfl]
    · intro x hx
      rcases List.mem_append.1 hx with hx | hx
      · exact h4.len x (List.mem_of_mem_take hx)
      · simp at hx; subst hx; exact he
    · rw [AHeap.new_next, AHeap.put_next]; omega
    · rw [AHeap.new_get, AHeap.put_next, if_neg (by omega), AHeap.put_get, if_neg]
      have := hn _ rfl
      intro e; exact this e.symm
theorem StkV.pop {N : Nat} {h : AHeap} {a : Option Addr} {m c : Nat} {es : List (List Value)} (o : StkV N h a (m + 1) c es) : slcV 1 (.slice a (m + 1) c) none (some (.int .i64 m)) = some (.slice a m c) ∧ StkV N h a m c es := by
  obtain ⟨o, hm⟩ := o
  refine ⟨?_, o, by omega⟩
  rcases o with ⟨rfl, rfl, rfl⟩ | ⟨b, rfl, rfl, h3, h4⟩
  · simp at hm
  · have h1 : (0 : Int) ≤ (m : Int) := by omega
    have h2 : (m : Int) ≤ (m : Int) + 1 := by omega
    simp [slcV, slBounds, aadd, h1, h2]
theorem StkV.top {N : Nat} {h : AHeap} {a : Option Addr} {m c : Nat} {l : List Int} (o : StkV N h a (m + 1) c (l.map numV)) :
    ∃ b q C, a = some ⟨b, 0, some 0⟩ ∧ c = 1 ∧ l[m]? = some q ∧ idxV 1 (.slice (some ⟨b, 0, some 0⟩) (m + 1) 1) (.int .i64 m) = some (.pointer (some ⟨b, m * 1, some 0⟩)) ∧ h.own.get b = some (.cells C) ∧ C[m * 1]? = some (.int .i64 q) := by
  obtain ⟨o, hm⟩ := o
  rcases o with ⟨rfl, rfl, hl⟩ | ⟨b, rfl, rfl, h3, h4⟩
  · rw [hl] at hm; simp at hm
  · have hlt : m < l.length := by rw [List.length_map] at hm; omega
    refine ⟨b, l[m], _, rfl, rfl, by simp [hlt], idx_own (by omega), h4.get, ?_⟩
    have := flat_get (j := 0) h4.len (show (l.map numV)[m]? = some (numV l[m]) by simp [hlt]) (by omega)
    rw [Nat.add_zero] at this
    rw [this]; rfl
theorem Ow.get1 {α : Type} {f : α → List Value} {h : AHeap} {b : Nat} {l : List α} (o : Ow h b 1 (l.map f)) {i : Nat} {x : α} {v : Value} (hx : l[i]? = some x) (hv : f x = [v]) : ∃ C, h.own.get b = some (.cells C) ∧ C[i * 1]? = some v := by
  refine ⟨_, o.get, ?_⟩
  have := flat_get (j := 0) o.len (show (l.map f)[i]? = some (f x) by simp [hx]) (by omega)
  rw [Nat.add_zero] at this
  rw [this, hv]; rfl
end Go.Mach
end
section
set_option linter.unusedSimpArgs false
set_option linter.unusedVariables false
namespace Go.Mach
open Go Go.RowKit
theorem OwnV.appL {W : World} {N : Nat} {h0 h : AHeap} {a : Option Addr} {c esz b' : Nat} {es es' : List (List Value)} (o : OwnV N h a c esz es) (k : Keeps h0 h) (k1 : h0.next ≤ N) (k2 : N ≤ h.next) (o' : Ow h b' esz es') (hne : es' ≠ [])
    (h1 : es'.flatten.all oneV = true) (hs : es.length + es'.length ≤ 1073741824) :
    ∃ a' c' h', appA W h esz (.slice a es.length c) (.slice (some ⟨b', 0, some 0⟩) es'.length esz) = some (.slice a' (es ++ es').length c', h') ∧ OwnV N h' a' c' esz (es ++ es') ∧ Keeps h0 h' ∧ h'.next = h.next + 1 ∧
      (∀ i, i < h.next → NotIn a i → h'.own.get i = h.own.get i) ∧ (∀ i, i < h.next → NotIn a' i) := by
  have hld := aloadN_own (W := W) o'
  have hnews : newsOf W h esz (.slice (some ⟨b', 0, some 0⟩) es'.length esz) = some (es'.length, es'.flatten) := by
    unfold newsOf
    simp only [Option.isNone_some, Bool.false_or, Nat.beq_refl, cond_true, hld, Option.map_some]
  obtain ⟨m, hm⟩ : ∃ m, es'.length = m + 1 := ⟨es'.length - 1, by have := List.length_pos_iff.2 hne; omega⟩
  rw [hm] at hnews hs ⊢
  rcases o with ⟨rfl, rfl, rfl⟩ | ⟨b, rfl, rfl, h3, h4⟩
  · have hs' : Nat.ble (m + 1) 1073741824 = true := Nat.ble_eq_true_of_le (by simpa using hs)
    refine ⟨some ⟨h.next, 0, some 0⟩, esz, h.new (.cells es'.flatten), ?_, .inr ⟨h.next, rfl, rfl, k2, ?_, ?_, ?_⟩, k.new _, rfl, fun i hi _ => by rw [AHeap.new_get, if_neg (by omega)], fun i hi x hx => by cases hx; show h.next ≠ i; omega⟩
    · unfold appA
      simp only [hnews, List.length_nil, h1, hs', Bool.and_true, cond_true, oS, oA, List.nil_append, hm]
    · rw [AHeap.new_get, if_pos rfl]; simp
    · intro x hx; exact o'.len x (by simpa using hx)
    · rw [AHeap.new_next]; omega
  · have hold := aloadN_own (W := W) h4
    refine ⟨some ⟨h.next, 0, some 0⟩, c, (h.put b .dead).new (.cells (es ++ es').flatten), ?_, .inr ⟨h.next, rfl, rfl, k2, ?_, ?_, ?_⟩, (k.put (Nat.le_trans k1 h3) _).new _, rfl, fun i hi hn => ?_, fun i hi x hx => by cases hx; show h.next ≠ i; omega⟩
    · unfold appA
      simp only [hnews, Nat.beq_refl, cond_true, hold, h4.get, Nat.ble_eq_true_of_le hs, h1, Bool.and_true, oS, oA, List.length_append, hm, List.flatten_append]
    · rw [AHeap.new_get, AHeap.put_next, if_pos rfl]
    · intro x hx
      rcases List.mem_append.1 hx with hx | hx
      · exact h4.len x hx
      · exact o'.len x hx
    · rw [AHeap.new_next, AHeap.put_next]; omega
    · rw [AHeap.new_get, AHeap.put_next, if_neg (by omega), AHeap.put_get, if_neg]
      have := hn _ rfl
      intro e; exact this e.symm
def byteV (b : UInt8) : List Value := [.int .u8 (b.toNat : Nat)]
theorem byteV_one (bs : List UInt8) : (bs.map byteV).flatten.all oneV = true := by
  rw [List.all_eq_true]
  intro v hv
  obtain ⟨l, hl, hv⟩ := List.mem_flatten.1 hv
  obtain ⟨b, _, rfl⟩ := List.mem_map.1 hl
  simp [byteV] at hv; subst hv; rfl
theorem bytesOfL_map : ∀ bs : List UInt8, bytesOfL (bs.map byteV).flatten = some bs
  | [] => rfl
  | b :: bs => by
    have ih := bytesOfL_map bs
    simp only [List.map_cons, List.flatten_cons, byteV, List.cons_append, List.nil_append, bytesOfL, ih, Int.toNat_natCast, UInt8.ofNat_toNat]
theorem bytes_str {W : World} {h : AHeap} {b : Nat} {bs : List UInt8} (o : Ow h b 1 (bs.map byteV)) : (aloadN W h ⟨b, 0, some 0⟩ bs.length).bind bytesOfL = some bs := by
  have := aloadN_own (W := W) o
  rw [List.length_map, Nat.mul_one] at this
  rw [this]
  exact bytesOfL_map bs
def strK (bs : List UInt8) : Value := .string ⟨bs.toArray⟩
theorem keyedStr : Keyed (.sc .s) strK := ⟨fun k => rfl, fun a b => by
  simp only [strK, keq, scEq]
  congr 1
  by_cases h : a = b
  · subst h; simp
  · simp [h]⟩
def ixOf {α : Type} [DecidableEq α] (ks : List α) (k : α) : Nat := ks.idxOf k
theorem lookIx {α : Type} [DecidableEq α] {e : EqTy} {enc : α → Value} (K : Keyed e enc) {H : AHeap} {b : Nat} {ks : List α} (hb : H.own.get b = some (.map (mapFrom enc 0 ks))) (s : α) :
    ∃ (q0 : Int) (b0 : Bool), lookupV e (.int .i64 0) H (.map (some b)) (enc s) true = some (.tuple #[.int .i64 q0, .bool b0]) ∧ (b0 = true → s ∈ ks ∧ q0 = (ixOf ks s : Nat)) ∧ (b0 = false → s ∉ ks) := by
  by_cases hs : s ∈ ks
  · exact ⟨_, true, lookup_in K hb hs _ true, fun _ => ⟨hs, rfl⟩, fun h => by cases h⟩
  · exact ⟨_, false, lookup_out K hb hs _ true, (fun h => by cases h), fun _ => hs⟩
theorem ixOf_lt {α : Type} [DecidableEq α] {ks : List α} {k : α} (h : k ∈ ks) : ixOf ks k < ks.length := List.idxOf_lt_length_of_mem h
theorem ixOf_get {α : Type} [DecidableEq α] {ks : List α} {k : α} (h : k ∈ ks) : ks[ixOf ks k]? = some k := by
  have := ixOf_lt h
  unfold ixOf at *
  rw [List.getElem?_eq_getElem this, List.getElem_idxOf]
theorem ixOf_out {α : Type} [DecidableEq α] {ks : List α} {k : α} (h : k ∉ ks) : ixOf ks k = ks.length := List.idxOf_eq_length h
theorem ixOf_inj {α : Type} [DecidableEq α] {ks : List α} {a b : α} (ha : a ∈ ks) (hb : b ∈ ks) (h : ixOf ks a = ixOf ks b) : a = b := by
  have h1 := ixOf_get ha; have h2 := ixOf_get hb
  rw [h] at h1; rw [h1] at h2; exact Option.some.inj h2
theorem ixOf_snoc {α : Type} [DecidableEq α] {ks : List α} {k : α} (h : k ∉ ks) : ixOf (ks ++ [k]) k = ks.length := by
  unfold ixOf; rw [List.idxOf_append]; simp [h]
theorem ixOf_app {α : Type} [DecidableEq α] {ks r : List α} {k : α} (h : k ∈ ks) : ixOf (ks ++ r) k = ixOf ks k := by
  unfold ixOf; rw [List.idxOf_append]; simp [h]
end Go.Mach
end
section
set_option linter.unusedSimpArgs false
set_option linter.unusedVariables false
namespace Go.Mach
open Go Go.RowKit
section
variable {P : Program} {W : World}
theorem AOps_run : ∀ (os : List ROper) {K : St → Prop} {σ : St}, os.all (fun o => (kindOf o.op).isSome) = true → AOps P W os K σ → ∃ σ1, sops W os σ = some σ1 ∧ K σ1
  | [], K, σ, _, h => ⟨σ, rfl, h⟩
  | o :: os, K, σ, hk, h => by
    simp only [List.all_cons, Bool.and_eq_true] at hk
    obtain ⟨hk, hrest⟩ := hk
    have h' : AOp P W o (AOps P W os K) σ := h
    unfold AOp at h'
    cases hw : wantedA σ.e o.guard with
    | false =>
      rw [hw] at h'
      simp only [Bool.false_eq_true, if_false] at h'
      obtain ⟨σ1, g1, g2⟩ := AOps_run os hrest h'
      exact ⟨σ1, by simp [sops, hw, g1], g2⟩
    | true =>
      rw [hw] at h'
      simp only [if_true] at h'
      have h2 : ∃ v h1, rop W (opd σ.e) σ.h o.op = some (v, h1) ∧ AOps P W os K ⟨eput σ.e o.dst v, h1⟩ := by
        cases hop : o.op <;> rw [hop] at h' hk <;> first | (cases hk; done) | exact h'
      obtain ⟨v, h1, hr, hA⟩ := h2
      obtain ⟨σ1, g1, g2⟩ := AOps_run os hrest hA
      exact ⟨σ1, by simp [sops, hw, hr, g1], g2⟩
theorem d_make {ops chk : List ROper} {eff : Option ROper} {ss : List Stage} {K : St → Prop} {σ : St} (hk : ops.all (fun o => (kindOf o.op).isSome) = true)
    (h : AOps P W ops (fun σ1 => (∀ o ∈ chk, Chk W σ1 o) ∧ (∀ i ∈ mkIds σ1.e ops, σ.h.next ≤ i) ∧ (mkIds σ1.e chk).Nodup ∧ match eff with | none => K σ1 | some o => AOp P W o (DOps P W ss K) σ1) σ) : DOps P W (⟨ops, chk, eff⟩ :: ss) K σ := by
  obtain ⟨σ1, g1, g2, g3, g4, g5⟩ := AOps_run ops hk h
  exact ⟨σ1, g1, g2, g3, g4, g5⟩
theorem d_chkN {chk : List ROper} {eff : ROper} {ss : List Stage} {K : St → Prop} {σ : St} (hn : (mkIds σ.e chk).Nodup) (h1 : ∀ o ∈ chk, Chk W σ o) (h2 : AOp P W eff (DOps P W ss K) σ) : DOps P W (⟨[], chk, some eff⟩ :: ss) K σ :=
  ⟨σ, rfl, h1, (fun i hi => by cases hi), hn, h2⟩
end
theorem OwnV.appX {W : World} {N : Nat} {h0 h : AHeap} {a : Option Addr} {c esz : Nat} {y : Value} {es es' : List (List Value)} (o : OwnV N h a c esz es) (k : Keeps h0 h) (k1 : h0.next ≤ N) (k2 : N ≤ h.next) (hy : newsOf W h esz y = some (es'.length, es'.flatten)) (hlen : ∀ e ∈ es', e.length = esz)
    (h1 : es'.flatten.all oneV = true) (hs : es.length + es'.length ≤ 1073741824) :
    ∃ a' c' h', appA W h esz (.slice a es.length c) y = some (.slice a' (es ++ es').length c', h') ∧ OwnV N h' a' c' esz (es ++ es') ∧ Keeps h0 h' ∧ h.next ≤ h'.next ∧
      (∀ i, i < h.next → NotIn a i → h'.own.get i = h.own.get i) ∧ (es' ≠ [] → ∀ i, i < h.next → NotIn a' i) ∧ (es' = [] → a' = a) := by
  cases es' with
  | nil =>
    refine ⟨a, c, h, ?_, by rw [List.append_nil]; exact o, k, Nat.le_refl _, fun i _ _ => rfl, fun hh => absurd rfl hh, fun _ => rfl⟩
    rcases o with ⟨rfl, rfl, rfl⟩ | ⟨b, rfl, rfl, h3, h4⟩
    · unfold appA; simp only [hy, List.length_nil, List.append_nil]
    · unfold appA; simp only [hy, List.length_nil, List.append_nil, Nat.beq_refl, cond_true]
  | cons e0 es0 =>
    obtain ⟨es', hes⟩ : ∃ es', es' = e0 :: es0 := ⟨_, rfl⟩
    rw [← hes] at hy hlen h1 hs ⊢
    have hne : es' ≠ [] := by rw [hes]; simp
    obtain ⟨m, hm⟩ : ∃ m, es'.length = m + 1 := ⟨es0.length, by rw [hes]; rfl⟩
    rw [hm] at hy hs
    rcases o with ⟨rfl, rfl, rfl⟩ | ⟨b, rfl, rfl, h3, h4⟩
    · have hs' : Nat.ble (m + 1) 1073741824 = true := Nat.ble_eq_true_of_le (by simpa using hs)
      refine ⟨some ⟨h.next, 0, some 0⟩, esz, h.new (.cells es'.flatten), ?_, .inr ⟨h.next, rfl, rfl, k2, ?_, ?_, ?_⟩, k.new _, by rw [AHeap.new_next]; omega, fun i hi _ => by rw [AHeap.new_get, if_neg (by omega)], fun _ i hi x hx => by cases hx; show h.next ≠ i; omega, fun hh => absurd hh hne⟩
      · unfold appA
        simp only [hy, List.length_nil, h1, hs', Bool.and_true, cond_true, oS, oA, List.nil_append, hm]
      · rw [AHeap.new_get, if_pos rfl]; simp
      · intro x hx; exact hlen x (by simpa using hx)
      · rw [AHeap.new_next]; omega
    · have hold := aloadN_own (W := W) h4
      refine ⟨some ⟨h.next, 0, some 0⟩, c, (h.put b .dead).new (.cells (es ++ es').flatten), ?_, .inr ⟨h.next, rfl, rfl, k2, ?_, ?_, ?_⟩, (k.put (Nat.le_trans k1 h3) _).new _, by rw [AHeap.new_next, AHeap.put_next]; omega, fun i hi hn => ?_, fun _ i hi x hx => by cases hx; show h.next ≠ i; omega, fun hh => absurd hh hne⟩
      · unfold appA
        simp only [hy, Nat.beq_refl, cond_true, hold, h4.get, Nat.ble_eq_true_of_le hs, h1, Bool.and_true, oS, oA, List.length_append, hm, List.flatten_append]
      · rw [AHeap.new_get, AHeap.put_next, if_pos rfl]
      · intro x hx
        rcases List.mem_append.1 hx with hx | hx
        · exact h4.len x hx
        · exact hlen x hx
      · rw [AHeap.new_next, AHeap.put_next]; omega
      · rw [AHeap.new_get, AHeap.put_next, if_neg (by omega), AHeap.put_get, if_neg]
        have := hn _ rfl
        intro e; exact this e.symm
theorem Ow.news {W : World} {h : AHeap} {b esz : Nat} {es : List (List Value)} (o : Ow h b esz es) {p m : Nat} (hp : p + m ≤ es.length) : newsOf W h esz (.slice (some ⟨b, p * esz, some 0⟩) m esz) = some (m, ((es.drop p).take m).flatten) := by
  have hl : ((es.drop p).take m).flatten.length = m * esz := by
    rw [flat_len fun e he => o.len e (List.mem_of_mem_drop (List.mem_of_mem_take he)), List.length_take, List.length_drop, Nat.min_eq_left (by omega)]
  have hld : aloadN W h ⟨b, p * esz, some 0⟩ (m * esz) = some ((es.drop p).take m).flatten := by
    rw [← hl]
    refine aloadN_of _ _ fun j u hu => ⟨?_, fun _ => o.lt⟩
    have e1 : es.flatten = (es.take p).flatten ++ (((es.drop p).take m).flatten ++ ((es.drop p).drop m).flatten) := by
      rw [← List.flatten_append, List.take_append_drop, ← List.flatten_append, List.take_append_drop]
    have hlp : (es.take p).flatten.length = p * esz := by
      rw [flat_len fun e he => o.len e (List.mem_of_mem_take he), List.length_take, Nat.min_eq_left (by omega)]
    have hj := (List.getElem?_eq_some_iff.1 hu).1
    have e2 : es.flatten[p * esz + j]? = some u := by
      rw [e1, List.getElem?_append_right (by omega), hlp, Nat.add_sub_cancel_left, List.getElem?_append_left hj]; exact hu
    simp [aadd, aload1, o.get, e2]
  unfold newsOf
  simp only [Option.isNone_some, Bool.false_or, Nat.beq_refl, cond_true, hld, Option.map_some]
theorem slc_hi {b n esz k : Nat} (hk : k ≤ n) : slcV esz (.slice (some ⟨b, 0, some 0⟩) n esz) none (some (.int .i64 k)) = some (.slice (some ⟨b, 0, some 0⟩) k esz) := by
  have h1 : (0 : Int) ≤ (k : Int) := by omega
  have h2 : (k : Int) ≤ (n : Int) := by omega
  simp [slcV, slBounds, aadd, h1, h2]
theorem slc_lo {b n esz k : Nat} (hk : k ≤ n) : slcV esz (.slice (some ⟨b, 0, some 0⟩) n esz) (some (.int .i64 k)) none = some (.slice (some ⟨b, k * esz, some 0⟩) (n - k) esz) := by
  have h1 : (0 : Int) ≤ (k : Int) := by omega
  have h2 : (k : Int) ≤ (n : Int) := by omega
  simp [slcV, slBounds, aadd, h1, h2]
theorem BU : (undef = .tuple #[]) ∧ (∀ f : Operand → Value, (none : Option Operand).map f = none) ∧ (∀ (f : Operand → Value) (a : Operand), (some a).map f = some (f a)) := ⟨rfl, fun _ => rfl, fun _ _ => rfl⟩
theorem BM : (∀ e : Env, mkIds e [] = []) ∧ (∀ (e : Env) d x g os, mkIds e (⟨d, .mov x, g⟩ :: os) = mkIds e os) ∧ (∀ (e : Env) d x y z g os, mkIds e (⟨d, .pick x y z, g⟩ :: os) = mkIds e os) ∧ (∀ (e : Env) d x g os, mkIds e (⟨d, .load1 x, g⟩ :: os) = mkIds e os) ∧
    (∀ (e : Env) d x n g os, mkIds e (⟨d, .loadN x n, g⟩ :: os) = mkIds e os) ∧ (∀ (e : Env) d b t x y g os, mkIds e (⟨d, .bin b t x y, g⟩ :: os) = mkIds e os) ∧ (∀ (e : Env) d n x l r g os, mkIds e (⟨d, .slc n x l r, g⟩ :: os) = mkIds e os) ∧
    (∀ (e : Env) d x n g os, mkIds e (⟨d, .addOff x n, g⟩ :: os) = mkIds e os) ∧ (∀ (e : Env) d n x y g os, mkIds e (⟨d, .idxA n x y, g⟩ :: os) = mkIds e os) ∧ (∀ (e : Env) d n m x y g os, mkIds e (⟨d, .idxArr n m x y, g⟩ :: os) = mkIds e os) ∧
    (∀ (e : Env) d z ps g os, mkIds e (⟨d, .build z ps, g⟩ :: os) = mkIds e os) ∧ (∀ (e : Env) d x g os, mkIds e (⟨d, .lenSl x, g⟩ :: os) = mkIds e os) ∧ (∀ (e : Env) d u x g os, mkIds e (⟨d, .un u x, g⟩ :: os) = mkIds e os) ∧
    (∀ (e : Env) d z ps n s os, mkIds e (⟨some d, .buildSl z ps n s, none⟩ :: os) = ownId (eget e d) :: mkIds e os) ∧ (∀ (e : Env) d z os, mkIds e (⟨some d, .newv z, none⟩ :: os) = ownId (eget e d) :: mkIds e os) ∧ (∀ (e : Env) d x os, mkIds e (⟨some d, .box x, none⟩ :: os) = ownId (eget e d) :: mkIds e os) ∧
    (∀ a n c, ownId (.slice (some a) n c) = a.block) ∧ (∀ a, ownId (.pointer (some a)) = a.block) := by
  refine ⟨fun _ => rfl, ?_, ?_, ?_, ?_, ?_, ?_, ?_, ?_, ?_, ?_, ?_, ?_, fun _ _ _ _ _ _ _ => rfl, fun _ _ _ _ => rfl, fun _ _ _ _ => rfl, fun _ _ _ => rfl, fun _ => rfl⟩ <;> (intros; simp [mkIds, kindOf])
end Go.Mach
end
section
set_option linter.unusedSimpArgs false
set_option linter.unusedVariables false
set_option maxRecDepth 100000
namespace Go.Proofs.YtlipmjpapkfaeaaGreatDoor.Fn
open Go Go.Mach Go.RowKit Go.Proofs
attribute [local irreducible] AOps WPX DOps thenS blockS AOp GOps CPick
structure Pts (l : List Int) : Prop where
  asc : l.Pairwise (· < ·)
  hd : l[0]? = some 0
  rng : ∀ y ∈ l, 0 ≤ y ∧ y ≤ 1114111
theorem asc_get {l : List Int} (h : l.Pairwise (· < ·)) {i j : Nat} (hij : i < j) {x y : Int} (hx : l[i]? = some x) (hy : l[j]? = some y) : x < y := by
  obtain ⟨h1, rfl⟩ := List.getElem?_eq_some_iff.1 hx
  obtain ⟨h2, rfl⟩ := List.getElem?_eq_some_iff.1 hy
  exact List.pairwise_iff_getElem.1 h i j h1 h2 hij
def insAt (l : List Int) (k : Nat) (c : Int) : List Int := (l.take k ++ [c]) ++ l.drop k
theorem insAt_len (l : List Int) (k : Nat) (c : Int) : (insAt l k c).length = l.length + 1 := by
  simp [insAt]; omega
theorem insAt_pts {l : List Int} (h : Pts l) {m : Nat} {x c : Int} (hx : l[m]? = some x) (hxc : x < c) (hc : c ≤ 1114111) (hhi : ∀ (j : Nat) y, m < j → l[j]? = some y → c < y) : Pts (insAt l (m + 1) c) ∧ ∀ y, y ∈ insAt l (m + 1) c ↔ y ∈ l ∨ y = c := by
  have hlt := (List.getElem?_eq_some_iff.1 hx).1
  have hmem : ∀ y, y ∈ insAt l (m + 1) c ↔ y ∈ l ∨ y = c := fun y => by
    unfold insAt
    rw [List.mem_append, List.mem_append, List.mem_singleton]
    have : y ∈ l ↔ y ∈ l.take (m + 1) ∨ y ∈ l.drop (m + 1) := by rw [← List.mem_append, List.take_append_drop]
    rw [this]
    constructor
    · rintro ((h | h) | h)
      · exact .inl (.inl h)
      · exact .inr h
      · exact .inl (.inr h)
    · rintro ((h | h) | h)
      · exact .inl (.inl h)
      · exact .inr h
      · exact .inl (.inr h)
  have hlo : ∀ y ∈ l.take (m + 1), y < c := fun y hy => by
    obtain ⟨j, hj⟩ := List.mem_iff_getElem?.1 hy
    rw [List.getElem?_take] at hj
    split at hj
    · rename_i hjm
      rcases Nat.lt_or_ge j m with h1 | h1
      · have := asc_get h.asc h1 hj hx; omega
      · obtain rfl : j = m := by omega
        rw [hx] at hj; cases hj; exact hxc
    · cases hj
  have hup : ∀ y ∈ l.drop (m + 1), c < y := fun y hy => by
    obtain ⟨j, hj⟩ := List.mem_iff_getElem?.1 hy
    rw [List.getElem?_drop] at hj
    exact hhi _ y (by omega) hj
  refine ⟨⟨?_, ?_, fun y hy => ?_⟩, hmem⟩
  · unfold insAt
    rw [List.pairwise_append, List.pairwise_append]
    refine ⟨⟨h.asc.sublist (List.take_sublist _ _), by simp, fun a ha b hb => ?_⟩, h.asc.sublist (List.drop_sublist _ _), fun a ha b hb => ?_⟩
    · simp at hb; subst hb; exact hlo a ha
    · have := hup b hb
      rcases List.mem_append.1 ha with ha | ha
      · have := hlo a ha; omega
      · simp at ha; subst ha; exact this
  · unfold insAt
    have h0 := h.hd
    cases l with
    | nil => simp at h0
    | cons z l => simpa using h0
  · rcases (hmem y).1 hy with hy | rfl
    · exact h.rng y hy
    · have := h.rng x (List.mem_of_getElem? hx); omega
def InsR (N : Nat) (h : AHeap) (l : List Int) (c : Int) (r : Value) (h' : AHeap) : Prop :=
  ∃ l' a' c', r = .slice a' l'.length c' ∧ OwnV N h' a' c' 1 (l'.map runeV) ∧ Pts l' ∧ (∀ y, y ∈ l' ↔ y ∈ l ∨ (y = c ∧ c ≤ 1114111)) ∧ l'.length ≤ l.length + 1 ∧ Keeps h h'
theorem runes_one (l : List Int) : (l.map runeV).flatten.all oneV = true := by
  induction l with
  | nil => rfl
  | cons x l ih => simp only [List.map_cons, List.flatten_cons, List.all_append, ih]; rfl
set_option maxHeartbeats 4000000 in
theorem f114_ok (W : World) (h : AHeap) (N : Nat) (a : Option Addr) (n ca : Nat) (l : List Int) (c : Int) (ho : OwnV N h a ca 1 (l.map runeV)) (hn : l.length = n) (hN : N ≤ h.next) (hP : Pts l) (hc : 0 ≤ c ∧ c ≤ 1114112) (hl : n < 1073741823) :
    ACalls Tryz.prog W 114 [.slice a n ca, .int .i32 c] h (fun r h' => InsR N h l c r h') := by
  have hn0 : 0 < n := by rw [← hn]; exact (List.getElem?_eq_some_iff.1 hP.hd).1
  have hoV := ho
  rcases ho with ⟨_, _, hnil⟩ | ⟨b, rfl, rfl, hb, how⟩
  · have hl0 : l = [] := by simpa using hnil
    rw [hl0] at hn; simp at hn; omega
  refine ACalls_ofX hmix c114 (Nat.le_of_ble_eq_true rfl) ?_
  unfold r114
  dsimp only [Rc.t, Rc.u, Rc.v, Rc.o, Rc.i, Rc.p, Rc.q, Rc.s, Rc.b, Rc.k, Rc.g, Rc.S, Rc.D]
  simp only [envOf2]
  have hs := how.sl (W := W)
  rw [List.length_map, hn] at hs
  have hsame : ∀ (hcl : c ∈ l ∨ 1114111 < c), InsR N h l c (.slice (some ⟨b, 0, some 0⟩) n 1) h := fun hcl => ⟨l, _, _, by rw [hn], hoV, hP, fun y => by
    rcases hcl with hcl | hcl
    · constructor
      · exact .inl
      · rintro (h | ⟨rfl, _⟩)
        · exact h
        · exact hcl
    · constructor
      · exact .inl
      · rintro (h | ⟨_, h⟩)
        · exact h
        · omega, by omega, Keeps.refl h⟩
  repeat refine zs ?_
  refine WPX.loop hmix (fun k σ => ∃ m : Nat, m < n ∧ k = m ∧ eget σ.e 0 = .slice (some ⟨b, 0, some 0⟩) n 1 ∧ eget σ.e 1 = .int .i32 c ∧ eget σ.e 5 = .int .i64 ((m + 1 : Nat) : Int) ∧ σ.h = h ∧ Hid (∀ (j : Nat) y, m < j → l[j]? = some y → c < y)) (n - 1) ?h0 ?round
  case h0 =>
    have e : ((n - 1 + 1 : Nat) : Int) = n := by omega
    exact ⟨n - 1, by omega, rfl, zv, zv, zv, rfl, fun j y hj hy => by have := (List.getElem?_eq_some_iff.1 hy).1; omega⟩
  rintro m ⟨e, hh⟩ ⟨_, hm, rfl, e0, e1, e5, hhe, hhi⟩
  dsimp only at e0 e1 e5 hhe
  subst hhe
  obtain ⟨x, hx⟩ : ∃ x, l[m]? = some x := ⟨_, List.getElem?_eq_getElem (by omega)⟩
  obtain ⟨d, hd1, hr, _⟩ := Sl.one hs hx (u := .int .i32 x) rfl
  have hwm : IntKind.i64.wrap (((m + 1 : Nat) : Int) - 1) = (m : Int) := (wrap_i64 (by omega) (by omega)).trans (by omega)
  have hgt : ((m + 1 : Nat) : Int) > 0 := by omega
  by_cases hxc : x > c
  · obtain ⟨m', rfl⟩ : ∃ m', m = m' + 1 := ⟨m - 1, by
      rcases Nat.eq_zero_or_pos m with h0 | h0
      · subst h0; rw [hP.hd] at hx; cases hx; omega
      · omega⟩
    have hhi' : Hid (∀ (j : Nat) y, m' < j → l[j]? = some y → c < y) := fun j y hj hy => by
      rcases Nat.lt_or_ge (m' + 1) j with h1 | h1
      · exact hhi j y h1 hy
      · obtain rfl : j = m' + 1 := by omega
        rw [hx] at hy; cases hy; exact hxc
    clear hx hsame hhi
    repeat refine zs ?_
    exact ⟨m', by omega, m', by omega, rfl, zv, zv, zv, rfl, hhi'⟩
  · by_cases hbig : c > 1114111
    · have hR := hsame (.inr hbig)
      clear hx hsame
      repeat (first | (with_reducible first | apply x_seq | apply x_block | apply x_region | apply x_exit | apply x_ret | apply x_skip | apply t_normal | apply t_exit | apply t_ret | apply b_normal | apply b_ret | apply b_same | apply ops_nil | apply g_T | apply g_F | apply c_T | apply c_F) | (with_reducible refine b_other (by decide) ?_) | ((with_reducible apply x_draws); (with_reducible apply d_pure); (next => kernel_rfl)) | ((with_reducible first | apply ops_d | apply ops_g | apply x_c); (next => simp only [rop, opd, celsL, oneV, aadd, binV, isSh, intBin, scEq, keq, unV, fillL, oP, oA, oS, wantedA, BX, BL, BS, BU, seval, *]; with_reducible exact rfl)))
      refine ⟨.inr rfl, _, rfl, ?_⟩
      simp only [resOf, rop, opd, celsL, oneV, aadd, binV, isSh, intBin, scEq, keq, unV, fillL, oP, oA, oS, wantedA, BX, BL, BS, seval, *]
    · by_cases heq : x = c
      · have hR := hsame (.inl (by rw [← heq]; exact List.mem_of_getElem? hx))
        clear hx hsame
        have hxx : ¬ c > c := by omega
        subst heq
        repeat refine zs ?_
        refine ⟨.inr rfl, _, rfl, ?_⟩
        simp only [resOf, rop, opd, celsL, oneV, aadd, binV, isSh, intBin, scEq, keq, unV, fillL, oP, oA, oS, wantedA, BX, BL, BS, seval, *]
      · obtain ⟨hP', hmem⟩ := insAt_pts hP hx (by omega) (by omega) hhi
        have hlen' := insAt_len l (m + 1) c
        obtain ⟨H1, hH1⟩ : ∃ H1, H1 = hh.new (.cells [.int .i32 c]) := ⟨_, rfl⟩
        have hk1 : Keeps hh H1 := by rw [hH1]; exact (Keeps.refl _).new _
        have hn1 : H1.next = hh.next + 1 := by rw [hH1]; rfl
        have hg1 : H1.own.get hh.next = some (.cells [.int .i32 c]) := by rw [hH1, AHeap.new_get, if_pos rfl]
        have hw1 := how.keeps hk1
        have hbl := how.lt
        have hne : ¬ b = hh.next := by omega
        -- the front
        have hy1 := Ow.news (W := W) hw1 (p := 0) (m := m + 1) (by rw [List.length_map]; omega)
        rw [Nat.zero_mul, List.drop_zero, ← List.map_take] at hy1
        have hl1 : ((l.take (m + 1)).map runeV).length = m + 1 := by rw [List.length_map, List.length_take]; omega
        obtain ⟨a2, c2, H2, happ2, ho2, hk2, hn2, hs2, hf2, _⟩ := OwnV.appX (W := W) (N := H1.next) (OwnV.nil H1.next H1 1) (Keeps.refl H1) (Nat.le_refl _) (Nat.le_refl _) (by rw [hl1]; exact hy1) (fun e he => by obtain ⟨x, _, rfl⟩ := List.mem_map.1 he; rfl) (runes_one _) (by simp; omega)
        rw [List.nil_append] at happ2 ho2
        rw [hl1, List.length_nil] at happ2
        -- the point
        have hg2 : H2.own.get hh.next = some (.cells [.int .i32 c]) := by rw [hk2.same _ (by omega)]; exact hg1
        obtain ⟨a3, c3, H3, happ3, ho3, hk3, hn3, hs3, hf3⟩ := OwnV.app (W := W) (h0 := H1) (b' := hh.next) (e := runeV c) ho2 hk2 (Nat.le_refl _) (by omega) hg2 (by omega) rfl rfl (by rw [hl1]; omega)
        have hl3 : ((l.take (m + 1)).map runeV ++ [runeV c]).length = m + 2 := by rw [List.length_append, hl1]; rfl
        rw [hl1, hl3] at happ3
        -- the end
        have hy4 := Ow.news (W := W) (hw1.keeps hk3) (p := m + 1) (m := n - (m + 1)) (by rw [List.length_map]; omega)
        have hdr : (((l.map runeV).drop (m + 1)).take (n - (m + 1))) = (l.drop (m + 1)).map runeV := by
          rw [← List.map_drop, List.take_of_length_le (by rw [List.length_map, List.length_drop]; omega)]
        rw [hdr] at hy4
        have hl4 : ((l.drop (m + 1)).map runeV).length = n - (m + 1) := by rw [List.length_map, List.length_drop]; omega
        obtain ⟨a4, c4, H4, happ4, ho4, hk4, _⟩ := OwnV.appX (W := W) (h0 := H1) ho3 hk3 (Nat.le_refl _) (by omega) (by rw [hl4]; exact hy4) (fun e he => by obtain ⟨x, _, rfl⟩ := List.mem_map.1 he; rfl) (runes_one _) (by rw [hl3, hl4]; omega)
        have hfin : ((l.take (m + 1)).map runeV ++ [runeV c]) ++ (l.drop (m + 1)).map runeV = (insAt l (m + 1) c).map runeV := by simp [insAt]
        rw [hfin] at happ4 ho4
        rw [hl3, List.length_map] at happ4
        have hg3 : H3.own.get hh.next = some (.cells [.int .i32 c]) := by rw [hk3.same _ (by omega)]; exact hg1
        have hR : InsR N hh l c (.slice a4 (insAt l (m + 1) c).length c4) H4 := ⟨_, a4, c4, rfl, ho4.base (by omega), hP', fun y => by
          rw [hmem y]
          constructor
          · rintro (h | h)
            · exact .inl h
            · exact .inr ⟨h, by omega⟩
          · rintro (h | h)
            · exact .inl h
            · exact .inr h.1, by omega, hk1.trans hk4⟩
        have hsh := slc_hi (b := b) (esz := 1) (show m + 1 ≤ n by omega)
        have hsl := slc_lo (b := b) (esz := 1) (show m + 1 ≤ n by omega)
        have hlt2 : hh.next < H2.next := by omega
        have hlt3 : hh.next < H3.next := by have := hk3.le; omega
        have heqd : decide (x = c) = false := decide_eq_false heq
        rw [hH1] at happ2
        clear hx hsame hhi hP' hmem hlen' hy1 hl1 ho2 hs2 hf2 ho3 hs3 hf3 hl3 hy4 hdr hl4 ho4 hfin hk1 hn1 hg1 hw1 hk2 hk3 hk4 hn2 hn3 heq
        repeat refine zs ?_
        refine x_draws (d_make (by kernel_rfl) ?_)
        repeat (first | (with_reducible first | apply x_seq | apply x_block | apply x_region | apply x_exit | apply x_ret | apply x_skip | apply t_normal | apply t_exit | apply t_ret | apply b_normal | apply b_ret | apply b_same | apply ops_nil | apply g_T | apply g_F | apply c_T | apply c_F) | (with_reducible refine b_other (by decide) ?_) | ((with_reducible apply x_draws); (with_reducible apply d_pure); (next => kernel_rfl)) | ((with_reducible first | apply ops_d | apply ops_g | apply x_c); (next => simp only [rop, opd, celsL, oneV, aadd, binV, isSh, intBin, scEq, keq, unV, fillL, oP, oA, oS, wantedA, BX, BL, BS, BU, seval, *]; with_reducible exact rfl)))
        refine ⟨?chk0, ?ids0, ?nd0, ?_⟩
        case chk0 =>
          intro o ho
          simp only [List.mem_cons, List.not_mem_nil, or_false] at ho
          rcases ho with rfl | rfl | rfl | rfl | rfl | rfl | rfl | rfl <;> simp only [Chk, kindOf, dval, mkOf, mkVal, ownId, rop, opd, celsL, oneV, aadd, binV, isSh, intBin, scEq, keq, unV, fillL, oP, oA, oS, wantedA, BX, BL, BS, BU, seval, *]
          exact ⟨_, rfl, trivial, by omega, rfl⟩
        case ids0 =>
          intro i hi
          simp only [BM, rop, opd, celsL, oneV, aadd, binV, isSh, intBin, scEq, keq, unV, fillL, oP, oA, oS, wantedA, BX, BL, BS, BU, seval, *, List.mem_cons, List.not_mem_nil, or_false] at hi
          subst hi
          exact Nat.le_refl _
        case nd0 =>
          simp only [BM, rop, opd, celsL, oneV, aadd, binV, isSh, intBin, scEq, keq, unV, fillL, oP, oA, oS, wantedA, BX, BL, BS, BU, seval, *]
          exact List.nodup_cons.2 ⟨List.not_mem_nil, List.nodup_nil⟩
        show AOp _ _ _ _ _
        apply aop_do
        (next => simp only [rop, opd, celsL, oneV, aadd, binV, isSh, intBin, scEq, keq, unV, fillL, oP, oA, oS, wantedA, BX, BL, BS, BU, seval, *]; with_reducible exact rfl)
        refine d_chkN ?nd1 ?chk1 ?_
        case chk1 =>
          intro o ho
          simp only [List.mem_cons, List.not_mem_nil, or_false] at ho
          rcases ho with rfl | rfl | rfl | rfl | rfl <;> simp only [Chk, kindOf, dval, mkOf, mkVal, ownId, rop, opd, celsL, oneV, aadd, binV, isSh, intBin, scEq, keq, unV, fillL, oP, oA, oS, wantedA, BX, BL, BS, BU, seval, *]
          exact ⟨_, rfl, trivial, trivial, rfl⟩
        case nd1 =>
          simp only [BM, rop, opd, celsL, oneV, aadd, binV, isSh, intBin, scEq, keq, unV, fillL, oP, oA, oS, wantedA, BX, BL, BS, BU, seval, *]
          exact List.nodup_cons.2 ⟨List.not_mem_nil, List.nodup_nil⟩
        apply aop_do
        (next => simp only [rop, opd, celsL, oneV, aadd, binV, isSh, intBin, scEq, keq, unV, fillL, oP, oA, oS, wantedA, BX, BL, BS, BU, seval, *]; with_reducible exact rfl)
        refine d_chk (by kernel_rfl) ?chk2 ?_
        case chk2 =>
          intro o ho
          simp only [List.mem_cons, List.not_mem_nil, or_false] at ho
          rcases ho with rfl | rfl | rfl <;> simp only [Chk, kindOf, dval, rop, opd, celsL, oneV, aadd, binV, isSh, intBin, scEq, keq, unV, fillL, oP, oA, oS, wantedA, BX, BL, BS, BU, seval, *]
        apply aop_do
        (next => simp only [rop, opd, celsL, oneV, aadd, binV, isSh, intBin, scEq, keq, unV, fillL, oP, oA, oS, wantedA, BX, BL, BS, BU, seval, *]; with_reducible exact rfl)
        refine d_pure (by kernel_rfl) ?_
        repeat (first | (with_reducible first | apply x_seq | apply x_block | apply x_region | apply x_exit | apply x_ret | apply x_skip | apply t_normal | apply t_exit | apply t_ret | apply b_normal | apply b_ret | apply b_same | apply ops_nil | apply g_T | apply g_F | apply c_T | apply c_F) | (with_reducible refine b_other (by decide) ?_) | ((with_reducible apply x_draws); (with_reducible apply d_pure); (next => kernel_rfl)) | ((with_reducible first | apply ops_d | apply ops_g | apply x_c); (next => simp only [rop, opd, celsL, oneV, aadd, binV, isSh, intBin, scEq, keq, unV, fillL, oP, oA, oS, wantedA, BX, BL, BS, BU, seval, *]; with_reducible exact rfl)))
        refine ⟨.inr rfl, _, rfl, ?_⟩
        simp only [resOf, rop, opd, celsL, oneV, aadd, binV, isSh, intBin, scEq, keq, unV, fillL, oP, oA, oS, wantedA, BX, BL, BS, BU, seval, *]
end Go.Proofs.YtlipmjpapkfaeaaGreatDoor.Fn
end
section
set_option linter.unusedSimpArgs false
set_option linter.unusedVariables false
namespace Go.Mach
open Go Go.RowKit
def hdrV (v : Value) : List Value := [v]
section
variable {α : Type} {f : α → List Value} {W : World}
structure LsV (W : World) (h : AHeap) (esz : Nat) (f : α → List Value) (v : Value) (vs : List Value) (ls : List (List α)) : Prop where
  out : Sl W h 1 v (vs.map hdrV)
  len : vs.length = ls.length
  inner : ∀ (i : Nat) (x : Value) (l : List α), vs[i]? = some x → ls[i]? = some l → Sl W h esz x (l.map f)
theorem LsV.keeps {h h' : AHeap} {esz : Nat} {v : Value} {vs : List Value} {ls : List (List α)} (o : LsV W h esz f v vs ls) (k : Keeps h h') : LsV W h' esz f v vs ls :=
  ⟨o.out.keeps k, o.len, fun i x l hx hl => (o.inner i x l hx hl).keeps k⟩
theorem LsV.sub {g h : AHeap} {esz : Nat} {v : Value} {vs : List Value} {ls : List (List α)} (o : LsV W g esz f v vs ls) (k : Mach.Sub g h) : LsV W h esz f v vs ls :=
  ⟨o.out.sub k, o.len, fun i x l hx hl => (o.inner i x l hx hl).sub k⟩
structure LL (W : World) (N : Nat) (h : AHeap) (esz : Nat) (f : α → List Value) (a : Option Addr) (c : Nat) (vs : List Value) (ls : List (List α)) (g : AHeap) : Prop where
  out : OwnV N h a c 1 (vs.map hdrV)
  sub : Mach.Sub g h
  g0 : ∀ j, j < N → g.own.get j = none
  ga : ∀ x, a = some x → g.own.get x.block = none
  len : vs.length = ls.length
  inner : ∀ (i : Nat) (x : Value) (l : List α), vs[i]? = some x → ls[i]? = some l → Sl W g esz x (l.map f)
theorem LL.nil (N : Nat) (h : AHeap) (esz : Nat) : LL W N h esz f none 0 [] [] AHeap.empty :=
  ⟨OwnV.nil _ _ _, ⟨Nat.zero_le _, fun i b hb => by cases hb⟩, fun _ _ => rfl, (fun x hx => by cases hx), rfl, fun i x l hx => by simp at hx⟩
theorem LL.keeps {N : Nat} {h h' : AHeap} {esz : Nat} {a : Option Addr} {c : Nat} {vs : List Value} {ls : List (List α)} {g : AHeap} (o : LL W N h esz f a c vs ls g) (k : Keeps h h') : LL W N h' esz f a c vs ls g :=
  ⟨o.out.keeps k, o.sub.keeps k, o.g0, o.ga, o.len, o.inner⟩
theorem LL.but {M : Nat → Prop} {N : Nat} {h h' : AHeap} {esz : Nat} {a : Option Addr} {c : Nat} {vs : List Value} {ls : List (List α)} {g : AHeap} (o : LL W N h esz f a c vs ls g) (k : KeepsBut M h h') (hM : ∀ i, M i → g.own.get i = none) (ha : ∀ y, a = some y → ¬ M y.block) : LL W N h' esz f a c vs ls g :=
  ⟨o.out.but k ha, o.sub.but k hM, o.g0, o.ga, o.len, o.inner⟩
theorem LL.read {N : Nat} {h : AHeap} {esz : Nat} {a : Option Addr} {c : Nat} {vs : List Value} {ls : List (List α)} {g : AHeap} (o : LL W N h esz f a c vs ls g) : LsV W h esz f (.slice a vs.length c) vs ls :=
  ⟨by have := o.out.sl (W := W); rwa [List.length_map] at this, o.len, fun i x l hx hl => (o.inner i x l hx hl).sub o.sub⟩
theorem LL.fresh {N : Nat} {h : AHeap} {esz : Nat} {a : Option Addr} {c : Nat} {vs : List Value} {ls : List (List α)} {g : AHeap} (o : LL W N h esz f a c vs ls g) : ∃ g', Mach.Sub g' h ∧ (∀ j, j < N → g'.own.get j = none) ∧ LsV W g' esz f (.slice a vs.length c) vs ls ∧
    ∀ a2, Apart a a2 → (∀ x, a2 = some x → g.own.get x.block = none) → ∀ x, a2 = some x → g'.own.get x.block = none := by
  obtain ⟨g', s1, s2, o1, n1, p1⟩ := o.out.freeze o.sub o.ga
  refine ⟨g', s1, fun j hj => n1 j hj (o.g0 j hj), ⟨?_, o.len, fun i x l hx hl => (o.inner i x l hx hl).sub s2⟩, p1⟩
  have := o1.sl (W := W); rwa [List.length_map] at this
theorem LL.push {N : Nat} {h0 h : AHeap} {esz : Nat} {a : Option Addr} {c : Nat} {vs : List Value} {ls : List (List α)} {g : AHeap} (o : LL W N h esz f a c vs ls g) (k : Keeps h0 h) (k1 : h0.next ≤ N) (k2 : N ≤ h.next) {la : Option Addr} {lc : Nat} {l : List α}
    (ol : OwnV N h la lc esz (l.map f)) (hap : Apart la a) (hgl : ∀ x, la = some x → g.own.get x.block = none) {b' n : Nat} (hn : l.length = n) (hb : h.own.get b' = some (.cells [.slice la n lc])) (hb' : b' < h.next) (hs : vs.length + 1 ≤ 1073741824) :
    ∃ a' c' h', appA W h 1 (.slice a vs.length c) (.slice (some ⟨b', 0, some 0⟩) 1 1) = some (.slice a' (vs.length + 1) c', h') ∧ Keeps h0 h' ∧ h'.next = h.next + 1 ∧
      (∀ i, i < h.next → NotIn a i → h'.own.get i = h.own.get i) ∧ (∀ i, i < h.next → NotIn a' i) ∧
      ∃ g', LL W N h' esz f a' c' (vs ++ [.slice la n lc]) (ls ++ [l]) g' ∧ (∀ i, g.own.get i = none → (∀ x, la = some x → x.block ≠ i) → g'.own.get i = none) := by
  subst hn
  obtain ⟨a', c', h', g1, g2, g3, g4, g5, g6⟩ := OwnV.app (W := W) (e := [.slice la l.length lc]) o.out k k1 k2 hb hb' rfl rfl (by rw [List.length_map]; exact hs)
  rw [List.length_map, List.length_append, List.length_map, List.length_singleton] at g1
  refine ⟨a', c', h', g1, g3, g4, g5, g6, ?_⟩
  have e1 : vs.map hdrV ++ [[Value.slice la l.length lc]] = (vs ++ [Value.slice la l.length lc]).map hdrV := by simp [hdrV]
  rw [e1] at g2
  have hsub : Mach.Sub g h' := o.sub.step g5 (by omega) o.ga
  have hfresh : ∀ x, a' = some x → g.own.get x.block = none := fun x hx => by
    cases hg : g.own.get x.block with
    | none => rfl
    | some b => exact absurd rfl (g6 x.block (o.sub.same _ _ hg).1 x hx)
  have ol' : OwnV N h' la lc esz (l.map f) := ol.other g5 (by omega) hap
  have hap' : Apart la a' := ol.apartNew g6
  obtain ⟨g', s1, s2, o1, n1, p1⟩ := ol'.freeze hsub hgl
  refine ⟨g', ⟨g2, s1, fun j hj => n1 j hj (o.g0 j hj), p1 a' hap' hfresh, by simp [o.len], fun i x l2 hx hl2 => ?_⟩, fun i hi hli => ?_⟩
  · by_cases hi : i < vs.length
    · rw [List.getElem?_append_left hi] at hx
      rw [List.getElem?_append_left (by rw [← o.len]; exact hi)] at hl2
      exact (o.inner i x l2 hx hl2).sub s2
    · rw [List.getElem?_append_right (by omega)] at hx
      rw [List.getElem?_append_right (by rw [← o.len]; omega), ← o.len] at hl2
      have hi0 : i - vs.length = 0 := by have := (List.getElem?_eq_some_iff.1 hx).1; simp at this; exact this
      rw [hi0] at hx hl2
      simp at hx hl2
      subst hx hl2
      have := o1.sl (W := W); rwa [List.length_map] at this
  · exact p1 (some ⟨i, 0, some 0⟩) (fun x y hx hy e => by cases hy; exact hli x hx e) (fun x hx => by cases hx; exact hi) ⟨i, 0, some 0⟩ rfl
end
end Go.Mach
end
section
set_option linter.unusedSimpArgs false
set_option linter.unusedVariables false
set_option maxRecDepth 100000
namespace Go.Proofs.YtlipmjpapkfaeaaGreatDoor.Fn
open Go Go.Mach Go.RowKit Go.Proofs
attribute [local irreducible] AOps WPX DOps thenS blockS AOp GOps CPick
def rngV (r : Int × Int) : List Value := [.int .i32 r.1, .int .i32 r.2]
def rngOf (x : Arc3) : Int × Int := (x.1, x.2.1)
def rngsA (A : Aut) : List (List (Int × Int)) := A.arcs.map fun l => l.map rngOf
theorem rngsA_len (A : Aut) : (rngsA A).length = A.arcs.length := by simp [rngsA]
set_option maxHeartbeats 8000000 in
theorem f87_ok (W : World) (h : AHeap) (la : Option Addr) (n lc : Nat) (As : List Aut) (cs : List (Value × Value × List Value)) (hlen : cs.length = As.length) (hAn : As.length = n)
    (hsl : Sl W h 2 (.slice la n lc) (cs.map fun c => [c.1, c.2.1]))
    (hA : ∀ (i : Nat) c A, cs[i]? = some c → As[i]? = some A → AutoV W h (.agg #[c.1, c.2.1]) A c.1 c.2.1 c.2.2)
    (hn : n < 1073741824) (hb : ∀ A ∈ As, ∀ l ∈ A.arcs, l.length < 1073741824) (hb1 : ∀ A ∈ As, A.arcs.length < 1073741824) (hb2 : (As.flatMap rngsA).length < 1073741824) :
    ACalls Tryz.prog W 87 [.slice la n lc] h (fun r h' => (∃ a c vs g, r = .slice a vs.length c ∧ LL W h.next h' 2 rngV a c vs (As.flatMap rngsA) g) ∧ Keeps h h') := by
  refine ACalls_ofX hmix c87 (Nat.le_of_ble_eq_true rfl) ?_
  unfold r87
  dsimp only [Rc.t, Rc.u, Rc.v, Rc.o, Rc.i, Rc.p, Rc.q, Rc.s, Rc.b, Rc.k, Rc.g, Rc.S, Rc.D]
  simp only [envOf1]
  repeat refine zs ?_
  refine WPX.loop hmix (fun k σ => ∃ (i : Nat) (a : Option Addr) (c : Nat) (vs : List Value) (g : AHeap) (ls : List (List (Int × Int))), i ≤ n ∧ k = n - i ∧ eget σ.e 11 = .slice la n lc ∧ eget σ.e 12 = .int .i64 n ∧ eget σ.e 13 = .int .i64 (i : Nat) ∧ eget σ.e 3 = .slice a vs.length c ∧
    Keeps h σ.h ∧ LL W h.next σ.h 2 rngV a c vs ls g ∧ Hid (ls = (As.take i).flatMap rngsA)) n ?h0 ?round
  case h0 => exact ⟨0, none, 0, [], AHeap.empty, [], Nat.zero_le _, rfl, zv, zv, zv, (by simp only [rop, opd, celsL, oneV, aadd, binV, isSh, intBin, scEq, keq, unV, fillL, oP, oA, oS, wantedA, BX, BL, BS, seval, *, List.length_nil]), Keeps.refl h, LL.nil _ _ _, rfl⟩
  rintro k ⟨e, hh⟩ ⟨i, a, c, vs, g, ls, hi, rfl, e11, e12, e13, e3, hk, hL, hls⟩
  dsimp only at e11 e12 e13 e3 hk hL
  by_cases hlt : i < n
  · have hltI : (i : Int) < n := by omega
    obtain ⟨A, hAi⟩ : ∃ A, As[i]? = some A := ⟨_, List.getElem?_eq_getElem (by omega)⟩
    obtain ⟨ct, hci⟩ : ∃ ct, cs[i]? = some ct := ⟨_, List.getElem?_eq_getElem (by omega)⟩
    have hAV := hA i ct A hci hAi
    have hAm := List.mem_of_getElem? hAi
    obtain ⟨vf, va, ws⟩ := ct
    obtain ⟨d, hd1, _, hd3⟩ := (hsl.keeps hk).at (i := i) (x := [vf, va]) (by simp [hci])
    have hld := aloadN_of _ _ hd3
    simp only [List.length_cons, List.length_nil, Nat.reduceAdd] at hld
    have haS := hAV.a
    obtain ⟨aa, ac, has⟩ := haS.len
    have hfS := hAV.f
    obtain ⟨fa, fc, hfs⟩ := hfS.len
    obtain ⟨m, hmw⟩ : ∃ m, m = ws.length := ⟨_, rfl⟩
    have hmm : m = A.arcs.length := hmw.trans hAV.l
    rw [List.length_map, ← hmw] at has
    rw [List.length_map] at hfs
    simp only at has hfs haS hfS
    subst has hfs
    have hwi : IntKind.i64.wrap ((i : Int) + 1) = ((i + 1 : Nat) : Int) := wrap_i64 (by omega) (by omega)
    obtain ⟨G, hG⟩ : ∃ G, G = (hh.new (.cells [.slice none 0 0, .slice none 0 0])).put hh.next (.cells [.slice fa A.fin.length fc, .slice aa m ac]) := ⟨_, rfl⟩
    have hkG : Keeps hh G := by rw [hG]; exact ((Keeps.refl hh).new _).put (Nat.le_refl _) _
    have hm := hb1 A hAm
    have hbl := hb A hAm
    have hAn1 : ((As.take (i + 1)).flatMap rngsA).length ≤ (As.flatMap rngsA).length := by
      conv => rhs; rw [← List.take_append_drop (i + 1) As]
      rw [List.flatMap_append, List.length_append]; omega
    have htk : (As.take (i + 1)).flatMap rngsA = ls ++ rngsA A := by
      rw [List.take_add_one, hAi, List.flatMap_append, ← hls.out]; simp
    rw [← hmm] at hm
    have hlsl : ls.length + m < 1073741824 := by
      have e := congrArg List.length htk
      rw [List.length_append, rngsA_len, ← hmm] at e
      omega
    have hLG : LL W h.next G 2 rngV a c vs ls g := hL.keeps hkG
    have hkhG : Keeps h G := hk.trans hkG
    have htk' : Hid ((As.take (i + 1)).flatMap rngsA = ls ++ rngsA A) := htk
    clear hd3 hls hAn1 hAi hci htk hfS
    replace hmm : Hid (m = A.arcs.length) := hmm
    replace hmw : Hid (m = ws.length) := hmw
    rw [hG] at hLG hkhG
    repeat refine zs ?_
    refine WPX.loop hmix (fun k σ => ∃ (j : Nat) (a : Option Addr) (c : Nat) (vs : List Value) (g : AHeap) (ls' : List (List (Int × Int))), j ≤ m ∧ k = m - j ∧ eget σ.e 11 = .slice la n lc ∧ eget σ.e 12 = .int .i64 n ∧ eget σ.e 13 = .int .i64 (i : Nat) ∧ eget σ.e 3 = .slice a vs.length c ∧
      eget σ.e 18 = .slice aa m ac ∧ eget σ.e 19 = .int .i64 m ∧ eget σ.e 20 = .int .i64 (j : Nat) ∧ Keeps h σ.h ∧ LL W h.next σ.h 2 rngV a c vs ls' g ∧ Hid (ls' = ls ++ (rngsA A).take j)) m ?h1 ?round1
    case h1 => exact ⟨0, a, c, vs, g, ls, Nat.zero_le _, rfl, zv, zv, zv, zv, zv, zv, zv, hkhG, hLG, by show _ = _; simp⟩
    clear hkhG hLG hL hk hkG e3 e11 e12 e13 hd1 hld hG
    rintro k ⟨e2, h2⟩ ⟨j, a, c, vs, g, ls', hj, rfl, e11, e12, e13, e3, e18, e19, e20, hk, hL, hls'⟩
    dsimp only at e11 e12 e13 e3 e18 e19 e20 hk hL
    by_cases hjl : j < m
    · have hjlI : (j : Int) < m := by omega
      have hwj : IntKind.i64.wrap ((j : Int) + 1) = ((j + 1 : Nat) : Int) := wrap_i64 (by omega) (by omega)
      obtain ⟨x, hx⟩ : ∃ x, ws[j]? = some x := ⟨_, List.getElem?_eq_getElem (by have := hmw.out; omega)⟩
      obtain ⟨l, hl⟩ : ∃ l, A.arcs[j]? = some l := ⟨_, List.getElem?_eq_getElem (by have := hmm.out; omega)⟩
      have hll := hbl l (List.mem_of_getElem? hl)
      obtain ⟨d, hd1, hr, _⟩ := Sl.one (f := fun x => [x]) (haS.keeps hk) hx (u := x) rfl
      have hxs := hAV.e j x l hx hl
      obtain ⟨xa, xc, hxe⟩ := hxs.len
      rw [List.length_map] at hxe
      subst hxe
      obtain ⟨p, hp⟩ : ∃ p, p = l.length := ⟨_, rfl⟩
      rw [← hp] at hxs hr hll
      have hrl : (rngsA A)[j]? = some (l.map rngOf) := by simp [rngsA, hl]
      replace hp : Hid (p = l.length) := hp
      clear hx hl
      repeat refine zs ?_
      refine WPX.loop hmix (fun k σ => ∃ (q : Nat) (b : Option Addr) (bc : Nat) (L : List (Int × Int)), q ≤ p ∧ k = p - q ∧ eget σ.e 11 = .slice la n lc ∧ eget σ.e 12 = .int .i64 n ∧ eget σ.e 13 = .int .i64 (i : Nat) ∧ eget σ.e 3 = .slice a vs.length c ∧
        eget σ.e 18 = .slice aa m ac ∧ eget σ.e 19 = .int .i64 m ∧ eget σ.e 20 = .int .i64 (j : Nat) ∧ eget σ.e 24 = .slice xa p xc ∧ eget σ.e 25 = .int .i64 p ∧ eget σ.e 26 = .int .i64 (q : Nat) ∧ eget σ.e 8 = .slice b q bc ∧ Keeps h2 σ.h ∧ OwnV h2.next σ.h b bc 2 (L.map rngV) ∧ Hid (L = (l.map rngOf).take q) ∧ Hid (L.length = q)) p ?h2 ?round2
      case h2 => exact ⟨0, none, 0, [], Nat.zero_le _, rfl, zv, zv, zv, zv, zv, zv, zv, zv, zv, zv, zv, Keeps.refl _, OwnV.nil _ _ _, rfl, rfl⟩
      clear e11 e12 e13 e3 e18 e19 e20 hd1 hr
      rintro k ⟨e3, h3⟩ ⟨q, b, bc, L, hq, rfl, e11, e12, e13, e3', e18, e19, e20, e24, e25, e26, e8, hk3, hb3, hLq, hLn⟩
      dsimp only at e11 e12 e13 e3' e18 e19 e20 e24 e25 e26 e8 hk3 hb3
      have hkh3 : Keeps h h3 := hk.trans hk3
      have hn2 := hk.le
      have hn3 := hk3.le
      by_cases hqp : q < p
      · have hqpI : (q : Int) < p := by omega
        have hwq : IntKind.i64.wrap ((q : Int) + 1) = ((q + 1 : Nat) : Int) := wrap_i64 (by omega) (by omega)
        obtain ⟨⟨f, t, s⟩, hx⟩ : ∃ x, l[q]? = some x := ⟨_, List.getElem?_eq_getElem (by have := hp.out; omega)⟩
        obtain ⟨d, hd1, _, hd3⟩ := ((hxs.keeps hk).keeps hk3).at (i := q) (x := arcV (f, t, s)) (by simp [hx])
        have hld := aloadN_of _ _ hd3
        simp only [arcV, List.length_cons, List.length_nil, Nat.reduceAdd] at hld
        obtain ⟨H1, hH1⟩ : ∃ H1, H1 = (h3.new (.cells [.int .i32 0, .int .i32 0, .int .i64 0])).put h3.next (.cells [.int .i32 f, .int .i32 t, .int .i64 s]) := ⟨_, rfl⟩
        have hkk : Keeps h3 H1 := by rw [hH1]; exact ((Keeps.refl h3).new _).put (Nat.le_refl _) _
        have hn1 : H1.next = h3.next + 1 := by rw [hH1]; rfl
        obtain ⟨b', bc', h4, happ, hb4, hk4, _⟩ := OwnV.app (W := W) (h0 := h2) (h := H1.new (.cells (rngV (f, t)))) (b' := h3.next + 1) (e := rngV (f, t)) ((hb3.keeps hkk).keeps ((Keeps.refl _).new _)) ((hk3.trans hkk).new _) (Nat.le_refl _)
          (by rw [AHeap.new_next]; omega) (by rw [AHeap.new_get, hn1, if_pos rfl]) (by rw [AHeap.new_next]; omega) rfl rfl (by rw [List.length_map, hLn.out]; omega)
        rw [List.length_append, List.length_map, List.length_singleton, hLn.out] at happ
        have hL' : Hid (L ++ [(f, t)] = (l.map rngOf).take (q + 1)) := by
          show _ = _
          rw [List.take_add_one, ← hLq.out]; simp [hx, rngOf]
        have hLn' : Hid ((L ++ [(f, t)]).length = q + 1) := by show _ = _; rw [List.length_append, hLn.out]; rfl
        have hb4' : OwnV h2.next h4 b' bc' 2 ((L ++ [(f, t)]).map rngV) := by rw [List.map_append]; exact hb4
        simp only [rngV] at happ
        rw [hH1] at happ
        clear hd3 hx hb4 hkk hn1 hH1
        repeat refine zs ?_
        exact ⟨p - (q + 1), by omega, q + 1, b', bc', _, by omega, rfl, zv, zv, zv, zv, zv, zv, zv, zv, zv, zv, zv, hk4, hb4', hL', hLn'⟩
      · have hqpI : ¬ (q : Int) < p := by omega
        have hqe : q = p := by omega
        have hLe : L = l.map rngOf := by rw [hLq.out, List.take_of_length_le (by rw [List.length_map, ← hp.out]; omega)]
        subst hqe
        have hL3 := (hL.keeps hk3).keeps ((Keeps.refl h3).new (.cells [.slice b q bc]))
        have hlen := hL3.len
        obtain ⟨a', c', h4, happ, hk4, hn4, _, _, g', hL4, _⟩ := LL.push (W := W) (h0 := h) (h := h3.new (.cells [.slice b q bc])) (b' := h3.next) (n := q) hL3 (hkh3.new _) (Nat.le_refl _) (by rw [AHeap.new_next]; omega) ((hb3.base hn2).keeps ((Keeps.refl _).new _))
          (fun x y hx hy => by have := (hb3.lt hx).1; have := (hL.out.lt hy).2; omega)
          (fun x hx => by
            cases hg : g.own.get x.block with
            | none => rfl
            | some bb => have := (hL.sub.same _ _ hg).1; have := (hb3.lt hx).1; omega)
          hLn.out (by rw [AHeap.new_get, if_pos rfl]) (by rw [AHeap.new_next]; omega) (by
            have e1 := hls'.out
            rw [hlen, e1, List.length_append, List.length_take]
            omega)
        have hvl : (vs ++ [Value.slice b q bc]).length = vs.length + 1 := by simp
        have hls2 : Hid (ls' ++ [L] = ls ++ (rngsA A).take (j + 1)) := by
          show _ = _
          rw [hls'.out, List.append_assoc, List.take_add_one, hrl, hLe]; rfl
        clear hlen hL3 hLe hrl
        repeat refine zs ?_
        exact ⟨m - (j + 1), by omega, j + 1, a', c', _, g', _, by omega, rfl, zv, zv, zv, zv, zv, zv, zv, hk4, hL4, hls2⟩
    · have hjlI : ¬ (j : Int) < m := by omega
      have hls2 : Hid (ls' = (As.take (i + 1)).flatMap rngsA) := by
        show _ = _
        rw [htk'.out, hls'.out, List.take_of_length_le (by rw [rngsA_len, ← hmm.out]; omega)]
      repeat refine zs ?_
      exact ⟨n - (i + 1), by omega, i + 1, a, c, vs, g, _, by omega, rfl, zv, zv, zv, zv, hk, hL, hls2⟩
  · have hltI : ¬ (i : Int) < n := by omega
    have hls2 : ls = As.flatMap rngsA := by rw [hls.out, List.take_of_length_le (by omega)]
    rw [hls2] at hL
    clear hls hls2
    repeat refine zs ?_
    refine ⟨.inr rfl, _, rfl, ⟨a, c, vs, g, ?_, hL⟩, hk⟩
    simp only [resOf, rop, opd, celsL, oneV, aadd, binV, isSh, intBin, scEq, keq, unV, fillL, oP, oA, oS, wantedA, BX, BL, BS, seval, *]
end Go.Proofs.YtlipmjpapkfaeaaGreatDoor.Fn
end
