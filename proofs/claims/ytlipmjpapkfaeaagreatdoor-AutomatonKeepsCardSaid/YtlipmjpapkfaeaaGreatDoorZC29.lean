/- Arcs between classes; classes of states that accept the same: plain Lean. No condition.
Merged from 2 texts. -/
import Derived.Test.YtlipmjpapkfaeaaGreatDoorZC24
import Derived.Test.YtlipmjpapkfaeaaGreatDoorZC27
import Derived.Test.YtlipmjpapkfaeaaGreatDoorZC28
section
set_option linter.unusedSimpArgs false
set_option linter.unusedVariables false
namespace Go.Proofs.YtlipmjpapkfaeaaGreatDoor.Fn
open Go Go.Mach Go.RowKit Go.Proofs Go.Proofs.YtlipmjpapkfaeaaGreatDoor.Orc

theorem findA_append (l r : List Arc3) (c : Int) : findA (l ++ r) c = (findA l c).or (findA r c) := by
  unfold findA
  rw [List.find?_append]
  cases l.find? (hitA c) <;> simp
theorem findA_one (x : Arc3) (c : Int) : findA [x] c = if x.1 ≤ c ∧ c ≤ x.2.1 then some x.2.2 else none := by
  rw [findA_cons]
  by_cases h : x.1 ≤ c ∧ c ≤ x.2.1
  · rw [if_pos h, if_pos ((hitA_iff c x).2 h)]
  · rw [if_neg h, if_neg (fun hh => h ((hitA_iff c x).1 hh))]; rfl
theorem findA_high {l : List Arc3} {c : Int} (h : ∀ y ∈ l, y.2.1 < c) : findA l c = none := by
  unfold findA
  rw [List.find?_eq_none.2]
  · rfl
  · intro y hy hh
    have := h y hy
    rw [hitA_iff] at hh; omega

theorem srt_last {l : List Arc3} : ∀ {p : Option Arc3} {f t s : Int}, Srt p (l ++ [(f, t, s)]) → f ≤ t ∧ ∀ y ∈ l, y.2.1 < f := by
  induction l with
  | nil => intro p f t s h; exact ⟨h.1, fun y hy => by simp at hy⟩
  | cons z l ih =>
    intro p f t s h
    obtain ⟨h1, h2⟩ := ih h.2.2
    refine ⟨h1, fun y hy => ?_⟩
    rcases List.mem_cons.1 hy with rfl | hy
    · cases l with
      | nil => exact (h.2.2.2.1 _ rfl).1
      | cons w l =>
        have a := (h.2.2.2.1 _ rfl).1
        have b := h2 w (by simp)
        have c := h.2.2.1
        have a : y.2.1 < w.1 := a
        have c : w.1 ≤ w.2.1 := c
        omega
    · exact h2 y hy
theorem srt_longer {l : List Arc3} : ∀ {p : Option Arc3} {f t t' s : Int}, Srt p (l ++ [(f, t, s)]) → t ≤ t' → Srt p (l ++ [(f, t', s)]) := by
  induction l with
  | nil =>
    intro p f t t' s h ht
    refine ⟨?_, h.2.1, trivial⟩
    have := h.1; simp only at this ⊢; omega
  | cons z l ih => intro p f t t' s h ht; exact ⟨h.1, h.2.1, ih h.2.2 ht⟩
theorem srt_snoc {l : List Arc3} {x : Arc3} (hx : x.1 ≤ x.2.1) : ∀ {p : Option Arc3} {y : Arc3}, Srt p (l ++ [y]) → y.2.1 < x.1 → ¬ (x.1 = y.2.1 + 1 ∧ x.2.2 = y.2.2) → Srt p ((l ++ [y]) ++ [x]) := by
  induction l with
  | nil => intro p y h h1 h2; exact ⟨h.1, h.2.1, hx, fun q hq => by cases hq; exact ⟨h1, h2⟩, trivial⟩
  | cons z l ih => intro p y h h1 h2; exact ⟨h.1, h.2.1, ih h.2.2 h1 h2⟩

/-- In order, all ends at most b. -/
def Good (l : List Arc3) (b : Int) : Prop := Srt none l ∧ ∀ y ∈ l, y.2.1 ≤ b
theorem Good.mono {l : List Arc3} {b b' : Int} (h : Good l b) (hb : b ≤ b') : Good l b' := ⟨h.1, fun y hy => by have := h.2 y hy; omega⟩
theorem Good.add {l : List Arc3} {b : Int} {x : Arc3} (h : Good l b) (hb : b < x.1) (hx : x.1 ≤ x.2.1) : Good (addArc l x) x.2.1 ∧ ∀ c, findA (addArc l x) c = if x.1 ≤ c ∧ c ≤ x.2.1 then some x.2.2 else findA l c := by
  rcases last_or l with rfl | ⟨l0, f, t, s, rfl⟩
  · rw [addArc_nil]
    refine ⟨⟨⟨hx, fun q hq => (by cases hq), trivial⟩, fun y hy => by simp at hy; subst hy; exact Int.le_refl _⟩, fun c => ?_⟩
    rw [findA_one]; rfl
  · have ht := h.2 (f, t, s) (by simp)
    obtain ⟨hft, hl0⟩ := srt_last h.1
    simp only at ht
    by_cases hj : t + 1 = x.1 ∧ s = x.2.2
    · rw [addArc_join hj.1 hj.2]
      refine ⟨⟨srt_longer h.1 (by omega), fun y hy => ?_⟩, fun c => ?_⟩
      · rcases List.mem_append.1 hy with hy | hy
        · have := hl0 y hy; omega
        · simp at hy; subst hy; exact Int.le_refl _
      · rw [findA_append, findA_append, findA_one, findA_one]
        simp only
        by_cases hc : f ≤ c
        · rw [findA_high (l := l0) (fun y hy => by have := hl0 y hy; omega)]
          simp only [Option.none_or]
          by_cases h1 : x.1 ≤ c ∧ c ≤ x.2.1
          · rw [if_pos h1, if_pos (by omega), hj.2]
          · rw [if_neg h1]
            by_cases h2 : c ≤ t
            · rw [if_pos (by omega), if_pos (by omega)]
            · rw [if_neg (by omega), if_neg (by omega)]
        · rw [if_neg (by omega), if_neg (by omega), if_neg (by omega)]
    · rw [addArc_new hj]
      refine ⟨⟨srt_snoc hx h.1 (by simp only; omega) (by simp only; intro hh; exact hj ⟨by omega, hh.2.symm⟩), fun y hy => ?_⟩, fun c => ?_⟩
      · rcases List.mem_append.1 hy with hy | hy
        · have := h.2 y hy; omega
        · simp at hy; subst hy; exact Int.le_refl _
      · rw [findA_append, findA_one]
        by_cases h1 : x.1 ≤ c ∧ c ≤ x.2.1
        · rw [if_pos h1, if_pos h1, findA_high (l := l0 ++ [(f, t, s)]) (fun y hy => by have := h.2 y hy; omega)]; rfl
        · rw [if_neg h1, if_neg h1]; cases findA (l0 ++ [(f, t, s)]) c <;> rfl

/-- The class of the state that a code point leads to. -/
def clsAt (cls : List Int) (o : Option Int) : Option Int := match o with
  | some t => if cls.getD t.toNat (-1) < 0 then none else some (cls.getD t.toNat (-1))
  | none => none

theorem byClass_good (cls : List Int) : ∀ (l out : List Arc3) (p : Option Arc3) (b : Int), Srt p l → (∀ q, p = some q → q.2.1 = b) → (p = none → ∀ x ∈ l, b < x.1) → Good out b →
    ∃ b', Good (l.foldl (stepC cls) out) b' ∧ ∀ c, findA (l.foldl (stepC cls) out) c = match findA l c with
      | some t => clsAt cls (some t)
      | none => findA out c
  | [], out, p, b, _, _, _, h => ⟨b, h, fun c => rfl⟩
  | x :: l, out, p, b, hs, hp, hp0, h => by
    have hbx : b < x.1 := by
      cases p with
      | none => exact hp0 rfl x (by simp)
      | some q => have := (hs.2.1 q rfl).1; have := hp q rfl; omega
    have hlow : ∀ c, c ≤ x.2.1 → findA l c = none := fun c hc => findA_low hs.2.2 hc
    unfold stepC
    simp only [List.foldl_cons]
    by_cases hq : clsOf cls x < 0
    · rw [show (if clsOf cls x < 0 then out else addArc out (x.1, x.2.1, clsOf cls x)) = out from if_pos hq]
      obtain ⟨b', g1, g2⟩ := byClass_good cls l out (some x) x.2.1 hs.2.2 (fun q hq => by cases hq; rfl) (fun hh => by cases hh) (h.mono (by have := hs.1; omega))
      refine ⟨b', g1, fun c => ?_⟩
      rw [show l.foldl (stepC cls) out = l.foldl (fun out x => if clsOf cls x < 0 then out else addArc out (x.1, x.2.1, clsOf cls x)) out from rfl] at g2
      rw [g2 c, findA_cons]
      by_cases hh : hitA c x = true
      · rw [if_pos hh, hlow c ((hitA_iff c x).1 hh).2]
        have hhi : findA out c = none := findA_high (fun y hy => by have := h.2 y hy; have := ((hitA_iff c x).1 hh).1; omega)
        simp only [hhi, clsAt]
        rw [if_pos (show cls.getD x.2.2.toNat (-1) < 0 from hq)]
      · rw [if_neg hh]
    · rw [show (if clsOf cls x < 0 then out else addArc out (x.1, x.2.1, clsOf cls x)) = addArc out (x.1, x.2.1, clsOf cls x) from if_neg hq]
      obtain ⟨a1, a2⟩ := h.add (x := (x.1, x.2.1, clsOf cls x)) hbx hs.1
      obtain ⟨b', g1, g2⟩ := byClass_good cls l (addArc out (x.1, x.2.1, clsOf cls x)) (some x) x.2.1 hs.2.2 (fun q hq => by cases hq; rfl) (fun hh => by cases hh) a1
      refine ⟨b', g1, fun c => ?_⟩
      rw [show l.foldl (stepC cls) (addArc out (x.1, x.2.1, clsOf cls x)) = l.foldl (fun out x => if clsOf cls x < 0 then out else addArc out (x.1, x.2.1, clsOf cls x)) (addArc out (x.1, x.2.1, clsOf cls x)) from rfl] at g2
      rw [g2 c, findA_cons, a2 c]
      simp only
      by_cases hh : hitA c x = true
      · have hh' := (hitA_iff c x).1 hh
        rw [if_pos hh, hlow c hh'.2]
        simp only [clsAt]
        rw [if_pos hh', show cls.getD x.2.2.toNat (-1) = clsOf cls x from rfl, if_neg hq]
      · rw [if_neg hh, if_neg (fun h' => hh ((hitA_iff c x).2 h'))]

theorem byClass_find (cls : List Int) {l : List Arc3} (h : Srt none l) (hr : InR l) : Srt none (byClassM cls l) ∧ ∀ c, findA (byClassM cls l) c = clsAt cls (findA l c) := by
  obtain ⟨b', g1, g2⟩ := byClass_good cls l [] none (-1) h (fun q hq => by cases hq) (fun _ x hx => by have := hr x hx; omega) ⟨trivial, fun y hy => by simp at hy⟩
  refine ⟨g1.1, fun c => ?_⟩
  unfold byClassM
  rw [g2 c]
  cases findA l c <;> rfl

theorem shape_eq : ∀ {l l' : List Arc3}, Shape (fun a b => a = b) l l' → l = l'
  | [], [], .nil => rfl
  | _ :: _, _ :: _, .cons h hs => by rw [h, shape_eq hs]

/-- Two lists in order that lead to the same are the same. -/
theorem srt_unique {l l' : List Arc3} (h : Srt none l) (h' : Srt none l') (he : ∀ c, findA l c = findA l' c) : l = l' :=
  shape_eq (shape_of ⟨fun a b b' h1 h2 => h1.symm.trans h2, fun a a' b h1 h2 => h1.trans h2.symm⟩ l l' h h' fun c => by
    rw [he c]; cases findA l' c <;> simp [Rel2])
end Go.Proofs.YtlipmjpapkfaeaaGreatDoor.Fn
end
section
set_option linter.unusedSimpArgs false
set_option linter.unusedVariables false
namespace Go.Proofs.YtlipmjpapkfaeaaGreatDoor.Fn
open Go Go.Mach Go.RowKit Go.Proofs Go.Proofs.YtlipmjpapkfaeaaGreatDoor.Orc

def encE (e : Arc3) : List UInt8 := bytesN e.1.toNat ++ (bytesN e.2.1.toNat ++ bytesN e.2.2.toNat)
def Small (l : List Arc3) : Prop := ∀ e ∈ l, (0 ≤ e.1 ∧ e.1 < 4294967296) ∧ (0 ≤ e.2.1 ∧ e.2.1 < 4294967296) ∧ (0 ≤ e.2.2 ∧ e.2.2 < 4294967296)

theorem bytesN_len (n : Nat) : (bytesN n).length = 4 := rfl
theorem encE_inj {a b : Arc3} (ha : (0 ≤ a.1 ∧ a.1 < 4294967296) ∧ (0 ≤ a.2.1 ∧ a.2.1 < 4294967296) ∧ (0 ≤ a.2.2 ∧ a.2.2 < 4294967296)) (hb : (0 ≤ b.1 ∧ b.1 < 4294967296) ∧ (0 ≤ b.2.1 ∧ b.2.1 < 4294967296) ∧ (0 ≤ b.2.2 ∧ b.2.2 < 4294967296)) (h : encE a = encE b) : a = b := by
  obtain ⟨h1, h2⟩ := List.append_inj h (by rw [bytesN_len, bytesN_len])
  obtain ⟨h3, h4⟩ := List.append_inj h2 (by rw [bytesN_len, bytesN_len])
  have e1 := bytesN_inj (by omega) (by omega) h1
  have e2 := bytesN_inj (by omega) (by omega) h3
  have e3 := bytesN_inj (by omega) (by omega) h4
  obtain ⟨a1, a2, a3⟩ := a
  obtain ⟨b1, b2, b3⟩ := b
  simp only at e1 e2 e3 ha hb
  rw [show a1 = b1 by omega, show a2 = b2 by omega, show a3 = b3 by omega]
theorem flat_inj : ∀ {l m : List Arc3}, Small l → Small m → l.flatMap encE = m.flatMap encE → l = m
  | [], [], _, _, _ => rfl
  | [], b :: m, _, _, h => by have := congrArg List.length h; simp [encE, bytesN_len] at this; omega
  | a :: l, [], _, _, h => by have := congrArg List.length h; simp [encE, bytesN_len] at this
  | a :: l, b :: m, hl, hm, h => by
    rw [List.flatMap_cons, List.flatMap_cons] at h
    obtain ⟨h1, h2⟩ := List.append_inj h (by simp [encE, bytesN_len])
    rw [encE_inj (hl a (by simp)) (hm b (by simp)) h1, flat_inj (fun e he => hl e (by simp [he])) (fun e he => hm e (by simp [he])) h2]

/-- The edges of a state between classes, its mark. -/
def edgC (A : Aut) (cl : List Int) (q : Nat) : List Arc3 := byClassM cl (A.arcs.getD q [])
def sgn (A : Aut) (cl : List Int) (q : Nat) : List UInt8 := bytesN (cl.getD q (-1)).toNat ++ (edgC A cl q).flatMap encE
def clsStepQ (A : Aut) (cl : List Int) (st : List (List UInt8) × List Int) (q : Nat) : List (List UInt8) × List Int :=
  if cl.getD q (-1) < 0 then (st.1, st.2 ++ [-1]) else (if sgn A cl q ∈ st.1 then st.1 else st.1 ++ [sgn A cl q], st.2 ++ [(ixOf st.1 (sgn A cl q) : Int)])
def clsAfter (A : Aut) (cl : List Int) (j : Nat) : List (List UInt8) × List Int := (List.range j).foldl (clsStepQ A cl) ([], [])
theorem clsAfter_succ (A : Aut) (cl : List Int) (j : Nat) : clsAfter A cl (j + 1) = clsStepQ A cl (clsAfter A cl j) j := by
  unfold clsAfter
  rw [List.range_succ, List.foldl_append]; rfl

structure After (A : Aut) (cl : List Int) (j : Nat) (ss : List (List UInt8)) (nx : List Int) : Prop where
  len : nx.length = j
  nd : ss.Nodup
  from_ : ∀ s ∈ ss, ∃ q, q < j ∧ 0 ≤ cl.getD q (-1) ∧ s = sgn A cl q
  neg : ∀ q, q < j → cl.getD q (-1) < 0 → nx[q]? = some (-1)
  pos : ∀ q, q < j → 0 ≤ cl.getD q (-1) → sgn A cl q ∈ ss ∧ nx[q]? = some ((ixOf ss (sgn A cl q) : Nat) : Int)
  sz : ss.length ≤ j

theorem after_spec (A : Aut) (cl : List Int) : ∀ j, After A cl j (clsAfter A cl j).1 (clsAfter A cl j).2
  | 0 => ⟨rfl, by simp [clsAfter], fun s hs => by simp [clsAfter] at hs, fun q hq => by omega, fun q hq => by omega, by simp [clsAfter]⟩
  | j + 1 => by
    have ih := after_spec A cl j
    obtain ⟨⟨ss, nx⟩, hst⟩ : ∃ p, clsAfter A cl j = p := ⟨_, rfl⟩
    rw [hst] at ih
    rw [clsAfter_succ, hst]
    simp only at ih
    unfold clsStepQ
    by_cases hk : cl.getD j (-1) < 0
    · rw [if_pos hk]
      refine ⟨by simp [ih.len], ih.nd, fun s hs => ?_, fun q hq hn => ?_, fun q hq hp => ?_, by have := ih.sz; simp only; omega⟩
      · obtain ⟨q, h1, h2, h3⟩ := ih.from_ s hs; exact ⟨q, by omega, h2, h3⟩
      · by_cases hqj : q < j
        · simp only; rw [List.getElem?_append_left (by rw [ih.len]; exact hqj)]; exact ih.neg q hqj hn
        · obtain rfl : q = j := by omega
          simp only; rw [List.getElem?_append_right (by rw [ih.len]; omega), ih.len]; simp
      · by_cases hqj : q < j
        · simp only; rw [List.getElem?_append_left (by rw [ih.len]; exact hqj)]; exact ih.pos q hqj hp
        · obtain rfl : q = j := by omega
          omega
    · rw [if_neg hk]
      have hmem : ∀ s, s ∈ ss → s ∈ (if sgn A cl j ∈ ss then ss else ss ++ [sgn A cl j]) ∧ ixOf (if sgn A cl j ∈ ss then ss else ss ++ [sgn A cl j]) s = ixOf ss s := fun s hs => by
        split
        · exact ⟨hs, rfl⟩
        · exact ⟨List.mem_append_left _ hs, ixOf_app hs⟩
      have hself : sgn A cl j ∈ (if sgn A cl j ∈ ss then ss else ss ++ [sgn A cl j]) ∧ ixOf (if sgn A cl j ∈ ss then ss else ss ++ [sgn A cl j]) (sgn A cl j) = ixOf ss (sgn A cl j) := by
        split
        · rename_i h; exact ⟨h, rfl⟩
        · rename_i h
          refine ⟨by simp, ?_⟩
          rw [ixOf_out h, ixOf_snoc h]
      refine ⟨by simp [ih.len], ?_, fun s hs => ?_, fun q hq hn => ?_, fun q hq hp => ?_, ?_⟩
      · simp only
        split
        · exact ih.nd
        · rename_i h
          exact List.nodup_append.2 ⟨ih.nd, by simp, fun a ha b hb => by simp at hb; subst hb; intro e; subst e; exact h ha⟩
      · simp only at hs
        have : s ∈ ss ∨ s = sgn A cl j := by
          split at hs
          · exact .inl hs
          · rcases List.mem_append.1 hs with hs | hs
            · exact .inl hs
            · simp at hs; exact .inr hs
        rcases this with hs | rfl
        · obtain ⟨q, h1, h2, h3⟩ := ih.from_ s hs; exact ⟨q, by omega, h2, h3⟩
        · exact ⟨j, by omega, by omega, rfl⟩
      · by_cases hqj : q < j
        · simp only; rw [List.getElem?_append_left (by rw [ih.len]; exact hqj)]; exact ih.neg q hqj hn
        · obtain rfl : q = j := by omega
          exact absurd hn hk
      · by_cases hqj : q < j
        · obtain ⟨h1, h2⟩ := ih.pos q hqj hp
          obtain ⟨h3, h4⟩ := hmem _ h1
          simp only
          rw [List.getElem?_append_left (by rw [ih.len]; exact hqj), h4]
          exact ⟨h3, h2⟩
        · obtain rfl : q = j := by omega
          simp only
          rw [List.getElem?_append_right (by rw [ih.len]; omega), ih.len, hself.2]
          exact ⟨hself.1, by simp⟩
      · have := ih.sz
        simp only
        split
        · omega
        · simp; omega

/-- What is known of the classes between two rounds. -/
structure RI (A : Aut) (cl : List Int) (cnt : Nat) : Prop where
  len : cl.length = A.fin.length
  dead : ∀ q : Nat, q < A.fin.length → (cl.getD q (-1) < 0 ↔ ¬ Live A q)
  small : ∀ q : Nat, q < A.fin.length → cl.getD q (-1) < 4294967296
  lang : ∀ q q' : Nat, q < A.fin.length → q' < A.fin.length → Live A q → (∀ cs, acc A q cs = acc A q' cs) → cl.getD q (-1) = cl.getD q' (-1)
  fin : ∀ q q' : Nat, q < A.fin.length → q' < A.fin.length → Live A q → cl.getD q (-1) = cl.getD q' (-1) → A.fin.getD q false = A.fin.getD q' false
  cnt0 : cnt = 0 ∨ ∀ q : Nat, q < A.fin.length → Live A q → cl.getD q (-1) < cnt
  cnt1 : ∀ k : Nat, k < cnt → ∃ q : Nat, q < A.fin.length ∧ Live A q ∧ cl.getD q (-1) = k

theorem getD_arcs {A : Aut} (w : Wf A) {q : Nat} (hq : q < A.fin.length) : A.arcs[q]? = some (A.arcs.getD q []) := by
  have : q < A.arcs.length := by rw [w.len]; exact hq
  simp [this]
theorem arcs_in {A : Aut} (w : Wf A) {q : Nat} (hq : q < A.fin.length) : Srt none (A.arcs.getD q []) ∧ InR (A.arcs.getD q []) := by
  have hm := List.mem_of_getElem? (getD_arcs w hq)
  exact ⟨srt_of (fun q hq => by cases hq) (w.srt _ hm), fun x hx => (w.range hm hx).1⟩
theorem edgC_find {A : Aut} (w : Wf A) (cl : List Int) {q : Nat} (hq : q < A.fin.length) : Srt none (edgC A cl q) ∧ ∀ c, findA (edgC A cl q) c = clsAt cl (findA (A.arcs.getD q []) c) :=
  byClass_find cl (arcs_in w hq).1 (arcs_in w hq).2

theorem addArc_mem {l : List Arc3} {x y : Arc3} (h : y ∈ addArc l x) : (∃ z ∈ l, y.2.2 = z.2.2) ∨ y.2.2 = x.2.2 := by
  rcases last_or l with rfl | ⟨l0, f, t, s, rfl⟩
  · rw [addArc_nil] at h; simp at h; subst h; exact .inr rfl
  · by_cases hj : t + 1 = x.1 ∧ s = x.2.2
    · rw [addArc_join hj.1 hj.2] at h
      rcases List.mem_append.1 h with h | h
      · exact .inl ⟨y, by simp [h], rfl⟩
      · simp at h; subst h; exact .inr hj.2
    · rw [addArc_new hj] at h
      rcases List.mem_append.1 h with h | h
      · exact .inl ⟨y, h, rfl⟩
      · simp at h; subst h; exact .inr rfl
theorem byClass_keys (cls : List Int) (l : List Arc3) : ∀ y ∈ byClassM cls l, 0 ≤ y.2.2 ∧ ∃ x ∈ l, y.2.2 = clsOf cls x := by
  unfold byClassM
  have : ∀ (l out : List Arc3) (P : Int → Prop), (∀ y ∈ out, P y.2.2) → (∀ x ∈ l, ¬ clsOf cls x < 0 → P (clsOf cls x)) → ∀ y ∈ l.foldl (stepC cls) out, P y.2.2 := by
    intro l
    induction l with
    | nil => intro out P h _; exact h
    | cons x l ih =>
      intro out P h hl
      refine ih _ P (fun y hy => ?_) (fun z hz => hl z (by simp [hz]))
      unfold stepC at hy
      by_cases hc : clsOf cls x < 0
      · rw [if_pos hc] at hy; exact h y hy
      · rw [if_neg hc] at hy
        rcases addArc_mem hy with ⟨z, hz, e⟩ | e
        · rw [e]; exact h z hz
        · rw [e]; exact hl x (by simp) hc
  exact this l [] (fun k => 0 ≤ k ∧ ∃ x ∈ l, k = clsOf cls x) (fun y hy => by simp at hy) (fun x hx hc => ⟨by omega, x, hx, rfl⟩)

theorem edgC_small {A : Aut} (w : Wf A) {cl : List Int} {cnt : Nat} (R : RI A cl cnt) {q : Nat} (hq : q < A.fin.length) : Small (edgC A cl q) := by
  intro e he
  have hr := byClassM_in (cls := cl) (arcs_in w hq).2 e he
  obtain ⟨h0, x, hx, hk⟩ := byClass_keys cl _ e he
  have hxr := (w.range (List.mem_of_getElem? (getD_arcs w hq)) hx).2
  have := R.small x.2.2.toNat (by omega)
  refine ⟨by omega, by omega, h0, ?_⟩
  rw [hk]; exact this

/-- States with one mark: one class, the same edges between classes. -/
theorem sgn_eq {A : Aut} (w : Wf A) {cl : List Int} {cnt : Nat} (R : RI A cl cnt) {q q' : Nat} (hq : q < A.fin.length) (hq' : q' < A.fin.length) (hl : Live A q) (hl' : Live A q') (h : sgn A cl q = sgn A cl q') :
    cl.getD q (-1) = cl.getD q' (-1) ∧ edgC A cl q = edgC A cl q' := by
  have p := fun q hq hl => (not_congr (R.dead q hq)).2 (fun h : ¬ Live A q => h hl)
  have h1 := p q hq hl
  have h2 := p q' hq' hl'
  have h3 := R.small q hq
  have h4 := R.small q' hq'
  obtain ⟨e1, e2⟩ := List.append_inj h (by rw [bytesN_len, bytesN_len])
  have e3 := bytesN_inj (by omega) (by omega) e1
  exact ⟨by omega, flat_inj (edgC_small w R hq) (edgC_small w R hq') e2⟩

theorem acc_step {A : Aut} (w : Wf A) {q : Nat} (hq : q < A.fin.length) (c : Int) (cs : List Int) : acc A q (c :: cs) = match findA (A.arcs.getD q []) c with
    | some t => acc A t cs
    | none => false := by
  rw [acc_cons, nextQ_arcs (getD_arcs w hq)]
  cases findA (A.arcs.getD q []) c with
  | none => exact acc_dead A cs (by decide)
  | some t => rfl
theorem target_in {A : Aut} (w : Wf A) {q : Nat} (hq : q < A.fin.length) {c t : Int} (h : findA (A.arcs.getD q []) c = some t) : 0 ≤ t ∧ t < A.fin.length := by
  obtain ⟨x, hx, rfl⟩ := findA_mem h
  exact (w.range (List.mem_of_getElem? (getD_arcs w hq)) hx).2

/-- States that accept the same have the same edges between classes. -/
theorem edgC_lang {A : Aut} (w : Wf A) {cl : List Int} {cnt : Nat} (R : RI A cl cnt) {q q' : Nat} (hq : q < A.fin.length) (hq' : q' < A.fin.length) (h : ∀ cs, acc A q cs = acc A q' cs) : edgC A cl q = edgC A cl q' := by
  obtain ⟨s1, f1⟩ := edgC_find w cl hq
  obtain ⟨s2, f2⟩ := edgC_find w cl hq'
  refine srt_unique s1 s2 fun c => ?_
  rw [f1, f2]
  have hc : ∀ cs, _ := fun cs => (acc_step w hq c cs).symm.trans ((h (c :: cs)).trans (acc_step w hq' c cs))
  have nolive : ∀ {t : Int}, (0 ≤ t ∧ t < A.fin.length) → (∀ cs, acc A t cs = false) → cl.getD t.toNat (-1) < 0 := fun {t} ht hd => (R.dead t.toNat (by omega)).2 (fun ⟨cs, hcs⟩ => by rw [Int.toNat_of_nonneg ht.1, hd cs] at hcs; cases hcs)
  cases h1 : findA (A.arcs.getD q []) c with
  | none =>
    cases h2 : findA (A.arcs.getD q' []) c with
    | none => rfl
    | some t' =>
      have ht' := target_in w hq' h2
      rw [h1, h2] at hc
      simp only [clsAt]
      rw [if_pos (nolive ht' fun cs => (hc cs).symm)]
  | some t =>
    have ht := target_in w hq h1
    cases h2 : findA (A.arcs.getD q' []) c with
    | none =>
      rw [h1, h2] at hc
      simp only [clsAt]
      rw [if_pos (nolive ht fun cs => hc cs)]
    | some t' =>
      have ht' := target_in w hq' h2
      rw [h1, h2] at hc
      simp only at hc
      simp only [clsAt]
      by_cases hl : cl.getD t.toNat (-1) < 0
      · have hd : ∀ cs, acc A t cs = false := fun cs => by
          have := (R.dead t.toNat (by omega)).1 hl
          rw [Int.toNat_of_nonneg ht.1] at this
          cases hh : acc A t cs with
          | false => rfl
          | true => exact absurd ⟨cs, hh⟩ this
        rw [if_pos hl, if_pos (nolive ht' fun cs => by rw [← hc cs]; exact hd cs)]
      · have hlive : Live A t.toNat := Classical.byContradiction fun hn => hl ((R.dead t.toNat (by omega)).2 hn)
        have := R.lang t.toNat t'.toNat (by omega) (by omega) hlive (fun cs => by rw [Int.toNat_of_nonneg ht.1, Int.toNat_of_nonneg ht'.1]; exact hc cs)
        rw [← this]

/-- Classes: numbers of states that accept the same; -1 for dead ones. -/
structure Cls (A : Aut) (cl : List Int) : Prop where
  len : cl.length = A.fin.length
  dead : ∀ q : Nat, q < A.fin.length → (cl.getD q (-1) < 0 ↔ ¬ Live A q)
  bound : ∀ q : Nat, q < A.fin.length → -1 ≤ cl.getD q (-1) ∧ cl.getD q (-1) < A.fin.length
  same : ∀ q q' : Nat, q < A.fin.length → q' < A.fin.length → Live A q → Live A q' → (cl.getD q (-1) = cl.getD q' (-1) ↔ ∀ cs, acc A q cs = acc A q' cs)

theorem refine_ok {A : Aut} (w : Wf A) {cl : List Int} {cnt : Nat} (R : RI A cl cnt) (hn : A.fin.length ≤ 256) {ss : List (List UInt8)} {nx : List Int} (H : After A cl A.fin.length ss nx) :
    RI A nx ss.length ∧ cnt ≤ ss.length ∧ (cnt = ss.length → Cls A nx) := by
  have live0 : ∀ q, q < A.fin.length → Live A q → 0 ≤ cl.getD q (-1) := fun q hq hl => by
    have := mt (R.dead q hq).1 (fun h => h hl); omega
  have val : ∀ q, q < A.fin.length → Live A q → sgn A cl q ∈ ss ∧ nx.getD q (-1) = (ixOf ss (sgn A cl q) : Nat) := fun q hq hl => by
    obtain ⟨h1, h2⟩ := H.pos q hq (live0 q hq hl)
    exact ⟨h1, by simp [List.getD, h2]⟩
  have valn : ∀ q, q < A.fin.length → ¬ Live A q → nx.getD q (-1) = -1 := fun q hq hl => by
    have := H.neg q hq ((R.dead q hq).2 hl)
    simp [List.getD, this]
  have dead : ∀ q : Nat, q < A.fin.length → (nx.getD q (-1) < 0 ↔ ¬ Live A q) := fun q hq => by
    by_cases hl : Live A q
    · have := (val q hq hl).2
      exact ⟨fun h => by omega, fun h => absurd hl h⟩
    · have := valn q hq hl
      exact ⟨fun _ => hl, fun _ => by omega⟩
  have hix : ∀ q, q < A.fin.length → Live A q → nx.getD q (-1) < ss.length := fun q hq hl => by
    obtain ⟨h1, h2⟩ := val q hq hl
    rw [h2]; have := ixOf_lt h1; omega
  have eqs : ∀ q q' : Nat, q < A.fin.length → q' < A.fin.length → Live A q → Live A q' → nx.getD q (-1) = nx.getD q' (-1) → sgn A cl q = sgn A cl q' := fun q q' hq hq' hl hl' he => by
    obtain ⟨h1, h2⟩ := val q hq hl
    obtain ⟨h3, h4⟩ := val q' hq' hl'
    exact ixOf_inj h1 h3 (by omega)
  have livelive : ∀ q q' : Nat, q < A.fin.length → q' < A.fin.length → Live A q → nx.getD q (-1) = nx.getD q' (-1) → Live A q' := fun q q' hq hq' hl he => Classical.byContradiction fun hn => by
    have := (val q hq hl).2
    have := valn q' hq' hn
    omega
  have langn : ∀ q q' : Nat, q < A.fin.length → q' < A.fin.length → Live A q → (∀ cs, acc A q cs = acc A q' cs) → nx.getD q (-1) = nx.getD q' (-1) := fun q q' hq hq' hl he => by
    have hl' : Live A q' := by obtain ⟨cs, hcs⟩ := hl; exact ⟨cs, by rw [← he]; exact hcs⟩
    have h1 := R.lang q q' hq hq' hl he
    have h2 := edgC_lang w R hq hq' he
    have h3 : sgn A cl q = sgn A cl q' := by unfold sgn; rw [h1, h2]
    rw [(val q hq hl).2, (val q' hq' hl').2, h3]
  have finn : ∀ q q' : Nat, q < A.fin.length → q' < A.fin.length → Live A q → nx.getD q (-1) = nx.getD q' (-1) → A.fin.getD q false = A.fin.getD q' false := fun q q' hq hq' hl he => by
    have hl' := livelive q q' hq hq' hl he
    exact R.fin q q' hq hq' hl (sgn_eq w R hq hq' hl hl' (eqs q q' hq hq' hl hl' he)).1
  have cnt1 : ∀ k : Nat, k < ss.length → ∃ q : Nat, q < A.fin.length ∧ Live A q ∧ nx.getD q (-1) = k := fun k hk => by
    obtain ⟨q, h1, h2, h3⟩ := H.from_ ss[k] (List.getElem_mem hk)
    have hl : Live A q := Classical.byContradiction fun hn => by have := (R.dead q h1).2 hn; omega
    refine ⟨q, h1, hl, ?_⟩
    rw [(val q h1 hl).2, ← h3]
    have : ixOf ss ss[k] = k := by
      have h4 := ixOf_get (List.getElem_mem hk)
      have h5 := ixOf_lt (List.getElem_mem hk)
      rw [List.getElem?_eq_getElem h5] at h4
      exact (List.getElem_inj H.nd).1 (Option.some.inj h4)
    rw [this]
  have hsz := H.sz
  -- each new class has an old one
  obtain ⟨rep, hrep⟩ : ∃ rep : Nat → Nat, ∀ k, k < ss.length → rep k < A.fin.length ∧ Live A (rep k) ∧ nx.getD (rep k) (-1) = k := by
    refine ⟨fun k => if h : k < ss.length then (cnt1 k h).choose else 0, fun k hk => ?_⟩
    simp only [hk, dite_true]
    exact (cnt1 k hk).choose_spec
  have hsub : ∀ k, k < cnt → ∃ k', k' < ss.length ∧ cl.getD (rep k') (-1) = k := fun k hk => by
    obtain ⟨q, h1, h2, h3⟩ := R.cnt1 k hk
    obtain ⟨g1, g2⟩ := val q h1 h2
    have hlt := ixOf_lt g1
    obtain ⟨r1, r2, r3⟩ := hrep _ hlt
    refine ⟨_, hlt, ?_⟩
    rw [← h3]
    exact (sgn_eq w R r1 h1 r2 h2 (eqs _ q r1 h1 r2 h2 (by rw [r3, g2]))).1
  have hcnt : cnt ≤ ss.length := by
    have := nodup_len (l := List.range cnt) (m := (List.range ss.length).map fun k' => (cl.getD (rep k') (-1)).toNat) List.nodup_range (fun k hk => by
      obtain ⟨k', h1, h2⟩ := hsub k (List.mem_range.1 hk)
      exact List.mem_map.2 ⟨k', List.mem_range.2 h1, by rw [h2]; rfl⟩)
    simpa using this
  refine ⟨⟨H.len, dead, fun q hq => ?_, langn, finn, .inr hix, cnt1⟩, hcnt, fun heq => ?_⟩
  · by_cases hl : Live A q
    · have := hix q hq hl; omega
    · rw [valn q hq hl]; omega
  · -- nothing was divided: stable
    have inj : ∀ k1 k2, k1 < ss.length → k2 < ss.length → cl.getD (rep k1) (-1) = cl.getD (rep k2) (-1) → k1 = k2 := fun k1 k2 h1 h2 he => Classical.byContradiction fun hne => by
      have := nodup_len (l := List.range cnt) (m := ((List.range ss.length).erase k2).map fun k' => (cl.getD (rep k') (-1)).toNat) List.nodup_range (fun k hk => by
        obtain ⟨k', g1, g2⟩ := hsub k (List.mem_range.1 hk)
        by_cases hk' : k' = k2
        · subst hk'
          exact List.mem_map.2 ⟨k1, (List.mem_erase_of_ne hne).2 (List.mem_range.2 h1), by rw [he, g2]; rfl⟩
        · exact List.mem_map.2 ⟨k', (List.mem_erase_of_ne hk').2 (List.mem_range.2 g1), by rw [g2]; rfl⟩)
      rw [List.length_map, List.length_erase_of_mem (List.mem_range.2 h2), List.length_range, List.length_range] at this
      omega
    have stable : ∀ q q' : Nat, q < A.fin.length → q' < A.fin.length → Live A q → Live A q' → cl.getD q (-1) = cl.getD q' (-1) → nx.getD q (-1) = nx.getD q' (-1) := fun q q' hq hq' hl hl' he => by
      obtain ⟨g1, g2⟩ := val q hq hl
      obtain ⟨g3, g4⟩ := val q' hq' hl'
      have l1 := ixOf_lt g1
      have l2 := ixOf_lt g3
      obtain ⟨r1, r2, r3⟩ := hrep _ l1
      obtain ⟨t1, t2, t3⟩ := hrep _ l2
      have e1 := (sgn_eq w R r1 hq r2 hl (eqs _ q r1 hq r2 hl (by rw [r3, g2]))).1
      have e2 := (sgn_eq w R t1 hq' t2 hl' (eqs _ q' t1 hq' t2 hl' (by rw [t3, g4]))).1
      rw [g2, g4, inj _ _ l1 l2 (by rw [e1, e2, he])]
    refine ⟨H.len, dead, fun q hq => ?_, fun q q' hq hq' hl hl' => ⟨fun he cs => ?_, langn q q' hq hq' hl⟩⟩
    · by_cases hl : Live A q
      · have := (val q hq hl).2; have := hix q hq hl; omega
      · rw [valn q hq hl]; omega
    · induction cs generalizing q q' with
      | nil => rw [acc_nil, acc_nil]; exact finn q q' hq hq' hl he
      | cons c cs ih =>
        have hed := (sgn_eq w R hq hq' hl hl' (eqs q q' hq hq' hl hl' he)).2
        obtain ⟨_, f1⟩ := edgC_find w cl hq
        obtain ⟨_, f2⟩ := edgC_find w cl hq'
        have hf : clsAt cl (findA (A.arcs.getD q []) c) = clsAt cl (findA (A.arcs.getD q' []) c) := by rw [← f1, ← f2, hed]
        rw [acc_step w hq, acc_step w hq']
        have deadAcc : ∀ {t : Int}, (0 ≤ t ∧ t < A.fin.length) → cl.getD t.toNat (-1) < 0 → acc A t cs = false := fun {t} ht hd => by
          have := (R.dead t.toNat (by omega)).1 hd
          rw [Int.toNat_of_nonneg ht.1] at this
          cases hh : acc A t cs with
          | false => rfl
          | true => exact absurd ⟨cs, hh⟩ this
        cases h1 : findA (A.arcs.getD q []) c with
        | none =>
          cases h2 : findA (A.arcs.getD q' []) c with
          | none => rfl
          | some t' =>
            rw [h1, h2] at hf
            simp only [clsAt] at hf
            by_cases hd : cl.getD t'.toNat (-1) < 0
            · simp only; rw [deadAcc (target_in w hq' h2) hd]
            · rw [if_neg hd] at hf; cases hf
        | some t =>
          have ht := target_in w hq h1
          cases h2 : findA (A.arcs.getD q' []) c with
          | none =>
            rw [h1, h2] at hf
            simp only [clsAt] at hf
            by_cases hd : cl.getD t.toNat (-1) < 0
            · simp only; rw [deadAcc ht hd]
            · rw [if_neg hd] at hf; cases hf
          | some t' =>
            have ht' := target_in w hq' h2
            rw [h1, h2] at hf
            simp only [clsAt] at hf
            simp only
            by_cases hd : cl.getD t.toNat (-1) < 0
            · rw [if_pos hd] at hf
              by_cases hd' : cl.getD t'.toNat (-1) < 0
              · rw [deadAcc ht hd, deadAcc ht' hd']
              · rw [if_neg hd'] at hf; cases hf
            · rw [if_neg hd] at hf
              by_cases hd' : cl.getD t'.toNat (-1) < 0
              · rw [if_pos hd'] at hf; cases hf
              · rw [if_neg hd'] at hf
                have hlt : Live A t.toNat := Classical.byContradiction fun hn => hd ((R.dead t.toNat (by omega)).2 hn)
                have hlt' : Live A t'.toNat := Classical.byContradiction fun hn => hd' ((R.dead t'.toNat (by omega)).2 hn)
                have := ih t.toNat t'.toNat (by omega) (by omega) hlt hlt' (stable t.toNat t'.toNat (by omega) (by omega) hlt hlt' (Option.some.inj hf))
                rw [Int.toNat_of_nonneg ht.1, Int.toNat_of_nonneg ht'.1] at this
                exact this
end Go.Proofs.YtlipmjpapkfaeaaGreatDoor.Fn
end
