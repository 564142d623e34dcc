/- Canonical automata: two with the same language are one and the same. Plain Lean. No condition.
Merged from 5 texts. -/
import Derived.Test.YtlipmjpapkfaeaaGreatDoorZC23
import Derived.Test.YtlipmjpapkfaeaaGreatDoorZC9
import Derived.Test.YtlipmjpapkfaeaaGreatDoorZC12
section
set_option linter.unusedSimpArgs false
set_option linter.unusedVariables false
namespace Go.Proofs.YtlipmjpapkfaeaaGreatDoor.Fn
open Go Go.Mach Go.RowKit Go.Proofs Go.Proofs.YtlipmjpapkfaeaaGreatDoor.Orc

/-- The state behind some code points (any integers). -/
def goZ (A : Aut) : Int → List Int → Int
  | q, [] => q
  | q, c :: cs => goZ A (nextQ A q c) cs
def acc (A : Aut) (q : Int) (cs : List Int) : Bool := decide (0 ≤ goZ A q cs) && A.fin.getD (goZ A q cs).toNat false

theorem acc_cons (A : Aut) (q c : Int) (cs : List Int) : acc A q (c :: cs) = acc A (nextQ A q c) cs := rfl
theorem acc_nil (A : Aut) (q : Nat) : acc A q [] = A.fin.getD q false := by simp [acc, goZ]
theorem goZ_dead (A : Aut) : ∀ (cs : List Int) {q : Int}, q < 0 → goZ A q cs < 0
  | [], q, h => h
  | c :: cs, q, h => by unfold goZ nextQ; rw [if_pos h]; exact goZ_dead A cs (by omega)
theorem acc_dead (A : Aut) (cs : List Int) {q : Int} (h : q < 0) : acc A q cs = false := by
  have := goZ_dead A cs h
  simp [acc, show ¬ 0 ≤ goZ A q cs by omega]

/-- In order, and no two that touch lead to one state. -/
def Srt : Option Arc3 → List Arc3 → Prop
  | _, [] => True
  | p, x :: l => x.1 ≤ x.2.1 ∧ (∀ q, p = some q → q.2.1 < x.1 ∧ ¬ (x.1 = q.2.1 + 1 ∧ x.2.2 = q.2.2)) ∧ Srt (some x) l

theorem srt_of {n : Nat} : ∀ {l : List Arc3} {p : Option Arc3}, (∀ q, p = some q → -1 ≤ q.2.1 ∧ q.2.1 ≤ 1114111) → chkFrom n p l = none → Srt p l
  | [], p, _, _ => trivial
  | x :: l, p, hp, h => by
    unfold chkFrom at h
    split at h
    · cases h
    · rename_i hbad
      have hx : 0 ≤ x.1 ∧ x.1 ≤ x.2.1 ∧ x.2.1 ≤ 1114111 := by simp [badArc] at hbad; omega
      have hrec : chkFrom n (some x) l = none ∧ ∀ q, p = some q → q.2.1 < x.1 ∧ ¬ (x.1 = q.2.1 + 1 ∧ x.2.2 = q.2.2) := by
        cases p with
        | none => exact ⟨h, fun q hq => by cases hq⟩
        | some q =>
          simp only at h
          split at h
          · cases h
          · split at h
            · cases h
            · rename_i h1 h2
              refine ⟨h, fun q' hq => ?_⟩
              cases hq
              have hw : IntKind.i32.wrap (q.2.1 + 1) = q.2.1 + 1 := wrap_i32 (by have := hp q rfl; omega) (by have := hp q rfl; omega)
              rw [hw] at h2
              exact ⟨by omega, h2⟩
      exact ⟨hx.2.1, hrec.2, srt_of (fun q hq => by cases hq; omega) hrec.1⟩

def findA (l : List Arc3) (c : Int) : Option Int := (l.find? (hitA c)).map (·.2.2)
theorem findA_cons (x : Arc3) (l : List Arc3) (c : Int) : findA (x :: l) c = if hitA c x = true then some x.2.2 else findA l c := by
  unfold findA
  by_cases h : hitA c x = true
  · simp [h]
  · simp [h]
theorem hitA_iff (c : Int) (x : Arc3) : hitA c x = true ↔ x.1 ≤ c ∧ c ≤ x.2.1 := by simp [hitA]

theorem findA_low {l : List Arc3} {p : Arc3} {c : Int} (h : Srt (some p) l) (hc : c ≤ p.2.1) : findA l c = none := by
  induction l generalizing p with
  | nil => rfl
  | cons x l ih =>
    obtain ⟨h1, h2, h3⟩ := h
    have := (h2 p rfl).1
    rw [findA_cons, if_neg (by rw [hitA_iff]; omega)]
    exact ih h3 (by omega)
theorem findA_none_low {x : Arc3} {l : List Arc3} {p : Option Arc3} {c : Int} (h : Srt p (x :: l)) (hc : c < x.1) : findA (x :: l) c = none := by
  obtain ⟨h1, h2, h3⟩ := h
  rw [findA_cons, if_neg (by rw [hitA_iff]; omega)]
  exact findA_low h3 (by omega)

def Rel2 (R : Int → Int → Prop) : Option Int → Option Int → Prop
  | none, none => True
  | some a, some b => R a b
  | _, _ => False

/-- One to one. -/
structure OneOne (R : Int → Int → Prop) : Prop where
  l : ∀ a b b', R a b → R a b' → b = b'
  r : ∀ a a' b, R a b → R a' b → a = a'

inductive Shape (R : Int → Int → Prop) : List Arc3 → List Arc3 → Prop
  | nil : Shape R [] []
  | cons {f t s s' : Int} {l l' : List Arc3} (h : R s s') (hs : Shape R l l') : Shape R ((f, t, s) :: l) ((f, t, s') :: l')

theorem next_state {R : Int → Int → Prop} (hR : OneOne R) {f t s f' t' s' : Int} {r r' : List Arc3} {p p' : Option Arc3} (h : Srt p ((f, t, s) :: r)) (h' : Srt p' ((f', t', s') :: r'))
    (hff : f = f') (hs : R s s') (hc : ∀ c, Rel2 R (findA ((f, t, s) :: r) c) (findA ((f', t', s') :: r') c)) : ¬ t < t' := by
  intro hlt
  obtain ⟨h1, h2, h3⟩ := h
  obtain ⟨h1', h2', h3'⟩ := h'
  simp only at h1 h1'
  have hh := hc (t + 1)
  rw [findA_cons, if_neg (by rw [hitA_iff]; simp only; omega), findA_cons (f', t', s'), if_pos (by rw [hitA_iff]; simp only; omega)] at hh
  cases r with
  | nil => exact hh
  | cons z r2 =>
    have hz := h3.2.1 _ rfl
    simp only at hz
    by_cases hz1 : z.1 = t + 1
    · rw [findA_cons, if_pos (by rw [hitA_iff]; have := h3.1; omega)] at hh
      have : z.2.2 = s := hR.r _ _ _ hh hs
      exact hz.2 ⟨hz1, this⟩
    · rw [findA_none_low h3 (by omega)] at hh
      exact hh

theorem Rel2.swap {R : Int → Int → Prop} {a b : Option Int} (h : Rel2 R a b) : Rel2 (fun x y => R y x) b a := by
  cases a <;> cases b <;> exact h
theorem OneOne.swap {R : Int → Int → Prop} (h : OneOne R) : OneOne (fun x y => R y x) := ⟨fun a b b' h1 h2 => h.r _ _ _ h1 h2, fun a a' b h1 h2 => h.l _ _ _ h1 h2⟩

theorem shape_of {R : Int → Int → Prop} (hR : OneOne R) : ∀ (l l' : List Arc3) {p p' : Option Arc3}, Srt p l → Srt p' l' → (∀ c, Rel2 R (findA l c) (findA l' c)) → Shape R l l'
  | [], [], _, _, _, _, _ => .nil
  | [], x :: l', _, _, _, h', hc => by
    have := hc x.1
    rw [findA_cons, if_pos (by rw [hitA_iff]; exact ⟨Int.le_refl _, h'.1⟩)] at this
    exact this.elim
  | x :: l, [], _, _, h, _, hc => by
    have := hc x.1
    rw [findA_cons, if_pos (by rw [hitA_iff]; exact ⟨Int.le_refl _, h.1⟩)] at this
    exact this.elim
  | (f, t, s) :: l, (f', t', s') :: l', p, p', h, h', hc => by
    have e1 : ¬ f < f' := fun hlt => by
      have := hc f
      rw [findA_cons, if_pos (by rw [hitA_iff]; exact ⟨Int.le_refl _, h.1⟩), findA_none_low h' hlt] at this
      exact this
    have e2 : ¬ f' < f := fun hlt => by
      have := hc f'
      rw [findA_cons (f', t', s'), if_pos (by rw [hitA_iff]; exact ⟨Int.le_refl _, h'.1⟩), findA_none_low h hlt] at this
      exact this
    have hff : f = f' := by omega
    have hs : R s s' := by
      have := hc f
      rw [findA_cons, if_pos (by rw [hitA_iff]; exact ⟨Int.le_refl _, h.1⟩), findA_cons (f', t', s'), if_pos (by rw [hitA_iff]; simp only; have := h'.1; simp only at this; omega)] at this
      exact this
    have e3 := next_state hR h h' hff hs hc
    have e4 := next_state hR.swap h' h hff.symm hs fun c => (hc c).swap
    have htt : t = t' := by omega
    subst hff htt
    refine .cons hs (shape_of hR l l' h.2.2 h'.2.2 fun c => ?_)
    by_cases hct : c ≤ t
    · rw [findA_low h.2.2 hct, findA_low h'.2.2 hct]; trivial
    · have := hc c
      rw [findA_cons, if_neg (by rw [hitA_iff]; simp only; omega), findA_cons, if_neg (by rw [hitA_iff]; simp only; omega)] at this
      exact this

def scanS : Nat → List Int → Option Nat
  | m, [] => some m
  | m, t :: ts => if t < m then scanS m ts else if t = m then scanS (m + 1) ts else none

structure Canon (M : Aut) : Prop where
  len : M.arcs.length = M.fin.length
  srt : ∀ l ∈ M.arcs, chkFrom M.fin.length none l = none
  live : ∀ l ∈ M.arcs, ∀ x ∈ l, ∃ cs, acc M x.2.2 cs = true
  diff : ∀ (j k : Nat), j < k → k < M.fin.length → ∃ cs, acc M j cs ≠ acc M k cs
  bfs : ∃ cnt : Nat → Nat, cnt 0 = 1 ∧ (∀ (i : Nat) l, M.arcs[i]? = some l → i < cnt i ∧ scanS (cnt i) (l.map (·.2.2)) = some (cnt (i + 1))) ∧ cnt M.fin.length = M.fin.length

/-- Two states that accept the same. -/
def Eqv (M M' : Aut) (a b : Int) : Prop := (0 ≤ a ∧ a < M.fin.length) ∧ (0 ≤ b ∧ b < M'.fin.length) ∧ ∀ cs, acc M a cs = acc M' b cs

theorem Canon.inj {M : Aut} (h : Canon M) {a b : Int} (ha : 0 ≤ a ∧ a < M.fin.length) (hb : 0 ≤ b ∧ b < M.fin.length) (he : ∀ cs, acc M a cs = acc M b cs) : a = b := by
  rcases Int.lt_trichotomy a b with hlt | rfl | hlt
  · obtain ⟨cs, hcs⟩ := h.diff a.toNat b.toNat (by omega) (by omega)
    rw [Int.toNat_of_nonneg ha.1, Int.toNat_of_nonneg hb.1] at hcs
    exact absurd (he cs) hcs
  · rfl
  · obtain ⟨cs, hcs⟩ := h.diff b.toNat a.toNat (by omega) (by omega)
    rw [Int.toNat_of_nonneg ha.1, Int.toNat_of_nonneg hb.1] at hcs
    exact absurd (he cs).symm hcs

theorem Canon.oneOne {M M' : Aut} (h : Canon M) (h' : Canon M') : OneOne (Eqv M M') :=
  ⟨fun a b b' h1 h2 => h'.inj h1.2.1 h2.2.1 fun cs => (h1.2.2 cs).symm.trans (h2.2.2 cs), fun a a' b h1 h2 => h.inj h1.1 h2.1 fun cs => (h1.2.2 cs).trans (h2.2.2 cs).symm⟩

theorem nextQ_arcs {M : Aut} {i : Nat} {l : List Arc3} (hl : M.arcs[i]? = some l) (c : Int) : nextQ M i c = (findA l c).getD (-1) := by
  unfold nextQ
  rw [if_neg (by omega)]
  have e : M.arcs.getD (i : Int).toNat [] = l := by simp [hl]
  rw [e]
  unfold findA nextA
  show (match l.find? (hitA c) with | some x => x.2.2 | none => -1) = _
  cases l.find? (hitA c) <;> rfl

theorem findA_mem {l : List Arc3} {c t : Int} (h : findA l c = some t) : ∃ x ∈ l, x.2.2 = t := by
  unfold findA at h
  cases hf : l.find? (hitA c) with
  | none => rw [hf] at h; cases h
  | some x => rw [hf] at h; cases h; exact ⟨x, List.mem_of_find?_eq_some hf, rfl⟩

theorem Canon.target {M : Aut} (h : Canon M) {i : Nat} {l : List Arc3} (hl : M.arcs[i]? = some l) {c t : Int} (hf : findA l c = some t) : (0 ≤ t ∧ t < M.fin.length) ∧ ∃ cs, acc M t cs = true := by
  obtain ⟨x, hx, rfl⟩ := findA_mem hf
  have hm := List.mem_of_getElem? hl
  have hb := chkFrom_state (h.srt l hm) x hx
  refine ⟨?_, h.live l hm x hx⟩
  simp [badArc] at hb
  omega

/-- States that accept the same have arcs of one shape. -/
theorem Canon.shape {M M' : Aut} (h : Canon M) (h' : Canon M') {i : Nat} {l l' : List Arc3} (hl : M.arcs[i]? = some l) (hl' : M'.arcs[i]? = some l') (he : Eqv M M' i i) : Shape (Eqv M M') l l' := by
  refine shape_of (h.oneOne h') l l' (srt_of (fun q hq => by cases hq) (h.srt l (List.mem_of_getElem? hl))) (srt_of (fun q hq => by cases hq) (h'.srt l' (List.mem_of_getElem? hl'))) fun c => ?_
  have hst : ∀ cs, acc M ((findA l c).getD (-1)) cs = acc M' ((findA l' c).getD (-1)) cs := fun cs => by
    have := he.2.2 (c :: cs)
    rw [acc_cons, acc_cons, nextQ_arcs hl, nextQ_arcs hl'] at this
    exact this
  cases hf : findA l c with
  | none =>
    cases hf' : findA l' c with
    | none => trivial
    | some t' =>
      obtain ⟨_, cs, hcs⟩ := h'.target hl' hf'
      have := hst cs
      rw [hf, hf'] at this
      simp only [Option.getD_none, Option.getD_some] at this
      rw [acc_dead M cs (by omega), hcs] at this
      cases this
  | some t =>
    obtain ⟨ht, cs, hcs⟩ := h.target hl hf
    cases hf' : findA l' c with
    | none =>
      have := hst cs
      rw [hf, hf'] at this
      simp only [Option.getD_none, Option.getD_some] at this
      rw [acc_dead M' cs (by omega), hcs] at this
      cases this
    | some t' =>
      obtain ⟨ht', _⟩ := h'.target hl' hf'
      refine ⟨ht, ht', fun cs => ?_⟩
      have := hst cs
      rw [hf, hf'] at this
      exact this

theorem scan_eq {M M' : Aut} (h : Canon M) (h' : Canon M') : ∀ {l l' : List Arc3} {m a b : Nat}, Shape (Eqv M M') l l' → (∀ j : Nat, j < m → Eqv M M' j j) → scanS m (l.map (·.2.2)) = some a → scanS m (l'.map (·.2.2)) = some b →
    l = l' ∧ a = b ∧ ∀ j : Nat, j < a → Eqv M M' j j
  | [], [], m, a, b, .nil, hj, h1, h2 => by
    simp [scanS] at h1 h2; subst h1 h2; exact ⟨rfl, rfl, hj⟩
  | (f, t, s) :: l, (_, _, s') :: l', m, a, b, .cons hR hs, hj, h1, h2 => by
    have hoo := h.oneOne h'
    simp only [List.map_cons, scanS] at h1 h2
    by_cases hsm : s < m
    · have hss := hj s.toNat (by have := hR.1; omega)
      rw [Int.toNat_of_nonneg hR.1.1] at hss
      obtain rfl : s = s' := hoo.l _ _ _ hss hR
      rw [if_pos hsm] at h1 h2
      obtain ⟨e1, e2, e3⟩ := scan_eq h h' hs hj h1 h2
      exact ⟨by rw [e1], e2, e3⟩
    · rw [if_neg hsm] at h1
      by_cases hse : s = m
      · rw [if_pos hse] at h1
        by_cases hsm' : s' < m
        · have hss := hj s'.toNat (by have := hR.2.1; omega)
          rw [Int.toNat_of_nonneg hR.2.1.1] at hss
          have := hoo.r _ _ _ hss hR
          omega
        · rw [if_neg hsm'] at h2
          by_cases hse' : s' = m
          · rw [if_pos hse'] at h2
            obtain rfl : s = s' := hse.trans hse'.symm
            have hj' : ∀ j : Nat, j < m + 1 → Eqv M M' j j := fun j hj1 => by
              by_cases hjm : j < m
              · exact hj j hjm
              · obtain rfl : j = m := by omega
                rw [hse] at hR; exact hR
            obtain ⟨e1, e2, e3⟩ := scan_eq h h' hs hj' h1 h2
            exact ⟨by rw [e1], e2, e3⟩
          · rw [if_neg hse'] at h2; cases h2
      · rw [if_neg hse] at h1; cases h1

/-- TWO CANONICAL AUTOMATA WITH ONE LANGUAGE ARE ONE. -/
theorem canon_unique {M M' : Aut} (h : Canon M) (h' : Canon M') (he : ∀ cs, acc M 0 cs = acc M' 0 cs) : M = M' := by
  obtain ⟨cnt, c0, cs, cn⟩ := h.bfs
  obtain ⟨cnt', c0', cs', cn'⟩ := h'.bfs
  have hpos : 0 < M.fin.length := by
    rcases Nat.eq_zero_or_pos M.fin.length with h0 | h0
    · rw [h0, c0] at cn; omega
    · exact h0
  have hpos' : 0 < M'.fin.length := by
    rcases Nat.eq_zero_or_pos M'.fin.length with h0 | h0
    · rw [h0, c0'] at cn'; omega
    · exact h0
  have main : ∀ i : Nat, i ≤ M.fin.length → i ≤ M'.fin.length → cnt i = cnt' i ∧ (∀ j : Nat, j < cnt i → Eqv M M' j j) ∧ ∀ k, k < i → M.arcs[k]? = M'.arcs[k]? := by
    intro i
    induction i with
    | zero =>
      intro _ _
      refine ⟨c0.trans c0'.symm, fun j hj => ?_, fun k hk => absurd hk (Nat.not_lt_zero k)⟩
      obtain rfl : j = 0 := by omega
      exact ⟨⟨by omega, by omega⟩, ⟨by omega, by omega⟩, he⟩
    | succ i ih =>
      intro h1 h2
      obtain ⟨e1, e2, e3⟩ := ih (by omega) (by omega)
      obtain ⟨l, hl⟩ : ∃ l, M.arcs[i]? = some l := ⟨_, List.getElem?_eq_getElem (by rw [h.len]; omega)⟩
      obtain ⟨l', hl'⟩ : ∃ l', M'.arcs[i]? = some l' := ⟨_, List.getElem?_eq_getElem (by rw [h'.len]; omega)⟩
      obtain ⟨g1, g2⟩ := cs i l hl
      obtain ⟨g1', g2'⟩ := cs' i l' hl'
      rw [← e1] at g2'
      obtain ⟨f1, f2, f3⟩ := scan_eq h h' (h.shape h' hl hl' (e2 i g1)) e2 g2 g2'
      refine ⟨f2, f3, fun k hk => ?_⟩
      by_cases hki : k < i
      · exact e3 k hki
      · obtain rfl : k = i := by omega
        rw [hl, hl', f1]
  have hn : M.fin.length = M'.fin.length := by
    rcases Nat.lt_trichotomy M.fin.length M'.fin.length with hlt | he | hlt
    · obtain ⟨e1, _, _⟩ := main M.fin.length (Nat.le_refl _) (by omega)
      obtain ⟨l', hl'⟩ : ∃ l', M'.arcs[M.fin.length]? = some l' := ⟨_, List.getElem?_eq_getElem (by rw [h'.len]; omega)⟩
      have := (cs' _ l' hl').1
      omega
    · exact he
    · obtain ⟨e1, _, _⟩ := main M'.fin.length (by omega) (Nat.le_refl _)
      obtain ⟨l, hl⟩ : ∃ l, M.arcs[M'.fin.length]? = some l := ⟨_, List.getElem?_eq_getElem (by rw [h.len]; omega)⟩
      have := (cs _ l hl).1
      omega
  obtain ⟨e1, e2, e3⟩ := main M.fin.length (Nat.le_refl _) (by omega)
  have ha : M.arcs = M'.arcs := by
    apply List.ext_getElem?
    intro k
    by_cases hk : k < M.fin.length
    · exact e3 k hk
    · rw [List.getElem?_eq_none (by rw [h.len]; omega), List.getElem?_eq_none (by rw [h'.len]; omega)]
  have hf : M.fin = M'.fin := by
    apply List.ext_getElem hn
    intro k h1 h2
    have hk := (e2 k (by omega)).2.2 []
    rw [acc_nil, acc_nil] at hk
    simpa [h1, h2] using hk
  cases M; cases M'; simp_all
end Go.Proofs.YtlipmjpapkfaeaaGreatDoor.Fn
end
section
set_option linter.unusedSimpArgs false
set_option linter.unusedVariables false
namespace Go.Proofs.YtlipmjpapkfaeaaGreatDoor.Fn
open Go Go.Mach Go.RowKit Go.Proofs Go.Proofs.YtlipmjpapkfaeaaGreatDoor.Orc

/-- An automaton whose arcs are in order and lead to its states. -/
structure Wf (A : Aut) : Prop where
  len : A.arcs.length = A.fin.length
  srt : ∀ l ∈ A.arcs, chkFrom A.fin.length none l = none

theorem Wf.of_validate {A : Aut} (h : validate A = 0) : Wf A := by
  obtain ⟨_, _, h3, h4⟩ := validate_zero h
  exact ⟨h3, fun l hl => chkAll_each h4 l hl⟩
theorem Wf.range {A : Aut} (w : Wf A) {l : List Arc3} (hl : l ∈ A.arcs) {x : Arc3} (hx : x ∈ l) : (0 ≤ x.1 ∧ x.1 ≤ x.2.1 ∧ x.2.1 ≤ 1114111) ∧ 0 ≤ x.2.2 ∧ x.2.2 < A.fin.length := by
  have := chkFrom_state (w.srt l hl) x hx
  simp [badArc] at this
  omega

def Live (A : Aut) (q : Int) : Prop := ∃ cs, acc A q cs = true

/-- In a list in order the arc that holds a code point is found. -/
theorem findA_hit {l : List Arc3} {p : Option Arc3} (h : Srt p l) {x : Arc3} (hx : x ∈ l) {c : Int} (h1 : x.1 ≤ c) (h2 : c ≤ x.2.1) : findA l c = some x.2.2 := by
  induction l generalizing p with
  | nil => simp at hx
  | cons y l ih =>
    rcases List.mem_cons.1 hx with rfl | hx
    · rw [findA_cons, if_pos ((hitA_iff _ _).2 ⟨h1, h2⟩)]
    · have ihx := ih h.2.2 hx
      rw [findA_cons, if_neg]
      · exact ihx
      · intro hy
        have hlow := findA_low h.2.2 ((hitA_iff _ _).1 hy).2
        rw [ihx] at hlow; cases hlow

theorem Wf.step {A : Aut} (w : Wf A) {p : Nat} {l : List Arc3} (hl : A.arcs[p]? = some l) {x : Arc3} (hx : x ∈ l) {c : Int} (h1 : x.1 ≤ c) (h2 : c ≤ x.2.1) : nextQ A p c = x.2.2 := by
  rw [nextQ_arcs hl, findA_hit (srt_of (fun q hq => by cases hq) (w.srt l (List.mem_of_getElem? hl))) hx h1 h2]; rfl

theorem Live.pred {A : Aut} (w : Wf A) {p : Nat} {l : List Arc3} (hl : A.arcs[p]? = some l) {x : Arc3} (hx : x ∈ l) (hq : Live A x.2.2) : Live A p := by
  obtain ⟨cs, hcs⟩ := hq
  have hr := (w.range (List.mem_of_getElem? hl) hx).1
  exact ⟨x.1 :: cs, by rw [acc_cons, w.step hl hx (Int.le_refl _) hr.2.1]; exact hcs⟩
theorem Live.final {A : Aut} {q : Nat} (h : A.fin[q]? = some true) : Live A q := ⟨[], by rw [acc_nil]; simp [h]⟩

/-- What holds the final states and with a state those before it, holds all that is live. -/
theorem live_closed {A : Aut} (w : Wf A) {T : Nat → Prop} (hf : ∀ q : Nat, A.fin[q]? = some true → T q) (hc : ∀ (p : Nat) l, A.arcs[p]? = some l → ∀ x ∈ l, T x.2.2.toNat → T p) : ∀ (cs : List Int) (q : Nat), acc A q cs = true → T q
  | [], q, h => by
    rw [acc_nil] at h
    refine hf q ?_
    cases hq : A.fin[q]? with
    | none => simp [hq] at h
    | some b => simp [hq] at h; rw [h]
  | c :: cs, q, h => by
    rw [acc_cons] at h
    cases hl : A.arcs[q]? with
    | none =>
      have hd : nextQ A q c = -1 := by
        unfold nextQ
        rw [if_neg (by omega)]
        simp only [Int.toNat_natCast, List.getD, hl]
        rfl
      rw [hd, acc_dead A cs (by omega)] at h; cases h
    | some l =>
      rw [nextQ_arcs hl] at h
      cases hf' : findA l c with
      | none => rw [hf'] at h; simp only [Option.getD_none] at h; rw [acc_dead A cs (by omega)] at h; cases h
      | some t =>
        rw [hf'] at h
        simp only [Option.getD_some] at h
        obtain ⟨x, hx, rfl⟩ := findA_mem hf'
        have hr := (w.range (List.mem_of_getElem? hl) hx).2
        refine hc q l hl x hx (live_closed w hf hc cs x.2.2.toNat ?_)
        rw [Int.toNat_of_nonneg hr.1]; exact h
end Go.Proofs.YtlipmjpapkfaeaaGreatDoor.Fn
end
section
set_option linter.unusedSimpArgs false
set_option linter.unusedVariables false
set_option maxRecDepth 100000
namespace Go.Proofs.YtlipmjpapkfaeaaGreatDoor.Fn
open Go Go.Mach Go.RowKit Go.Proofs
attribute [local irreducible] AOps WPX DOps thenS blockS AOp GOps CPick

/-- A list variable and what it holds. -/
structure LV where
  a : Option Addr
  c : Nat
  l : List Int
def LV.v (p : LV) : Value := .slice p.a p.l.length p.c
def LV.e (p : LV) : List Value := [p.v]

/-- Lists of states in a list: each its own. -/
structure Lists (b : Nat) (h : AHeap) (bl : List LV) : Prop where
  ow : Ow h b 1 (bl.map LV.e)
  own : ∀ (i : Nat) p, bl[i]? = some p → OwnV (b + 1) h p.a p.c 1 (p.l.map numV)
  apart : ∀ (i j : Nat) p q, i ≠ j → bl[i]? = some p → bl[j]? = some q → Apart p.a q.a

theorem Lists.keeps {b : Nat} {h h' : AHeap} {bl : List LV} (L : Lists b h bl) (k : Keeps h h') : Lists b h' bl := ⟨L.ow.keeps k, fun i p hp => (L.own i p hp).keeps k, L.apart⟩

theorem Lists.read {W : World} {b : Nat} {h : AHeap} {bl : List LV} (L : Lists b h bl) {i : Nat} {p : LV} (hp : bl[i]? = some p) :
    idxV 1 (.slice (some ⟨b, 0, some 0⟩) bl.length 1) (.int .i64 i) = some (.pointer (some ⟨b, i * 1, some 0⟩)) ∧ aload1 W h ⟨b, i * 1, some 0⟩ = some (.slice p.a p.l.length p.c) := by
  have hi := (List.getElem?_eq_some_iff.1 hp).1
  refine ⟨idx_own hi, ?_⟩
  have := L.ow.at_ (W := W) (i := i) (j := 0) (e := p.e) (u := p.v) (by simp [hp]) rfl
  rw [Nat.add_zero] at this; exact this

/-- A state is put behind the i-th list. -/
theorem Lists.push {W : World} {h0 : AHeap} {b : Nat} {h : AHeap} {bl : List LV} (L : Lists b h bl) (k : Keeps h0 h) (hb : h0.next ≤ b) {i : Nat} {p : LV} (hp : bl[i]? = some p) (q : Int) (hl : p.l.length + 1 ≤ 1073741824) :
    ∃ a' c' h3, appA W (h.new (.cells [.int .i64 q])) 1 (.slice p.a p.l.length p.c) (.slice (some ⟨h.next, 0, some 0⟩) 1 1) = some (.slice a' (p.l.length + 1) c', h3) ∧ Keeps h0 h3 ∧
      (∃ C, h3.own.get b = some (.cells C) ∧ Nat.ble (i * 1 + 1) C.length = true ∧ ∃ C2, splice C (i * 1) [.slice a' (p.l.length + 1) c'] = C2 ∧ Lists b (h3.put b (.cells C2)) (bl.set i ⟨a', c', p.l ++ [q]⟩)) ∧
      h.next + 2 ≤ h3.next ∧ ∀ j, j < h.next → NotIn p.a j → h3.own.get j = h.own.get j := by
  have hi := (List.getElem?_eq_some_iff.1 hp).1
  have hbl := L.ow.lt
  have hop := L.own i p hp
  obtain ⟨a', c', h3, g1, g2, g3, g4, g5, g6⟩ := OwnV.app (W := W) (h0 := h0) (h := h.new (.cells [.int .i64 q])) (b' := h.next) (e := numV q) (hop.keeps ((Keeps.refl _).new _)) (k.new _) (by omega) (by rw [AHeap.new_next]; omega)
    (by rw [AHeap.new_get, if_pos rfl]; rfl) (by rw [AHeap.new_next]; omega) rfl rfl (by simpa using hl)
  have hn3 : h3.next = h.next + 2 := by rw [g4, AHeap.new_next]
  have hbn : NotIn p.a b := fun x hx => by have := (hop.lt hx).1; omega
  have ow3 : Ow h3 b 1 (bl.map LV.e) := L.ow.same (by rw [g5 b (by rw [AHeap.new_next]; omega) hbn, AHeap.new_get, if_neg (by omega)]) (by omega)
  obtain ⟨C, hC, hble, C2, hsp, ow4⟩ := ow3.set1 (f := LV.e) (fun x => rfl) hi ⟨a', c', p.l ++ [q]⟩
  have hsp' : splice C (i * 1) [.slice a' (p.l.length + 1) c'] = C2 := by
    rw [← hsp]; simp [LV.e, LV.v]
  have hsame : ∀ j, j < h.next → NotIn p.a j → h3.own.get j = h.own.get j := fun j hj hn => by rw [g5 j (by rw [AHeap.new_next]; omega) hn, AHeap.new_get, if_neg (by omega)]
  have hput : ∀ {N : Nat}, b + 1 ≤ N → ∀ j, N ≤ j → j < h3.next → (h3.put b (.cells C2)).own.get j = h3.own.get j := fun hN j hj _ => by rw [AHeap.put_get, if_neg (by omega)]
  refine ⟨a', c', h3, by simpa using g1, g3, ⟨C, hC, hble, C2, hsp', ⟨ow4, fun j r hr => ?_, fun j m r s hjm hr hs => ?_⟩⟩, by omega, hsame⟩
  · rw [List.getElem?_set] at hr
    by_cases hij : i = j
    · subst hij
      rw [if_pos rfl, if_pos hi] at hr
      cases hr
      have := g2.same (hput (Nat.le_refl _)) (Nat.le_refl _)
      simpa using this
    · rw [if_neg hij] at hr
      have h1 := OwnV.other (L.own j r hr) (h' := h3) (a' := p.a) hsame (by omega) (L.apart j i r p (fun e => hij e.symm) hr hp)
      exact h1.same (hput (Nat.le_refl _)) (Nat.le_refl _)
  · have hnew : ∀ (j : Nat) r, bl[j]? = some r → Apart r.a a' := fun j r hr => ((L.own j r hr).keeps ((Keeps.refl h).new (.cells [.int .i64 q]))).apartNew g6
    rw [List.getElem?_set] at hr hs
    by_cases hij : i = j
    · subst hij
      rw [if_pos rfl, if_pos hi] at hr
      cases hr
      rw [if_neg hjm] at hs
      exact (hnew m s hs).symm
    · rw [if_neg hij] at hr
      by_cases him : i = m
      · subst him
        rw [if_pos rfl, if_pos hi] at hs
        cases hs
        exact hnew j r hr
      · rw [if_neg him] at hs
        exact L.apart j m r s hjm hr hs

/-- What the lists hold when the arcs of i states have been seen, and j arcs of the next one. -/
structure Before (A : Aut) (M i j : Nat) (bl : List LV) : Prop where
  len : bl.length = A.fin.length
  sz : ∀ (q : Nat) p, bl[q]? = some p → p.l.length ≤ i * M + j
  snd : ∀ (q : Nat) p, bl[q]? = some p → ∀ s ∈ p.l, ∃ t : Nat, s = t ∧ ∃ l, A.arcs[t]? = some l ∧ ∃ x ∈ l, x.2.2 = q
  all : ∀ (q : Nat) p, bl[q]? = some p → ∀ (t : Nat) l x, A.arcs[t]? = some l → (t < i ∧ x ∈ l ∨ t = i ∧ x ∈ l.take j) → x.2.2 = q → (t : Int) ∈ p.l

theorem Before.init (A : Aut) (M n : Nat) (hn : n = A.fin.length) : Before A M 0 0 (List.replicate n ⟨none, 0, []⟩) where
  len := by simp [hn]
  sz := fun q p hp => by obtain ⟨_, e⟩ := List.mem_replicate.1 (List.mem_of_getElem? hp); rw [e]; simp
  snd := fun q p hp s hs => by obtain ⟨_, e⟩ := List.mem_replicate.1 (List.mem_of_getElem? hp); rw [e] at hs; simp at hs
  all := fun q p hp t l x hl hx => by
    rcases hx with ⟨h, _⟩ | ⟨_, h⟩
    · omega
    · simp at h

theorem Before.step {A : Aut} {M i j r : Nat} {bl : List LV} {l : List Arc3} {x : Arc3} {p : LV} (B : Before A M i j bl) (hl : A.arcs[i]? = some l) (hx : l[j]? = some x) (hr : x.2.2 = r) (hp : bl[r]? = some p) (a' : Option Addr) (c' : Nat) :
    Before A M i (j + 1) (bl.set r ⟨a', c', p.l ++ [(i : Int)]⟩) := by
  have hrl := (List.getElem?_eq_some_iff.1 hp).1
  have get : ∀ (q : Nat) p', (bl.set r ⟨a', c', p.l ++ [(i : Int)]⟩)[q]? = some p' → (q = r ∧ p'.l = p.l ++ [(i : Int)]) ∨ (q ≠ r ∧ bl[q]? = some p') := by
    intro q p' h
    rw [List.getElem?_set] at h
    by_cases hq : r = q
    · subst hq; rw [if_pos rfl, if_pos hrl] at h; cases h; exact .inl ⟨rfl, rfl⟩
    · rw [if_neg hq] at h; exact .inr ⟨fun e => hq e.symm, h⟩
  refine ⟨by simp [B.len], fun q p' h => ?_, fun q p' h s hs => ?_, fun q p' h t l' y hl' hy hyq => ?_⟩
  · rcases get q p' h with ⟨rfl, e⟩ | ⟨_, h'⟩
    · rw [e, List.length_append, List.length_singleton]; have := B.sz q p hp; omega
    · have := B.sz q p' h'; omega
  · rcases get q p' h with ⟨rfl, e⟩ | ⟨_, h'⟩
    · rw [e] at hs
      rcases List.mem_append.1 hs with hs | hs
      · exact B.snd q p hp s hs
      · simp at hs; exact ⟨i, hs, l, hl, x, List.mem_of_getElem? hx, hr⟩
    · exact B.snd q p' h' s hs
  · have split : (t < i ∧ y ∈ l' ∨ t = i ∧ y ∈ l'.take j) ∨ (t = i ∧ y = x) := by
      rcases hy with hy | ⟨rfl, hy⟩
      · exact .inl (.inl hy)
      · rw [hl] at hl'; cases hl'
        rw [List.take_add_one, hx] at hy
        rcases List.mem_append.1 hy with hy | hy
        · exact .inl (.inr ⟨rfl, hy⟩)
        · simp at hy; exact .inr ⟨rfl, hy⟩
    rcases get q p' h with ⟨rfl, e⟩ | ⟨hqr, h'⟩
    · rw [e]
      rcases split with hy | ⟨rfl, rfl⟩
      · exact List.mem_append_left _ (B.all q p hp t l' y hl' hy hyq)
      · simp
    · rcases split with hy | ⟨rfl, rfl⟩
      · exact B.all q p' h' t l' y hl' hy hyq
      · exfalso; omega

theorem Before.row {A : Aut} {M i : Nat} {bl : List LV} {l : List Arc3} (B : Before A M i l.length bl) (hl : A.arcs[i]? = some l) (hb : l.length ≤ M) : Before A M (i + 1) 0 bl :=
  ⟨B.len, fun q p hp => by have := B.sz q p hp; rw [Nat.succ_mul]; omega, B.snd, fun q p hp t l' x hl' hx hxq => by
    rcases hx with ⟨h1, h2⟩ | ⟨_, h2⟩
    · by_cases hti : t = i
      · subst hti
        rw [hl] at hl'; cases hl'
        exact B.all q p hp t l x hl (.inr ⟨rfl, by rw [List.take_length]; exact h2⟩) hxq
      · exact B.all q p hp t l' x hl' (.inl ⟨by omega, h2⟩) hxq
    · simp at h2⟩

/-- The states that are known to be live. -/
structure Alv (A : Aut) (ol : List Bool) (sk : List Int) (D : Nat → Prop) : Prop where
  len : ol.length = A.fin.length
  snd : ∀ q : Nat, ol[q]? = some true → Live A q
  fin : ∀ q : Nat, A.fin[q]? = some true → ol[q]? = some true
  stk : ∀ s ∈ sk, ∃ q : Nat, s = q ∧ ol[q]? = some true
  cls : ∀ q : Nat, ol[q]? = some true → (q : Int) ∈ sk ∨ D q ∨ ∀ (t : Nat) l x, A.arcs[t]? = some l → x ∈ l → x.2.2 = (q : Int) → ol[t]? = some true

theorem Alv.done {A : Aut} (w : Wf A) {ol : List Bool} (h : Alv A ol [] fun _ => False) (q : Nat) : ol[q]? = some true ↔ Live A q := by
  refine ⟨h.snd q, fun ⟨cs, hcs⟩ => ?_⟩
  refine live_closed w (T := fun q => ol[q]? = some true) h.fin (fun p l hl x hx hT => ?_) cs q hcs
  rcases h.cls _ hT with hs | hf | hc
  · simp at hs
  · exact hf.elim
  · exact hc p l x hl hx (by have := (w.range (List.mem_of_getElem? hl) hx).2; omega)

def cntF : List Bool → Nat
  | [] => 0
  | true :: l => cntF l
  | false :: l => cntF l + 1
theorem cntF_le : ∀ l : List Bool, cntF l ≤ l.length
  | [] => Nat.le_refl _
  | true :: l => by have := cntF_le l; simp only [cntF, List.length_cons]; omega
  | false :: l => by have := cntF_le l; simp only [cntF, List.length_cons]; omega
theorem cntF_set : ∀ {l : List Bool} {i : Nat}, l[i]? = some false → cntF (l.set i true) + 1 = cntF l
  | [], i, h => by simp at h
  | b :: l, 0, h => by simp at h; subst h; rfl
  | b :: l, i + 1, h => by
    have := cntF_set (l := l) (i := i) (by simpa using h)
    cases b
    · simp only [List.set_cons_succ, cntF]; omega
    · simp only [List.set_cons_succ, cntF]; omega

theorem Alv.pop {A : Aut} {ol : List Bool} {es : List Int} {m q0 : Nat} (h : Alv A ol (es.take (m + 1)) fun _ => False) (hq : es[m]? = some (q0 : Int)) : Alv A ol (es.take m) (fun q => q = q0) ∧ ol[q0]? = some true := by
  have ht : es.take (m + 1) = es.take m ++ [(q0 : Int)] := by rw [List.take_add_one, hq]; rfl
  rw [ht] at h
  refine ⟨⟨h.len, h.snd, h.fin, fun s hs => h.stk s (List.mem_append_left _ hs), fun q hq' => ?_⟩, ?_⟩
  · rcases h.cls q hq' with h1 | h1 | h1
    · rcases List.mem_append.1 h1 with h1 | h1
      · exact .inl h1
      · simp at h1; exact .inr (.inl (by omega))
    · exact h1.elim
    · exact .inr (.inr h1)
  · obtain ⟨q, e, hq'⟩ := h.stk q0 (by simp)
    have : q0 = q := by omega
    rw [this]; exact hq'

theorem set_true {ol : List Bool} {t : Nat} (ht : t < ol.length) {q : Nat} : (ol.set t true)[q]? = some true ↔ (q = t ∨ ol[q]? = some true) := by
  rw [List.getElem?_set]
  by_cases h : t = q
  · subst h; simp [ht]
  · rw [if_neg h]
    exact ⟨fun hh => .inr hh, fun hh => by
      rcases hh with e | hh
      · exact absurd e.symm h
      · exact hh⟩

theorem Alv.push {A : Aut} {ol : List Bool} {sk : List Int} {D : Nat → Prop} {t : Nat} (h : Alv A ol sk D) (ht : t < ol.length) (hl : Live A t) : Alv A (ol.set t true) (sk ++ [(t : Int)]) D := by
  refine ⟨by simp [h.len], fun q hq => ?_, fun q hq => ?_, fun s hs => ?_, fun q hq => ?_⟩
  · rcases (set_true ht).1 hq with rfl | hq
    · exact hl
    · exact h.snd q hq
  · exact (set_true ht).2 (.inr (h.fin q hq))
  · rcases List.mem_append.1 hs with hs | hs
    · obtain ⟨q, e, hq⟩ := h.stk s hs; exact ⟨q, e, (set_true ht).2 (.inr hq)⟩
    · simp at hs; exact ⟨t, hs, (set_true ht).2 (.inl rfl)⟩
  · rcases (set_true ht).1 hq with rfl | hq
    · left; simp
    · rcases h.cls q hq with h1 | h1 | h1
      · exact .inl (List.mem_append_left _ h1)
      · exact .inr (.inl h1)
      · exact .inr (.inr fun t' l x hl hx hxq => (set_true ht).2 (.inr (h1 t' l x hl hx hxq)))

theorem Alv.close {A : Aut} {ol : List Bool} {sk : List Int} {q0 : Nat} (h : Alv A ol sk (fun q => q = q0)) (hc : ∀ (t : Nat) l x, A.arcs[t]? = some l → x ∈ l → x.2.2 = (q0 : Int) → ol[t]? = some true) : Alv A ol sk fun _ => False :=
  ⟨h.len, h.snd, h.fin, h.stk, fun q hq => by
    rcases h.cls q hq with h1 | rfl | h1
    · exact .inl h1
    · exact .inr (.inr hc)
    · exact .inr (.inr h1)⟩

/-- What is known when i final states have been looked at. -/
structure Finals (A : Aut) (n i : Nat) (ol : List Bool) (es : List Int) : Prop where
  ol : ol = A.fin.take i ++ List.replicate (n - i) false
  snd : ∀ s ∈ es, ∃ q : Nat, s = q ∧ A.fin[q]? = some true
  all : ∀ q : Nat, q < i → A.fin[q]? = some true → (q : Int) ∈ es
  len : es.length ≤ i

theorem Finals.skip {A : Aut} {n i : Nat} {ol : List Bool} {es : List Int} (h : Finals A n i ol es) (hi : A.fin[i]? = some false) (hn : i < n) : Finals A n (i + 1) ol es := by
  refine ⟨?_, h.snd, fun q hq hf => ?_, by have := h.len; omega⟩
  · rw [h.ol, List.take_add_one, hi, show n - i = (n - (i + 1)) + 1 by omega, List.replicate_succ]; simp
  · by_cases hqi : q < i
    · exact h.all q hqi hf
    · obtain rfl : q = i := by omega
      rw [hi] at hf; cases hf
theorem Finals.add {A : Aut} {n i : Nat} {ol : List Bool} {es : List Int} (h : Finals A n i ol es) (hi : A.fin[i]? = some true) (hn : i < n) : Finals A n (i + 1) (ol.set i true) (es ++ [(i : Int)]) := by
  have hil := (List.getElem?_eq_some_iff.1 hi).1
  refine ⟨?_, fun s hs => ?_, fun q hq hf => ?_, by have := h.len; simp; omega⟩
  · rw [h.ol, List.take_add_one, hi, show n - i = (n - (i + 1)) + 1 by omega, List.replicate_succ, List.set_append_right _ _ (by simp; omega)]
    have e : i - (A.fin.take i).length = 0 := by simp; omega
    rw [e]; simp
  · rcases List.mem_append.1 hs with hs | hs
    · exact h.snd s hs
    · simp at hs; exact ⟨i, hs, hi⟩
  · by_cases hqi : q < i
    · exact List.mem_append_left _ (h.all q hqi hf)
    · obtain rfl : q = i := by omega
      simp
theorem Finals.done {A : Aut} {n : Nat} {ol : List Bool} {es : List Int} (h : Finals A n n ol es) (hn : n = A.fin.length) : Alv A ol es fun _ => False := by
  have e : ol = A.fin := by rw [h.ol, hn, List.take_length]; simp
  rw [e]
  refine ⟨rfl, fun q hq => Live.final hq, fun q hq => hq, fun s hs => h.snd s hs, fun q hq => .inl (h.all q (by rw [hn]; exact (List.getElem?_eq_some_iff.1 hq).1) hq)⟩
end Go.Proofs.YtlipmjpapkfaeaaGreatDoor.Fn
end
section
set_option linter.unusedSimpArgs false
set_option linter.unusedVariables false
set_option maxRecDepth 100000
namespace Go.Proofs.YtlipmjpapkfaeaaGreatDoor.Fn
open Go Go.Mach Go.RowKit Go.Proofs
attribute [local irreducible] AOps WPX DOps thenS blockS AOp GOps CPick

def InR (l : List Arc3) : Prop := ∀ x ∈ l, 0 ≤ x.1 ∧ x.1 ≤ x.2.1 ∧ x.2.1 ≤ 1114111
theorem addArc_in {l : List Arc3} {x : Arc3} (h : InR l) (hx : 0 ≤ x.1 ∧ x.1 ≤ x.2.1 ∧ x.2.1 ≤ 1114111) : InR (addArc l x) := by
  intro y hy
  rcases last_or l with rfl | ⟨l0, f, t, s, rfl⟩
  · rw [addArc_nil] at hy; simp at hy; subst hy; exact hx
  · by_cases hj : t + 1 = x.1 ∧ s = x.2.2
    · rw [addArc_join hj.1 hj.2] at hy
      rcases List.mem_append.1 hy with hy | hy
      · exact h y (by simp [hy])
      · simp at hy; subst hy
        have := h (f, t, s) (by simp)
        simp only at this ⊢; omega
    · rw [addArc_new hj] at hy
      rcases List.mem_append.1 hy with hy | hy
      · exact h y hy
      · simp at hy; subst hy; exact hx
theorem addArc_len (l : List Arc3) (x : Arc3) : (addArc l x).length ≤ l.length + 1 := by
  rcases last_or l with rfl | ⟨l0, f, t, s, rfl⟩
  · simp [addArc_nil]
  · by_cases hj : t + 1 = x.1 ∧ s = x.2.2
    · rw [addArc_join hj.1 hj.2]; simp
    · rw [addArc_new hj]; simp

def clsOf (cls : List Int) (x : Arc3) : Int := cls.getD x.2.2.toNat (-1)
def stepC (cls : List Int) (out : List Arc3) (x : Arc3) : List Arc3 := if clsOf cls x < 0 then out else addArc out (x.1, x.2.1, clsOf cls x)
def byClassM (cls : List Int) (l : List Arc3) : List Arc3 := l.foldl (stepC cls) []

theorem byClassM_succ {cls : List Int} {l : List Arc3} {j : Nat} {x : Arc3} (hx : l[j]? = some x) : byClassM cls (l.take (j + 1)) = stepC cls (byClassM cls (l.take j)) x := by
  unfold byClassM
  rw [List.take_add_one, hx, List.foldl_append]; rfl
theorem byClassM_in {cls : List Int} {l : List Arc3} (h : InR l) : InR (byClassM cls l) := by
  unfold byClassM
  have : ∀ (l out : List Arc3), InR l → InR out → InR (l.foldl (stepC cls) out) := by
    intro l
    induction l with
    | nil => intro out _ h; exact h
    | cons x l ih =>
      intro out hl ho
      refine ih _ (fun y hy => hl y (by simp [hy])) ?_
      unfold stepC; split
      · exact ho
      · exact addArc_in ho (hl x (by simp))
  exact this l [] h (fun x hx => by simp at hx)
theorem byClassM_len {cls : List Int} (l : List Arc3) : (byClassM cls l).length ≤ l.length := by
  unfold byClassM
  have : ∀ (l out : List Arc3), (l.foldl (stepC cls) out).length ≤ out.length + l.length := by
    intro l
    induction l with
    | nil => intro out; simp
    | cons x l ih =>
      intro out
      have h1 := ih (stepC cls out x)
      have h2 : (stepC cls out x).length ≤ out.length + 1 := by
        unfold stepC; split
        · omega
        · exact addArc_len _ _
      simp only [List.foldl_cons, List.length_cons]; omega
  simpa using this l []

set_option maxHeartbeats 4000000 in
theorem f81_ok (W : World) (h : AHeap) (v vc : Value) (l : List Arc3) (cls : List Int) (hs : Sl W h 3 v (l.map arcV)) (hc : Sl W h 1 vc (cls.map numV)) (hb : l.length < 1073741824) (hr : InR l)
    (hst : ∀ x ∈ l, 0 ≤ x.2.2 ∧ x.2.2.toNat < cls.length) :
    ACalls Tryz.prog W 81 [v, vc] h (fun r h' => (∃ a c, r = .slice a (byClassM cls l).length c ∧ OwnV h.next h' a c 3 ((byClassM cls l).map arcV)) ∧ Keeps h h') := by
  obtain ⟨la, lc, hls⟩ := hs.len
  rw [List.length_map] at hls
  subst hls
  obtain ⟨ca, cc, hcs⟩ := hc.len
  rw [List.length_map] at hcs
  subst hcs
  refine ACalls_ofX hmix c81 (Nat.le_of_ble_eq_true rfl) ?_
  unfold r81
  simp only [envOf2]
  repeat (first | (with_reducible first | apply x_seq | apply x_block | apply x_region | apply x_exit | apply x_ret | apply x_skip | apply t_normal | apply t_exit | apply t_ret | apply b_normal | apply b_ret | apply b_same | apply ops_nil | apply g_T | apply g_F | apply c_T | apply c_F) | (with_reducible refine b_other (by decide) ?_) | ((with_reducible apply x_draws); (with_reducible apply d_pure); (next => kernel_rfl)) | ((with_reducible first | apply ops_d | apply ops_g | apply x_c); (next => simp only [rop, opd, celsL, oneV, aadd, binV, isSh, intBin, scEq, keq, unV, fillL, oP, oA, oS, wantedA, BX, BL, BS, seval, *]; with_reducible exact rfl)))
  refine WPX.loop hmix (fun k σ => ∃ (j : Nat) (L : List Arc3) (a : Option Addr) (c : Nat), j ≤ l.length ∧ k = l.length - j ∧ eget σ.e 1 = .slice ca cls.length cc ∧ eget σ.e 5 = .slice a L.length c ∧ eget σ.e 10 = .slice la l.length lc ∧ eget σ.e 11 = .int .i64 l.length ∧
    eget σ.e 12 = .int .i64 (j : Nat) ∧ Keeps h σ.h ∧ OwnV h.next σ.h a c 3 (L.map arcV) ∧ Hid (L = byClassM cls (l.take j))) l.length ?h0 ?round
  case h0 => exact ⟨0, [], none, 0, Nat.zero_le _, rfl, (by simp only [rop, opd, celsL, oneV, aadd, binV, isSh, intBin, scEq, keq, unV, fillL, oP, oA, oS, wantedA, BX, BL, BS, seval, *]), (by simp only [rop, opd, celsL, oneV, aadd, binV, isSh, intBin, scEq, keq, unV, fillL, oP, oA, oS, wantedA, BX, BL, BS, seval, *, List.length_nil]), (by simp only [rop, opd, celsL, oneV, aadd, binV, isSh, intBin, scEq, keq, unV, fillL, oP, oA, oS, wantedA, BX, BL, BS, seval, *]), (by simp only [rop, opd, celsL, oneV, aadd, binV, isSh, intBin, scEq, keq, unV, fillL, oP, oA, oS, wantedA, BX, BL, BS, seval, *]), (by simp only [rop, opd, celsL, oneV, aadd, binV, isSh, intBin, scEq, keq, unV, fillL, oP, oA, oS, wantedA, BX, BL, BS, seval, *]), Keeps.refl h, OwnV.nil _ _ _, rfl⟩
  rintro k ⟨e, hh⟩ ⟨j, L, a, c, hj, rfl, e1, e5, e10, e11, e12, hk, ho, hL⟩
  dsimp only at e1 e5 e10 e11 e12 hk ho
  by_cases hjl : j < l.length
  · have hjlI : (j : Int) < l.length := by omega
    obtain ⟨⟨f, t, s⟩, hx⟩ : ∃ x, l[j]? = some x := ⟨_, List.getElem?_eq_getElem hjl⟩
    have hxl := List.mem_of_getElem? hx
    have hxr := hr _ hxl
    have hxs := hst _ hxl
    have hxj : (l.map arcV)[j]? = some (arcV (f, t, s)) := by simp [hx]
    obtain ⟨b, hb1, _, hb3⟩ := (hs.keeps hk).at hxj
    have hld := aloadN_of _ _ hb3
    simp only [arcV, List.length_cons, List.length_nil, Nat.reduceAdd] at hld
    simp only at hxr hxs
    obtain ⟨n, rfl⟩ : ∃ n : Nat, s = n := ⟨s.toNat, by omega⟩
    have hn : n < cls.length := by omega
    have hw1 : IntKind.i64.wrap ((j : Int) + 1) = ((j + 1 : Nat) : Int) := wrap_i64 (by omega) (by omega)
    obtain ⟨H1, hH1⟩ : ∃ H1, H1 = (hh.new (.cells [.int .i32 0, .int .i32 0, .int .i64 0])).put hh.next (.cells [.int .i32 f, .int .i32 t, .int .i64 n]) := ⟨_, rfl⟩
    have hkk : Keeps hh H1 := by rw [hH1]; exact ((Keeps.refl hh).new _).put (Nat.le_refl _) _
    have hn1 : H1.next = hh.next + 1 := by rw [hH1]; rfl
    have hg1 : H1.own.get hh.next = some (.cells [.int .i32 f, .int .i32 t, .int .i64 n]) := by rw [hH1, AHeap.put_get, if_pos rfl]
    have hk1 : Keeps h H1 := hk.trans hkk
    have ho1 : OwnV h.next H1 a c 3 (L.map arcV) := ho.keeps hkk
    have hkx : (cls.map numV)[n]? = some (numV cls[n]) := by simp [hn]
    obtain ⟨d, hd1, _, hd3⟩ := (hc.keeps hk1).at hkx
    have hcl := (hd3 0 (.int .i64 cls[n]) rfl).1
    have hdd : aadd d 0 = d := rfl
    rw [hdd] at hcl
    obtain ⟨q, hq⟩ : ∃ q, q = cls[n] := ⟨_, rfl⟩
    have hqo : clsOf cls (f, t, (n : Int)) = q := by rw [hq]; simp [clsOf, hn]
    rw [← hq] at hcl
    have hnx := byClassM_succ (cls := cls) hx
    rw [← hL.out] at hnx
    have hLl : L.length ≤ j := by rw [hL.out]; exact Nat.le_trans (byClassM_len _) (by simp; omega)
    have hLr : InR L := by rw [hL.out]; exact byClassM_in fun x hx => hr x (List.mem_of_mem_take hx)
    clear hb3 hxj hkx hd3 hq hx hxl
    by_cases hq0 : q < 0
    · have hL' : Hid (L = byClassM cls (l.take (j + 1))) := by show _ = _; rw [hnx]; unfold stepC; rw [hqo, if_pos hq0]
      clear hnx hqo hg1
      rw [hH1] at hcl
      repeat (first | (with_reducible first | apply x_seq | apply x_block | apply x_region | apply x_exit | apply x_ret | apply x_skip | apply t_normal | apply t_exit | apply t_ret | apply b_normal | apply b_ret | apply b_same | apply ops_nil | apply g_T | apply g_F | apply c_T | apply c_F) | (with_reducible refine b_other (by decide) ?_) | ((with_reducible apply x_draws); (with_reducible apply d_pure); (next => kernel_rfl)) | ((with_reducible first | apply ops_d | apply ops_g | apply x_c); (next => simp only [rop, opd, celsL, oneV, aadd, binV, isSh, intBin, scEq, keq, unV, fillL, oP, oA, oS, wantedA, BX, BL, BS, seval, *]; with_reducible exact rfl)))
      refine ⟨l.length - (j + 1), by omega, j + 1, L, a, c, by omega, rfl, (by simp only [rop, opd, celsL, oneV, aadd, binV, isSh, intBin, scEq, keq, unV, fillL, oP, oA, oS, wantedA, BX, BL, BS, seval, *]), (by simp only [rop, opd, celsL, oneV, aadd, binV, isSh, intBin, scEq, keq, unV, fillL, oP, oA, oS, wantedA, BX, BL, BS, seval, *]), (by simp only [rop, opd, celsL, oneV, aadd, binV, isSh, intBin, scEq, keq, unV, fillL, oP, oA, oS, wantedA, BX, BL, BS, seval, *]), (by simp only [rop, opd, celsL, oneV, aadd, binV, isSh, intBin, scEq, keq, unV, fillL, oP, oA, oS, wantedA, BX, BL, BS, seval, *]), (by simp only [rop, opd, celsL, oneV, aadd, binV, isSh, intBin, scEq, keq, unV, fillL, oP, oA, oS, wantedA, BX, BL, BS, seval, *]), ?_, ?_, hL'⟩
      · rw [hH1] at hk1; exact hk1
      · rw [hH1] at ho1; exact ho1
    · have hL' : Hid (addArc L (f, t, q) = byClassM cls (l.take (j + 1))) := by show _ = _; rw [hnx]; unfold stepC; rw [hqo, if_neg hq0]
      clear hnx hqo
      have newArc : ∀ (hadd : addArc L (f, t, q) = L ++ [(f, t, q)]), ∃ a' c' h3, appA W (H1.new (.cells [.int .i32 f, .int .i32 t, .int .i64 q])) 3 (.slice a L.length c) (.slice (some ⟨hh.next + 1, 0, some 0⟩) 1 3) = some (.slice a' (addArc L (f, t, q)).length c', h3) ∧ OwnV h.next h3 a' c' 3 ((addArc L (f, t, q)).map arcV) ∧ Keeps h h3 := by
        intro hadd
        obtain ⟨a', c', h3, g1, g2, g3, _⟩ := OwnV.app (W := W) (h0 := h) (h := H1.new (.cells (arcV (f, t, q)))) (b' := hh.next + 1) (e := arcV (f, t, q)) (ho1.keeps ((Keeps.refl _).new _)) (hk1.new _) (Nat.le_refl _)
          (Nat.le_trans hk1.le (by rw [AHeap.new_next]; omega)) (by rw [AHeap.new_get, hn1, if_pos rfl]) (by rw [AHeap.new_next]; omega) rfl rfl (by simp; omega)
        refine ⟨a', c', h3, ?_, ?_, g3⟩
        · rw [List.length_map, List.length_append, List.length_map, List.length_singleton] at g1
          rw [hadd, List.length_append, List.length_singleton]
          exact g1
        · rw [hadd, List.map_append]; exact g2
      rcases last_or L with hnil | ⟨l0, f', t', s', hl0⟩
      · have hgt : ¬ (L.length : Int) > 0 := by rw [hnil]; simp
        obtain ⟨a', c', h3, happ, ho3, hk3⟩ := newArc (by rw [hnil]; rfl)
        obtain ⟨L', hLe⟩ : ∃ L', L' = addArc L (f, t, q) := ⟨_, rfl⟩
        rw [← hLe] at happ ho3 hL'
        clear hnil newArc hLr hLe hg1
        rw [hH1] at hcl happ
        repeat (first | (with_reducible first | apply x_seq | apply x_block | apply x_region | apply x_exit | apply x_ret | apply x_skip | apply t_normal | apply t_exit | apply t_ret | apply b_normal | apply b_ret | apply b_same | apply ops_nil | apply g_T | apply g_F | apply c_T | apply c_F) | (with_reducible refine b_other (by decide) ?_) | ((with_reducible apply x_draws); (with_reducible apply d_pure); (next => kernel_rfl)) | ((with_reducible first | apply ops_d | apply ops_g | apply x_c); (next => simp only [rop, opd, celsL, oneV, aadd, binV, isSh, intBin, scEq, keq, unV, fillL, oP, oA, oS, wantedA, BX, BL, BS, seval, *]; with_reducible exact rfl)))
        exact ⟨l.length - (j + 1), by omega, j + 1, L', a', c', by omega, rfl, (by simp only [rop, opd, celsL, oneV, aadd, binV, isSh, intBin, scEq, keq, unV, fillL, oP, oA, oS, wantedA, BX, BL, BS, seval, *]), (by simp only [rop, opd, celsL, oneV, aadd, binV, isSh, intBin, scEq, keq, unV, fillL, oP, oA, oS, wantedA, BX, BL, BS, seval, *]), (by simp only [rop, opd, celsL, oneV, aadd, binV, isSh, intBin, scEq, keq, unV, fillL, oP, oA, oS, wantedA, BX, BL, BS, seval, *]), (by simp only [rop, opd, celsL, oneV, aadd, binV, isSh, intBin, scEq, keq, unV, fillL, oP, oA, oS, wantedA, BX, BL, BS, seval, *]), (by simp only [rop, opd, celsL, oneV, aadd, binV, isSh, intBin, scEq, keq, unV, fillL, oP, oA, oS, wantedA, BX, BL, BS, seval, *]), hk3, ho3, hL'⟩
      · have hgt : (L.length : Int) > 0 := by rw [hl0]; simp <;> omega
        rcases ho1 with ⟨_, _, hnil⟩ | ⟨b', rfl, rfl, hb1', hb2'⟩
        · rw [hl0] at hnil; simp at hnil
        have hb2'' := hb2'
        rw [hl0] at hb2''
        obtain ⟨C, hC, hC1, hC2, hble, C2, hsp, ho2⟩ := Ow.lastArc hb2'' t
        obtain ⟨m, hm⟩ : ∃ m, m = l0.length := ⟨_, rfl⟩
        rw [← hm] at hC1 hC2 hble hsp
        have hLm : L.length = m + 1 := by rw [hl0, hm]; simp
        have hwm : IntKind.i64.wrap ((L.length : Int) - 1) = (m : Int) := (wrap_i64 (by omega) (by omega)).trans (by omega)
        have hidx : idxV 3 (.slice (some ⟨b', 0, some 0⟩) L.length 3) (.int .i64 m) = some (.pointer (some ⟨b', m * 3, some 0⟩)) := idx_own (by omega)
        have hlast := hLr (f', t', s') (by rw [hl0]; simp)
        simp only at hlast
        have hwt : IntKind.i32.wrap (t' + 1) = t' + 1 := wrap_i32 (by omega) (by omega)
        have hblt : b' < hh.next := (ho.lt rfl).2
        have hbne : ¬ b' = hh.next := by omega
        have hCh : hh.own.get b' = some (.cells C) := by rw [hH1, AHeap.put_get, if_neg hbne, AHeap.new_get, if_neg hbne] at hC; exact hC
        by_cases hjoin : t' + 1 = f ∧ s' = q
        · have hadd : addArc L (f, t, q) = l0 ++ [(f', t, s')] := by rw [hl0]; exact addArc_join hjoin.1 hjoin.2
          obtain ⟨L', hLe⟩ : ∃ L', L' = addArc L (f, t, q) := ⟨_, rfl⟩
          have hLe' : L' = l0 ++ [(f', t, s')] := by rw [hLe, hadd]
          rw [← hLe] at hL'
          rw [← hLe'] at ho2
          have hlen : L'.length = L.length := by rw [hLe', hl0]; simp
          have hj1 : decide (t' + 1 = f) = true := decide_eq_true hjoin.1
          have hj2 : decide (s' = q) = true := decide_eq_true hjoin.2
          have hov : OwnV h.next (H1.put b' (.cells C2)) (some ⟨b', 0, some 0⟩) 3 3 (L'.map arcV) := .inr ⟨b', rfl, rfl, hb1', ho2⟩
          have hk3 : Keeps h (H1.put b' (.cells C2)) := hk1.put hb1' _
          clear hjoin hadd hLe hLe' newArc hLr hl0 hm ho2 hb2' hb2'' hC hLm
          rw [hH1] at hcl
          repeat (first | (with_reducible first | apply x_seq | apply x_block | apply x_region | apply x_exit | apply x_ret | apply x_skip | apply t_normal | apply t_exit | apply t_ret | apply b_normal | apply b_ret | apply b_same | apply ops_nil | apply g_T | apply g_F | apply c_T | apply c_F) | (with_reducible refine b_other (by decide) ?_) | ((with_reducible apply x_draws); (with_reducible apply d_pure); (next => kernel_rfl)) | ((with_reducible first | apply ops_d | apply ops_g | apply x_c); (next => simp only [rop, opd, celsL, oneV, aadd, binV, isSh, intBin, scEq, keq, unV, fillL, oP, oA, oS, wantedA, BX, BL, BS, seval, *]; with_reducible exact rfl)))
          refine ⟨l.length - (j + 1), by omega, j + 1, L', some ⟨b', 0, some 0⟩, 3, by omega, rfl, (by simp only [rop, opd, celsL, oneV, aadd, binV, isSh, intBin, scEq, keq, unV, fillL, oP, oA, oS, wantedA, BX, BL, BS, seval, *]), (by simp only [rop, opd, celsL, oneV, aadd, binV, isSh, intBin, scEq, keq, unV, fillL, oP, oA, oS, wantedA, BX, BL, BS, seval, *]), (by simp only [rop, opd, celsL, oneV, aadd, binV, isSh, intBin, scEq, keq, unV, fillL, oP, oA, oS, wantedA, BX, BL, BS, seval, *]), (by simp only [rop, opd, celsL, oneV, aadd, binV, isSh, intBin, scEq, keq, unV, fillL, oP, oA, oS, wantedA, BX, BL, BS, seval, *]), (by simp only [rop, opd, celsL, oneV, aadd, binV, isSh, intBin, scEq, keq, unV, fillL, oP, oA, oS, wantedA, BX, BL, BS, seval, *]), ?_, ?_, hL'⟩
          · rw [hH1] at hk3; exact hk3
          · rw [hH1] at hov; exact hov
        · have hadd : addArc L (f, t, q) = L ++ [(f, t, q)] := by rw [hl0]; exact addArc_new hjoin
          obtain ⟨a', c', h3, happ, ho3, hk3⟩ := newArc hadd
          obtain ⟨L', hLe⟩ : ∃ L', L' = addArc L (f, t, q) := ⟨_, rfl⟩
          rw [← hLe] at happ ho3 hL'
          clear hadd hLe newArc hLr hl0 hm ho2 hb2' hb2'' hC hLm hsp hble
          rw [hH1] at hcl happ
          by_cases hj1 : t' + 1 = f
          · have hj1' : decide (t' + 1 = f) = true := decide_eq_true hj1
            have hj2 : ¬ s' = q := fun e => hjoin ⟨hj1, e⟩
            clear hj1 hjoin
            repeat (first | (with_reducible first | apply x_seq | apply x_block | apply x_region | apply x_exit | apply x_ret | apply x_skip | apply t_normal | apply t_exit | apply t_ret | apply b_normal | apply b_ret | apply b_same | apply ops_nil | apply g_T | apply g_F | apply c_T | apply c_F) | (with_reducible refine b_other (by decide) ?_) | ((with_reducible apply x_draws); (with_reducible apply d_pure); (next => kernel_rfl)) | ((with_reducible first | apply ops_d | apply ops_g | apply x_c); (next => simp only [rop, opd, celsL, oneV, aadd, binV, isSh, intBin, scEq, keq, unV, fillL, oP, oA, oS, wantedA, BX, BL, BS, seval, *]; with_reducible exact rfl)))
            exact ⟨l.length - (j + 1), by omega, j + 1, L', a', c', by omega, rfl, (by simp only [rop, opd, celsL, oneV, aadd, binV, isSh, intBin, scEq, keq, unV, fillL, oP, oA, oS, wantedA, BX, BL, BS, seval, *]), (by simp only [rop, opd, celsL, oneV, aadd, binV, isSh, intBin, scEq, keq, unV, fillL, oP, oA, oS, wantedA, BX, BL, BS, seval, *]), (by simp only [rop, opd, celsL, oneV, aadd, binV, isSh, intBin, scEq, keq, unV, fillL, oP, oA, oS, wantedA, BX, BL, BS, seval, *]), (by simp only [rop, opd, celsL, oneV, aadd, binV, isSh, intBin, scEq, keq, unV, fillL, oP, oA, oS, wantedA, BX, BL, BS, seval, *]), (by simp only [rop, opd, celsL, oneV, aadd, binV, isSh, intBin, scEq, keq, unV, fillL, oP, oA, oS, wantedA, BX, BL, BS, seval, *]), hk3, ho3, hL'⟩
          · clear hjoin
            repeat (first | (with_reducible first | apply x_seq | apply x_block | apply x_region | apply x_exit | apply x_ret | apply x_skip | apply t_normal | apply t_exit | apply t_ret | apply b_normal | apply b_ret | apply b_same | apply ops_nil | apply g_T | apply g_F | apply c_T | apply c_F) | (with_reducible refine b_other (by decide) ?_) | ((with_reducible apply x_draws); (with_reducible apply d_pure); (next => kernel_rfl)) | ((with_reducible first | apply ops_d | apply ops_g | apply x_c); (next => simp only [rop, opd, celsL, oneV, aadd, binV, isSh, intBin, scEq, keq, unV, fillL, oP, oA, oS, wantedA, BX, BL, BS, seval, *]; with_reducible exact rfl)))
            exact ⟨l.length - (j + 1), by omega, j + 1, L', a', c', by omega, rfl, (by simp only [rop, opd, celsL, oneV, aadd, binV, isSh, intBin, scEq, keq, unV, fillL, oP, oA, oS, wantedA, BX, BL, BS, seval, *]), (by simp only [rop, opd, celsL, oneV, aadd, binV, isSh, intBin, scEq, keq, unV, fillL, oP, oA, oS, wantedA, BX, BL, BS, seval, *]), (by simp only [rop, opd, celsL, oneV, aadd, binV, isSh, intBin, scEq, keq, unV, fillL, oP, oA, oS, wantedA, BX, BL, BS, seval, *]), (by simp only [rop, opd, celsL, oneV, aadd, binV, isSh, intBin, scEq, keq, unV, fillL, oP, oA, oS, wantedA, BX, BL, BS, seval, *]), (by simp only [rop, opd, celsL, oneV, aadd, binV, isSh, intBin, scEq, keq, unV, fillL, oP, oA, oS, wantedA, BX, BL, BS, seval, *]), hk3, ho3, hL'⟩
  · have hjlI : ¬ (j : Int) < l.length := by omega
    have hL2 : L = byClassM cls l := by rw [hL.out, List.take_of_length_le (by omega)]
    rw [← hL2]
    clear hL2 hL
    repeat (first | (with_reducible first | apply x_seq | apply x_block | apply x_region | apply x_exit | apply x_ret | apply x_skip | apply t_normal | apply t_exit | apply t_ret | apply b_normal | apply b_ret | apply b_same | apply ops_nil | apply g_T | apply g_F | apply c_T | apply c_F) | (with_reducible refine b_other (by decide) ?_) | ((with_reducible apply x_draws); (with_reducible apply d_pure); (next => kernel_rfl)) | ((with_reducible first | apply ops_d | apply ops_g | apply x_c); (next => simp only [rop, opd, celsL, oneV, aadd, binV, isSh, intBin, scEq, keq, unV, fillL, oP, oA, oS, wantedA, BX, BL, BS, seval, *]; with_reducible exact rfl)))
    refine ⟨.inr rfl, _, rfl, ⟨a, c, ?_, ho⟩, hk⟩
    simp only [resOf, rop, opd, celsL, oneV, aadd, binV, isSh, intBin, scEq, keq, unV, fillL, oP, oA, oS, wantedA, BX, BL, BS, seval, *]
end Go.Proofs.YtlipmjpapkfaeaaGreatDoor.Fn
end
section
set_option linter.unusedSimpArgs false
set_option linter.unusedVariables false
namespace Go.Proofs.YtlipmjpapkfaeaaGreatDoor.Fn
open Go Go.Mach Go.RowKit

/-- An edge is taken: its key gets a number, the arc is added. -/
def expEdge (st : List Int × List Arc3) (e : Arc3) : List Int × List Arc3 :=
  (if e.2.2 ∈ st.1 then st.1 else st.1 ++ [e.2.2], addArc st.2 (e.1, e.2.1, (st.1.idxOf e.2.2 : Nat)))
def expState (ks : List Int) (l : List Arc3) : List Int × List Arc3 := l.foldl expEdge (ks, [])
def rounds (E : Int → List Arc3) (k0 : Int) : Nat → List Int × List (List Arc3)
  | 0 => ([k0], [])
  | i + 1 => match (rounds E k0 i).1[i]? with
    | some k => ((expState (rounds E k0 i).1 (E k)).1, (rounds E k0 i).2 ++ [(expState (rounds E k0 i).1 (E k)).2])
    | none => rounds E k0 i

theorem expState_succ {ks : List Int} {l : List Arc3} {j : Nat} {x : Arc3} (hx : l[j]? = some x) : expState ks (l.take (j + 1)) = expEdge (expState ks (l.take j)) x := by
  unfold expState
  rw [List.take_add_one, hx, List.foldl_append]; rfl
theorem rounds_succ {E : Int → List Arc3} {k0 : Int} {i : Nat} {k : Int} (hk : (rounds E k0 i).1[i]? = some k) :
    rounds E k0 (i + 1) = ((expState (rounds E k0 i).1 (E k)).1, (rounds E k0 i).2 ++ [(expState (rounds E k0 i).1 (E k)).2]) := by
  conv => lhs; unfold rounds
  rw [hk]

theorem expEdge_pre (st : List Int × List Arc3) (e : Arc3) : ∃ r, (expEdge st e).1 = st.1 ++ r := by
  unfold expEdge
  by_cases h : e.2.2 ∈ st.1
  · exact ⟨[], by simp [h]⟩
  · exact ⟨[e.2.2], by simp [h]⟩
theorem expFold_pre : ∀ (l : List Arc3) (st : List Int × List Arc3), ∃ r, (l.foldl expEdge st).1 = st.1 ++ r
  | [], st => ⟨[], by simp⟩
  | e :: l, st => by
    obtain ⟨r, hr⟩ := expEdge_pre st e
    obtain ⟨r', hr'⟩ := expFold_pre l (expEdge st e)
    exact ⟨r ++ r', by rw [List.foldl_cons, hr', hr, List.append_assoc]⟩
theorem expState_pre (ks : List Int) (l : List Arc3) : ∃ r, (expState ks l).1 = ks ++ r := expFold_pre l (ks, [])
theorem rounds_pre (E : Int → List Arc3) (k0 : Int) (i : Nat) : ∃ r, (rounds E k0 (i + 1)).1 = (rounds E k0 i).1 ++ r := by
  cases hk : (rounds E k0 i).1[i]? with
  | none =>
    refine ⟨[], ?_⟩
    conv => lhs; unfold rounds
    rw [hk]; simp
  | some k =>
    obtain ⟨r, hr⟩ := expState_pre (rounds E k0 i).1 (E k)
    exact ⟨r, by rw [rounds_succ hk]; exact hr⟩
theorem rounds_len (E : Int → List Arc3) (k0 : Int) (i : Nat) : (rounds E k0 i).1.length ≤ (rounds E k0 (i + 1)).1.length := by
  obtain ⟨r, hr⟩ := rounds_pre E k0 i
  rw [hr]; simp
theorem rounds_pos (E : Int → List Arc3) (k0 : Int) : ∀ i, 1 ≤ (rounds E k0 i).1.length
  | 0 => by simp [rounds]
  | i + 1 => Nat.le_trans (rounds_pos E k0 i) (rounds_len E k0 i)

theorem expFold_in {E : List Arc3} : ∀ (l : List Arc3) (st : List Int × List Arc3), InR l → InR st.2 → InR (l.foldl expEdge st).2
  | [], st, _, h => h
  | e :: l, st, hl, h => expFold_in (E := E) l (expEdge st e) (fun y hy => hl y (by simp [hy])) (addArc_in h (hl e (by simp)))
theorem expFold_len : ∀ (l : List Arc3) (st : List Int × List Arc3), (l.foldl expEdge st).2.length ≤ st.2.length + l.length ∧ (l.foldl expEdge st).1.length ≤ st.1.length + l.length
  | [], st => by simp
  | e :: l, st => by
    obtain ⟨h1, h2⟩ := expFold_len l (expEdge st e)
    have h3 : (expEdge st e).2.length ≤ st.2.length + 1 := addArc_len _ _
    have h4 : (expEdge st e).1.length ≤ st.1.length + 1 := by unfold expEdge; simp only; split <;> simp
    simp only [List.foldl_cons, List.length_cons]; omega
theorem expFold_keys {D : Int → Prop} : ∀ (l : List Arc3) (st : List Int × List Arc3), (∀ x ∈ l, D x.2.2) → (∀ k ∈ st.1, D k) → ∀ k ∈ (l.foldl expEdge st).1, D k
  | [], st, _, h => h
  | e :: l, st, hl, h => expFold_keys l (expEdge st e) (fun y hy => hl y (by simp [hy])) (fun k hk => by
      unfold expEdge at hk
      simp only at hk
      split at hk
      · exact h k hk
      · rcases List.mem_append.1 hk with hk | hk
        · exact h k hk
        · simp at hk; subst hk; exact hl e (by simp))
theorem rounds_keys {E : Int → List Arc3} {k0 : Int} {D : Int → Prop} (h0 : D k0) (hE : ∀ k, D k → ∀ x ∈ E k, D x.2.2) : ∀ i, ∀ k ∈ (rounds E k0 i).1, D k
  | 0 => by intro k hk; simp [rounds] at hk; subst hk; exact h0
  | i + 1 => by
    have ih := rounds_keys h0 hE i
    cases hk : (rounds E k0 i).1[i]? with
    | none =>
      have : rounds E k0 (i + 1) = rounds E k0 i := by conv => lhs; unfold rounds
                                                       rw [hk]
      rw [this]; exact ih
    | some k =>
      rw [rounds_succ hk]
      exact expFold_keys (E k) _ (hE k (ih k (List.mem_of_getElem? hk))) ih
end Go.Proofs.YtlipmjpapkfaeaaGreatDoor.Fn
end
