/- corporaref01.Units (F77) in the machine: the units of a string, as records. No condition but the string's size.
Merged from 5 texts. -/
import Derived.Test.YtlipmjpapkfaeaaGreatDoorZD13
import Derived.Test.YtlipmjpapkfaeaaGreatDoorZD25
import Derived.Test.YtlipmjpapkfaeaaGreatDoorZD26
import Derived.Test.YtlipmjpapkfaeaaGreatDoorZD14
section
set_option linter.unusedSimpArgs false
set_option linter.unusedVariables false
set_option maxRecDepth 100000
namespace Go.Proofs.YtlipmjpapkfaeaaGreatDoor.Fn
open Go Go.Mach Go.RowKit Go.Proofs Go.Proofs.YtlipmjpapkfaeaaGreatDoor.Orc
attribute [local irreducible] AOps WPX DOps thenS blockS AOp GOps CPick
end Go.Proofs.YtlipmjpapkfaeaaGreatDoor.Fn
end
section
set_option linter.unusedSimpArgs false
set_option linter.unusedVariables false
set_option maxRecDepth 100000
namespace Go.Proofs.YtlipmjpapkfaeaaGreatDoor.Fn
open Go Go.Mach Go.RowKit Go.Proofs Go.Proofs.YtlipmjpapkfaeaaGreatDoor.Orc
attribute [local irreducible] AOps WPX DOps thenS blockS AOp GOps CPick
def hitA (c : Int) (x : Arc3) : Bool := decide (x.1 ≤ c) && decide (c ≤ x.2.1)
theorem nextA_hit {l : List Arc3} {c : Int} {j : Nat} {x : Arc3} (hj : l[j]? = some x) (h0 : (l.take j).find? (hitA c) = none) (hx : hitA c x = true) : nextA l c = x.2.2 := by
  have hlt := (List.getElem?_eq_some_iff.1 hj).1
  have hs : l = l.take j ++ x :: l.drop (j + 1) := by
    rw [← (List.getElem?_eq_some_iff.1 hj).2, List.getElem_cons_drop, List.take_append_drop]
  unfold nextA
  show (match l.find? (hitA c) with | some x => x.2.2 | none => -1) = _
  rw [hs, List.find?_append, h0]
  simp [hx]
theorem nextA_none {l : List Arc3} {c : Int} (h0 : l.find? (hitA c) = none) : nextA l c = -1 := by
  unfold nextA
  show (match l.find? (hitA c) with | some x => x.2.2 | none => -1) = _
  rw [h0]
def nextQ (A : Aut) (q c : Int) : Int := if q < 0 then -1 else nextA (A.arcs.getD q.toNat []) c
set_option maxHeartbeats 4000000 in
theorem f43_ok (W : World) (h : AHeap) (v : Value) (A : Aut) (vf va : Value) (vs : List Value) (q c : Int) (hA : AutoV W h v A vf va vs) (hb : ∀ l ∈ A.arcs, l.length < 1073741824) (hq : q < 0 ∨ q.toNat < A.arcs.length) :
    ACalls Tryz.prog W 43 [v, .int .i64 q, .int .i32 c] h (fun r h' => r = .int .i64 (nextQ A q c) ∧ Keeps h h') := by
  obtain ⟨rfl, hf, ha, hl, he⟩ := hA
  obtain ⟨fa, fc, hfs⟩ := hf.len
  obtain ⟨aa, ac, has⟩ := ha.len
  rw [List.length_map] at hfs has
  rw [hl] at has
  subst hfs has
  refine ACalls_ofX hmix c43 (Nat.le_of_ble_eq_true rfl) ?_
  unfold r43
  dsimp only [Rc.t, Rc.u, Rc.v, Rc.o, Rc.i, Rc.p, Rc.q, Rc.s, Rc.b, Rc.k, Rc.g, Rc.S, Rc.D]
  simp only [envOf3]
  by_cases hq0 : q < 0
  · have hv : nextQ A q c = -1 := by simp [nextQ, hq0]
    repeat refine zs ?_
    refine ⟨.inr rfl, _, rfl, ?_, (Keeps.refl h).new _⟩
    simp only [resOf, rop, opd, celsL, oneV, aadd, binV, isSh, intBin, scEq, keq, unV, fillL, oP, oA, oS, wantedA, BX, BL, BS, seval, hv]
  obtain ⟨n, rfl⟩ : ∃ n : Nat, q = n := ⟨q.toNat, by omega⟩
  have hn : n < A.arcs.length := by omega
  obtain ⟨l, hll⟩ : ∃ l, A.arcs[n]? = some l := ⟨_, List.getElem?_eq_getElem hn⟩
  obtain ⟨x, hxs⟩ : ∃ x, vs[n]? = some x := ⟨_, List.getElem?_eq_getElem (show n < vs.length by omega)⟩
  have hnq : nextQ A n c = nextA l c := by simp only [nextQ, if_neg hq0]; simp [hll]
  have hxm : (vs.map fun x => [x])[n]? = some [x] := by simp [hxs]
  have hk0 : Keeps h (h.new (.cells [.slice fa A.fin.length fc, .slice aa A.arcs.length ac])) := (Keeps.refl h).new _
  obtain ⟨a, ha1, _, ha3⟩ := (ha.keeps hk0).at hxm
  have hrd := (ha3 0 x rfl).1
  have haa : aadd a 0 = a := rfl
  rw [haa] at hrd
  have hsl := he n x l hxs hll
  obtain ⟨la, lc, hls⟩ := hsl.len
  rw [List.length_map] at hls
  subst hls
  have hbl := hb l (List.mem_of_getElem? hll)
  clear hxm ha3 hq hll hxs
  repeat refine zs ?_
  refine WPX.loop hmix (fun k σ => ∃ j, j ≤ l.length ∧ k = l.length - j ∧ eget σ.e 2 = .int .i32 c ∧ eget σ.e 15 = .slice la l.length lc ∧ eget σ.e 16 = .int .i64 l.length ∧ eget σ.e 17 = .int .i64 (j : Nat) ∧ Keeps h σ.h ∧ (l.take j).find? (hitA c) = none) l.length ?h0 ?round
  case h0 => exact ⟨0, Nat.zero_le _, rfl, zv, zv, zv, zv, hk0, rfl⟩
  rintro k ⟨e, hh⟩ ⟨j, hj, rfl, e2, e15, e16, e17, hk, hnone⟩
  dsimp only at e2 e15 e16 e17 hk
  clear hrd ha1
  by_cases hjl : j < l.length
  · have hjlI : (j : Int) < l.length := by omega
    obtain ⟨⟨f, t, s⟩, hx⟩ : ∃ x, l[j]? = some x := ⟨_, List.getElem?_eq_getElem hjl⟩
    have hxj : (l.map arcV)[j]? = some (arcV (f, t, s)) := by simp [hx]
    obtain ⟨b, hb1, _, hb3⟩ := (hsl.keeps hk).at hxj
    have hld := aloadN_of _ _ hb3
    simp only [arcV, List.length_cons, List.length_nil, Nat.reduceAdd] at hld
    have hw1 : IntKind.i64.wrap ((j : Int) + 1) = ((j + 1 : Nat) : Int) := wrap_i64 (by omega) (by omega)
    have hkk : Keeps h ((hh.new (.cells [.int .i32 0, .int .i32 0, .int .i64 0])).put hh.next (.cells [.int .i32 f, .int .i32 t, .int .i64 s])) := (hk.new _).put hk.le _
    have hnx : hitA c (f, t, s) = false → (l.take (j + 1)).find? (hitA c) = none := fun hf => by
      rw [List.take_add_one, hx, List.find?_append, hnone]; simp [hf]
    have hft : hitA c (f, t, s) = true → nextQ A n c = s := fun hf => by rw [hnq]; exact nextA_hit hx hnone hf
    clear hxj hb3 hx hnq
    by_cases b1 : f ≤ c
    · by_cases b2 : c ≤ t
      · have hv := hft (by simp [hitA, b1, b2])
        clear hnx hft
        repeat refine zs ?_
        refine ⟨.inr rfl, _, rfl, ?_, hkk⟩
        simp only [resOf, rop, opd, celsL, oneV, aadd, binV, isSh, intBin, scEq, keq, unV, fillL, oP, oA, oS, wantedA, BX, BL, BS, seval, hv]
      · have hv := hnx (by simp [hitA, b2])
        clear hnx hft
        repeat refine zs ?_
        exact ⟨l.length - (j + 1), by omega, j + 1, by omega, rfl, zv, zv, zv, zv, hkk, hv⟩
    · have hv := hnx (by simp [hitA, b1])
      clear hnx hft
      repeat refine zs ?_
      exact ⟨l.length - (j + 1), by omega, j + 1, by omega, rfl, zv, zv, zv, zv, hkk, hv⟩
  · have hjlI : ¬ (j : Int) < l.length := by omega
    rw [List.take_of_length_le (by omega)] at hnone
    have hv : nextQ A n c = -1 := by rw [hnq]; exact nextA_none hnone
    clear hnone hnq
    repeat refine zs ?_
    refine ⟨.inr rfl, _, rfl, ?_, hk⟩
    simp only [resOf, rop, opd, celsL, oneV, aadd, binV, isSh, intBin, scEq, keq, unV, fillL, oP, oA, oS, wantedA, BX, BL, BS, seval, hv]
end Go.Proofs.YtlipmjpapkfaeaaGreatDoor.Fn
end
section
set_option linter.unusedSimpArgs false
set_option linter.unusedVariables false
namespace Go.Proofs.YtlipmjpapkfaeaaGreatDoor.Fn
open Go Go.Mach Go.RowKit Go.Proofs Go.Proofs.YtlipmjpapkfaeaaGreatDoor.Orc
def goZ (A : Aut) : Int → List Int → Int
  | q, [] => q
  | q, c :: cs => goZ A (nextQ A q c) cs
def acc (A : Aut) (q : Int) (cs : List Int) : Bool := decide (0 ≤ goZ A q cs) && A.fin.getD (goZ A q cs).toNat false
theorem acc_cons (A : Aut) (q c : Int) (cs : List Int) : acc A q (c :: cs) = acc A (nextQ A q c) cs := rfl
theorem acc_nil (A : Aut) (q : Nat) : acc A q [] = A.fin.getD q false := by simp [acc, goZ]
theorem goZ_dead (A : Aut) : ∀ (cs : List Int) {q : Int}, q < 0 → goZ A q cs < 0
  | [], q, h => h
  | c :: cs, q, h => by unfold goZ nextQ; rw [if_pos h]; exact goZ_dead A cs (by omega)
theorem acc_dead (A : Aut) (cs : List Int) {q : Int} (h : q < 0) : acc A q cs = false := by
  have := goZ_dead A cs h
  simp [acc, show ¬ 0 ≤ goZ A q cs by omega]
def Srt : Option Arc3 → List Arc3 → Prop
  | _, [] => True
  | p, x :: l => x.1 ≤ x.2.1 ∧ (∀ q, p = some q → q.2.1 < x.1 ∧ ¬ (x.1 = q.2.1 + 1 ∧ x.2.2 = q.2.2)) ∧ Srt (some x) l
theorem srt_of {n : Nat} : ∀ {l : List Arc3} {p : Option Arc3}, (∀ q, p = some q → -1 ≤ q.2.1 ∧ q.2.1 ≤ 1114111) → chkFrom n p l = none → Srt p l
  | [], p, _, _ => trivial
  | x :: l, p, hp, h => by
    unfold chkFrom at h
    split at h
    · cases h
    · rename_i hbad
      have hx : 0 ≤ x.1 ∧ x.1 ≤ x.2.1 ∧ x.2.1 ≤ 1114111 := by simp [badArc] at hbad; omega
      have hrec : chkFrom n (some x) l = none ∧ ∀ q, p = some q → q.2.1 < x.1 ∧ ¬ (x.1 = q.2.1 + 1 ∧ x.2.2 = q.2.2) := by
        cases p with
        | none => exact ⟨h, fun q hq => by cases hq⟩
        | some q =>
          simp only at h
          split at h
          · cases h
          · split at h
            · cases h
            · rename_i h1 h2
              refine ⟨h, fun q' hq => ?_⟩
              cases hq
              have hw : IntKind.i32.wrap (q.2.1 + 1) = q.2.1 + 1 := wrap_i32 (by have := hp q rfl; omega) (by have := hp q rfl; omega)
              rw [hw] at h2
              exact ⟨by omega, h2⟩
      exact ⟨hx.2.1, hrec.2, srt_of (fun q hq => by cases hq; omega) hrec.1⟩
def findA (l : List Arc3) (c : Int) : Option Int := (l.find? (hitA c)).map (·.2.2)
theorem findA_cons (x : Arc3) (l : List Arc3) (c : Int) : findA (x :: l) c = if hitA c x = true then some x.2.2 else findA l c := by
  unfold findA
  by_cases h : hitA c x = true
  · simp [h]
  · simp [h]
theorem hitA_iff (c : Int) (x : Arc3) : hitA c x = true ↔ x.1 ≤ c ∧ c ≤ x.2.1 := by simp [hitA]
theorem findA_low {l : List Arc3} {p : Arc3} {c : Int} (h : Srt (some p) l) (hc : c ≤ p.2.1) : findA l c = none := by
  induction l generalizing p with
  | nil => rfl
  | cons x l ih =>
    obtain ⟨h1, h2, h3⟩ := h
    have := (h2 p rfl).1
    rw [findA_cons, if_neg (by rw [hitA_iff]; omega)]
    exact ih h3 (by omega)
theorem findA_none_low {x : Arc3} {l : List Arc3} {p : Option Arc3} {c : Int} (h : Srt p (x :: l)) (hc : c < x.1) : findA (x :: l) c = none := by
  obtain ⟨h1, h2, h3⟩ := h
  rw [findA_cons, if_neg (by rw [hitA_iff]; omega)]
  exact findA_low h3 (by omega)
def Rel2 (R : Int → Int → Prop) : Option Int → Option Int → Prop
  | none, none => True
  | some a, some b => R a b
  | _, _ => False
structure OneOne (R : Int → Int → Prop) : Prop where
  l : ∀ a b b', R a b → R a b' → b = b'
  r : ∀ a a' b, R a b → R a' b → a = a'
inductive Shape (R : Int → Int → Prop) : List Arc3 → List Arc3 → Prop
  | nil : Shape R [] []
  | cons {f t s s' : Int} {l l' : List Arc3} (h : R s s') (hs : Shape R l l') : Shape R ((f, t, s) :: l) ((f, t, s') :: l')
theorem next_state {R : Int → Int → Prop} (hR : OneOne R) {f t s f' t' s' : Int} {r r' : List Arc3} {p p' : Option Arc3} (h : Srt p ((f, t, s) :: r)) (h' : Srt p' ((f', t', s') :: r'))
    (hff : f = f') (hs : R s s') (hc : ∀ c, Rel2 R (findA ((f, t, s) :: r) c) (findA ((f', t', s') :: r') c)) : ¬ t < t' := by
  intro hlt
  obtain ⟨h1, h2, h3⟩ := h
  obtain ⟨h1', h2', h3'⟩ := h'
  simp only at h1 h1'
  have hh := hc (t + 1)
  rw [findA_cons, if_neg (by rw [hitA_iff]; simp only; omega), findA_cons (f', t', s'), if_pos (by rw [hitA_iff]; simp only; omega)] at hh
  cases r with
  | nil => exact hh
  | cons z r2 =>
    have hz := h3.2.1 _ rfl
    simp only at hz
    by_cases hz1 : z.1 = t + 1
    · rw [findA_cons, if_pos (by rw [hitA_iff]; have := h3.1; omega)] at hh
      have : z.2.2 = s := hR.r _ _ _ hh hs
      exact hz.2 ⟨hz1, this⟩
    · rw [findA_none_low h3 (by omega)] at hh
      exact hh
theorem Rel2.swap {R : Int → Int → Prop} {a b : Option Int} (h : Rel2 R a b) : Rel2 (fun x y => R y x) b a := by
  cases a <;> cases b <;> exact h
theorem OneOne.swap {R : Int → Int → Prop} (h : OneOne R) : OneOne (fun x y => R y x) := ⟨fun a b b' h1 h2 => h.r _ _ _ h1 h2, fun a a' b h1 h2 => h.l _ _ _ h1 h2⟩
theorem shape_of {R : Int → Int → Prop} (hR : OneOne R) : ∀ (l l' : List Arc3) {p p' : Option Arc3}, Srt p l → Srt p' l' → (∀ c, Rel2 R (findA l c) (findA l' c)) → Shape R l l'
  | [], [], _, _, _, _, _ => .nil
  | [], x :: l', _, _, _, h', hc => by
    have := hc x.1
    rw [findA_cons, if_pos (by rw [hitA_iff]; exact ⟨Int.le_refl _, h'.1⟩)] at this
    exact this.elim
  | x :: l, [], _, _, h, _, hc => by
    have := hc x.1
    rw [findA_cons, if_pos (by rw [hitA_iff]; exact ⟨Int.le_refl _, h.1⟩)] at this
    exact this.elim
  | (f, t, s) :: l, (f', t', s') :: l', p, p', h, h', hc => by
    have e1 : ¬ f < f' := fun hlt => by
      have := hc f
      rw [findA_cons, if_pos (by rw [hitA_iff]; exact ⟨Int.le_refl _, h.1⟩), findA_none_low h' hlt] at this
      exact this
    have e2 : ¬ f' < f := fun hlt => by
      have := hc f'
      rw [findA_cons (f', t', s'), if_pos (by rw [hitA_iff]; exact ⟨Int.le_refl _, h'.1⟩), findA_none_low h hlt] at this
      exact this
    have hff : f = f' := by omega
    have hs : R s s' := by
      have := hc f
      rw [findA_cons, if_pos (by rw [hitA_iff]; exact ⟨Int.le_refl _, h.1⟩), findA_cons (f', t', s'), if_pos (by rw [hitA_iff]; simp only; have := h'.1; simp only at this; omega)] at this
      exact this
    have e3 := next_state hR h h' hff hs hc
    have e4 := next_state hR.swap h' h hff.symm hs fun c => (hc c).swap
    have htt : t = t' := by omega
    subst hff htt
    refine .cons hs (shape_of hR l l' h.2.2 h'.2.2 fun c => ?_)
    by_cases hct : c ≤ t
    · rw [findA_low h.2.2 hct, findA_low h'.2.2 hct]; trivial
    · have := hc c
      rw [findA_cons, if_neg (by rw [hitA_iff]; simp only; omega), findA_cons, if_neg (by rw [hitA_iff]; simp only; omega)] at this
      exact this
def scanS : Nat → List Int → Option Nat
  | m, [] => some m
  | m, t :: ts => if t < m then scanS m ts else if t = m then scanS (m + 1) ts else none
structure Canon (M : Aut) : Prop where
  len : M.arcs.length = M.fin.length
  srt : ∀ l ∈ M.arcs, chkFrom M.fin.length none l = none
  live : ∀ l ∈ M.arcs, ∀ x ∈ l, ∃ cs, acc M x.2.2 cs = true
  diff : ∀ (j k : Nat), j < k → k < M.fin.length → ∃ cs, acc M j cs ≠ acc M k cs
  bfs : ∃ cnt : Nat → Nat, cnt 0 = 1 ∧ (∀ (i : Nat) l, M.arcs[i]? = some l → i < cnt i ∧ scanS (cnt i) (l.map (·.2.2)) = some (cnt (i + 1))) ∧ cnt M.fin.length = M.fin.length
def Eqv (M M' : Aut) (a b : Int) : Prop := (0 ≤ a ∧ a < M.fin.length) ∧ (0 ≤ b ∧ b < M'.fin.length) ∧ ∀ cs, acc M a cs = acc M' b cs
theorem Canon.inj {M : Aut} (h : Canon M) {a b : Int} (ha : 0 ≤ a ∧ a < M.fin.length) (hb : 0 ≤ b ∧ b < M.fin.length) (he : ∀ cs, acc M a cs = acc M b cs) : a = b := by
  rcases Int.lt_trichotomy a b with hlt | rfl | hlt
  · obtain ⟨cs, hcs⟩ := h.diff a.toNat b.toNat (by omega) (by omega)
    rw [Int.toNat_of_nonneg ha.1, Int.toNat_of_nonneg hb.1] at hcs
    exact absurd (he cs) hcs
  · rfl
  · obtain ⟨cs, hcs⟩ := h.diff b.toNat a.toNat (by omega) (by omega)
    rw [Int.toNat_of_nonneg ha.1, Int.toNat_of_nonneg hb.1] at hcs
    exact absurd (he cs).symm hcs
theorem Canon.oneOne {M M' : Aut} (h : Canon M) (h' : Canon M') : OneOne (Eqv M M') :=
  ⟨fun a b b' h1 h2 => h'.inj h1.2.1 h2.2.1 fun cs => (h1.2.2 cs).symm.trans (h2.2.2 cs), fun a a' b h1 h2 => h.inj h1.1 h2.1 fun cs => (h1.2.2 cs).trans (h2.2.2 cs).symm⟩
theorem nextQ_arcs {M : Aut} {i : Nat} {l : List Arc3} (hl : M.arcs[i]? = some l) (c : Int) : nextQ M i c = (findA l c).getD (-1) := by
  unfold nextQ
  rw [if_neg (by omega)]
  have e : M.arcs.getD (i : Int).toNat [] = l := by simp [hl]
  rw [e]
  unfold findA nextA
  show (match l.find? (hitA c) with | some x => x.2.2 | none => -1) = _
  cases l.find? (hitA c) <;> rfl
theorem findA_mem {l : List Arc3} {c t : Int} (h : findA l c = some t) : ∃ x ∈ l, x.2.2 = t := by
  unfold findA at h
  cases hf : l.find? (hitA c) with
  | none => rw [hf] at h; cases h
  | some x => rw [hf] at h; cases h; exact ⟨x, List.mem_of_find?_eq_some hf, rfl⟩
theorem Canon.target {M : Aut} (h : Canon M) {i : Nat} {l : List Arc3} (hl : M.arcs[i]? = some l) {c t : Int} (hf : findA l c = some t) : (0 ≤ t ∧ t < M.fin.length) ∧ ∃ cs, acc M t cs = true := by
  obtain ⟨x, hx, rfl⟩ := findA_mem hf
  have hm := List.mem_of_getElem? hl
  have hb := chkFrom_state (h.srt l hm) x hx
  refine ⟨?_, h.live l hm x hx⟩
  simp [badArc] at hb
  omega
theorem Canon.shape {M M' : Aut} (h : Canon M) (h' : Canon M') {i : Nat} {l l' : List Arc3} (hl : M.arcs[i]? = some l) (hl' : M'.arcs[i]? = some l') (he : Eqv M M' i i) : Shape (Eqv M M') l l' := by
  refine shape_of (h.oneOne h') l l' (srt_of (fun q hq => by cases hq) (h.srt l (List.mem_of_getElem? hl))) (srt_of (fun q hq => by cases hq) (h'.srt l' (List.mem_of_getElem? hl'))) fun c => ?_
  have hst : ∀ cs, acc M ((findA l c).getD (-1)) cs = acc M' ((findA l' c).getD (-1)) cs := fun cs => by
    have := he.2.2 (c :: cs)
    rw [acc_cons, acc_cons, nextQ_arcs hl, nextQ_arcs hl'] at this
    exact this
  cases hf : findA l c with
  | none =>
    cases hf' : findA l' c with
    | none => trivial
    | some t' =>
      obtain ⟨_, cs, hcs⟩ := h'.target hl' hf'
      have := hst cs
      rw [hf, hf'] at this
      simp only [Option.getD_none, Option.getD_some] at this
      rw [acc_dead M cs (by omega), hcs] at this
      cases this
  | some t =>
    obtain ⟨ht, cs, hcs⟩ := h.target hl hf
    cases hf' : findA l' c with
    | none =>
      have := hst cs
      rw [hf, hf'] at this
      simp only [Option.getD_none, Option.getD_some] at this
      rw [acc_dead M' cs (by omega), hcs] at this
      cases this
    | some t' =>
      obtain ⟨ht', _⟩ := h'.target hl' hf'
      refine ⟨ht, ht', fun cs => ?_⟩
      have := hst cs
      rw [hf, hf'] at this
      exact this
theorem scan_eq {M M' : Aut} (h : Canon M) (h' : Canon M') : ∀ {l l' : List Arc3} {m a b : Nat}, Shape (Eqv M M') l l' → (∀ j : Nat, j < m → Eqv M M' j j) → scanS m (l.map (·.2.2)) = some a → scanS m (l'.map (·.2.2)) = some b →
    l = l' ∧ a = b ∧ ∀ j : Nat, j < a → Eqv M M' j j
  | [], [], m, a, b, .nil, hj, h1, h2 => by
    simp [scanS] at h1 h2; subst h1 h2; exact ⟨rfl, rfl, hj⟩
  | (f, t, s) :: l, (_, _, s') :: l', m, a, b, .cons hR hs, hj, h1, h2 => by
    have hoo := h.oneOne h'
    simp only [List.map_cons, scanS] at h1 h2
    by_cases hsm : s < m
    · have hss := hj s.toNat (by have := hR.1; omega)
      rw [Int.toNat_of_nonneg hR.1.1] at hss
      obtain rfl : s = s' := hoo.l _ _ _ hss hR
      rw [if_pos hsm] at h1 h2
      obtain ⟨e1, e2, e3⟩ := scan_eq h h' hs hj h1 h2
      exact ⟨by rw [e1], e2, e3⟩
    · rw [if_neg hsm] at h1
      by_cases hse : s = m
      · rw [if_pos hse] at h1
        by_cases hsm' : s' < m
        · have hss := hj s'.toNat (by have := hR.2.1; omega)
          rw [Int.toNat_of_nonneg hR.2.1.1] at hss
          have := hoo.r _ _ _ hss hR
          omega
        · rw [if_neg hsm'] at h2
          by_cases hse' : s' = m
          · rw [if_pos hse'] at h2
            obtain rfl : s = s' := hse.trans hse'.symm
            have hj' : ∀ j : Nat, j < m + 1 → Eqv M M' j j := fun j hj1 => by
              by_cases hjm : j < m
              · exact hj j hjm
              · obtain rfl : j = m := by omega
                rw [hse] at hR; exact hR
            obtain ⟨e1, e2, e3⟩ := scan_eq h h' hs hj' h1 h2
            exact ⟨by rw [e1], e2, e3⟩
          · rw [if_neg hse'] at h2; cases h2
      · rw [if_neg hse] at h1; cases h1
theorem canon_unique {M M' : Aut} (h : Canon M) (h' : Canon M') (he : ∀ cs, acc M 0 cs = acc M' 0 cs) : M = M' := by
  obtain ⟨cnt, c0, cs, cn⟩ := h.bfs
  obtain ⟨cnt', c0', cs', cn'⟩ := h'.bfs
  have hpos : 0 < M.fin.length := by
    rcases Nat.eq_zero_or_pos M.fin.length with h0 | h0
    · rw [h0, c0] at cn; omega
    · exact h0
  have hpos' : 0 < M'.fin.length := by
    rcases Nat.eq_zero_or_pos M'.fin.length with h0 | h0
    · rw [h0, c0'] at cn'; omega
    · exact h0
  have main : ∀ i : Nat, i ≤ M.fin.length → i ≤ M'.fin.length → cnt i = cnt' i ∧ (∀ j : Nat, j < cnt i → Eqv M M' j j) ∧ ∀ k, k < i → M.arcs[k]? = M'.arcs[k]? := by
    intro i
    induction i with
    | zero =>
      intro _ _
      refine ⟨c0.trans c0'.symm, fun j hj => ?_, fun k hk => absurd hk (Nat.not_lt_zero k)⟩
      obtain rfl : j = 0 := by omega
      exact ⟨⟨by omega, by omega⟩, ⟨by omega, by omega⟩, he⟩
    | succ i ih =>
      intro h1 h2
      obtain ⟨e1, e2, e3⟩ := ih (by omega) (by omega)
      obtain ⟨l, hl⟩ : ∃ l, M.arcs[i]? = some l := ⟨_, List.getElem?_eq_getElem (by rw [h.len]; omega)⟩
      obtain ⟨l', hl'⟩ : ∃ l', M'.arcs[i]? = some l' := ⟨_, List.getElem?_eq_getElem (by rw [h'.len]; omega)⟩
      obtain ⟨g1, g2⟩ := cs i l hl
      obtain ⟨g1', g2'⟩ := cs' i l' hl'
      rw [← e1] at g2'
      obtain ⟨f1, f2, f3⟩ := scan_eq h h' (h.shape h' hl hl' (e2 i g1)) e2 g2 g2'
      refine ⟨f2, f3, fun k hk => ?_⟩
      by_cases hki : k < i
      · exact e3 k hki
      · obtain rfl : k = i := by omega
        rw [hl, hl', f1]
  have hn : M.fin.length = M'.fin.length := by
    rcases Nat.lt_trichotomy M.fin.length M'.fin.length with hlt | he | hlt
    · obtain ⟨e1, _, _⟩ := main M.fin.length (Nat.le_refl _) (by omega)
      obtain ⟨l', hl'⟩ : ∃ l', M'.arcs[M.fin.length]? = some l' := ⟨_, List.getElem?_eq_getElem (by rw [h'.len]; omega)⟩
      have := (cs' _ l' hl').1
      omega
    · exact he
    · obtain ⟨e1, _, _⟩ := main M'.fin.length (by omega) (Nat.le_refl _)
      obtain ⟨l, hl⟩ : ∃ l, M.arcs[M'.fin.length]? = some l := ⟨_, List.getElem?_eq_getElem (by rw [h.len]; omega)⟩
      have := (cs _ l hl).1
      omega
  obtain ⟨e1, e2, e3⟩ := main M.fin.length (Nat.le_refl _) (by omega)
  have ha : M.arcs = M'.arcs := by
    apply List.ext_getElem?
    intro k
    by_cases hk : k < M.fin.length
    · exact e3 k hk
    · rw [List.getElem?_eq_none (by rw [h.len]; omega), List.getElem?_eq_none (by rw [h'.len]; omega)]
  have hf : M.fin = M'.fin := by
    apply List.ext_getElem hn
    intro k h1 h2
    have hk := (e2 k (by omega)).2.2 []
    rw [acc_nil, acc_nil] at hk
    simpa [h1, h2] using hk
  cases M; cases M'; simp_all
end Go.Proofs.YtlipmjpapkfaeaaGreatDoor.Fn
end
section
set_option linter.unusedSimpArgs false
set_option linter.unusedVariables false
namespace Go.Proofs.YtlipmjpapkfaeaaGreatDoor.Fn
open Go Go.Mach Go.RowKit Go.Proofs Go.Proofs.YtlipmjpapkfaeaaGreatDoor.Orc
structure Wf (A : Aut) : Prop where
  len : A.arcs.length = A.fin.length
  srt : ∀ l ∈ A.arcs, chkFrom A.fin.length none l = none
theorem Wf.of_validate {A : Aut} (h : validate A = 0) : Wf A := by
  obtain ⟨_, _, h3, h4⟩ := validate_zero h
  exact ⟨h3, fun l hl => chkAll_each h4 l hl⟩
theorem Wf.range {A : Aut} (w : Wf A) {l : List Arc3} (hl : l ∈ A.arcs) {x : Arc3} (hx : x ∈ l) : (0 ≤ x.1 ∧ x.1 ≤ x.2.1 ∧ x.2.1 ≤ 1114111) ∧ 0 ≤ x.2.2 ∧ x.2.2 < A.fin.length := by
  have := chkFrom_state (w.srt l hl) x hx
  simp [badArc] at this
  omega
def Live (A : Aut) (q : Int) : Prop := ∃ cs, acc A q cs = true
theorem findA_hit {l : List Arc3} {p : Option Arc3} (h : Srt p l) {x : Arc3} (hx : x ∈ l) {c : Int} (h1 : x.1 ≤ c) (h2 : c ≤ x.2.1) : findA l c = some x.2.2 := by
  induction l generalizing p with
  | nil => simp at hx
  | cons y l ih =>
    rcases List.mem_cons.1 hx with rfl | hx
    · rw [findA_cons, if_pos ((hitA_iff _ _).2 ⟨h1, h2⟩)]
    · have ihx := ih h.2.2 hx
      rw [findA_cons, if_neg]
      · exact ihx
      · intro hy
        have hlow := findA_low h.2.2 ((hitA_iff _ _).1 hy).2
        rw [ihx] at hlow; cases hlow
theorem Wf.step {A : Aut} (w : Wf A) {p : Nat} {l : List Arc3} (hl : A.arcs[p]? = some l) {x : Arc3} (hx : x ∈ l) {c : Int} (h1 : x.1 ≤ c) (h2 : c ≤ x.2.1) : nextQ A p c = x.2.2 := by
  rw [nextQ_arcs hl, findA_hit (srt_of (fun q hq => by cases hq) (w.srt l (List.mem_of_getElem? hl))) hx h1 h2]; rfl
theorem Live.pred {A : Aut} (w : Wf A) {p : Nat} {l : List Arc3} (hl : A.arcs[p]? = some l) {x : Arc3} (hx : x ∈ l) (hq : Live A x.2.2) : Live A p := by
  obtain ⟨cs, hcs⟩ := hq
  have hr := (w.range (List.mem_of_getElem? hl) hx).1
  exact ⟨x.1 :: cs, by rw [acc_cons, w.step hl hx (Int.le_refl _) hr.2.1]; exact hcs⟩
theorem Live.final {A : Aut} {q : Nat} (h : A.fin[q]? = some true) : Live A q := ⟨[], by rw [acc_nil]; simp [h]⟩
theorem live_closed {A : Aut} (w : Wf A) {T : Nat → Prop} (hf : ∀ q : Nat, A.fin[q]? = some true → T q) (hc : ∀ (p : Nat) l, A.arcs[p]? = some l → ∀ x ∈ l, T x.2.2.toNat → T p) : ∀ (cs : List Int) (q : Nat), acc A q cs = true → T q
  | [], q, h => by
    rw [acc_nil] at h
    refine hf q ?_
    cases hq : A.fin[q]? with
    | none => simp [hq] at h
    | some b => simp [hq] at h; rw [h]
  | c :: cs, q, h => by
    rw [acc_cons] at h
    cases hl : A.arcs[q]? with
    | none =>
      have hd : nextQ A q c = -1 := by
        unfold nextQ
        rw [if_neg (by omega)]
        simp only [Int.toNat_natCast, List.getD, hl]
        rfl
      rw [hd, acc_dead A cs (by omega)] at h; cases h
    | some l =>
      rw [nextQ_arcs hl] at h
      cases hf' : findA l c with
      | none => rw [hf'] at h; simp only [Option.getD_none] at h; rw [acc_dead A cs (by omega)] at h; cases h
      | some t =>
        rw [hf'] at h
        simp only [Option.getD_some] at h
        obtain ⟨x, hx, rfl⟩ := findA_mem hf'
        have hr := (w.range (List.mem_of_getElem? hl) hx).2
        refine hc q l hl x hx (live_closed w hf hc cs x.2.2.toNat ?_)
        rw [Int.toNat_of_nonneg hr.1]; exact h
end Go.Proofs.YtlipmjpapkfaeaaGreatDoor.Fn
end
section
set_option linter.unusedSimpArgs false
set_option linter.unusedVariables false
set_option maxRecDepth 100000
namespace Go.Proofs.YtlipmjpapkfaeaaGreatDoor.Fn
open Go Go.Mach Go.RowKit Go.Proofs
attribute [local irreducible] AOps WPX DOps thenS blockS AOp GOps CPick
theorem aload2 {W : World} {h : AHeap} {b : Nat} {x y : Value} (hb : h.own.get b = some (.cells [x, y])) : aloadN W h ⟨b, 0, some 0⟩ 2 = some [x, y] := by simp [aloadN, aload1, aadd, hb]
set_option maxHeartbeats 8000000 in
theorem f82_ok (W : World) (h : AHeap) (k0 : Int) (ff fe : FuncId) (capF capE : Array Value) (limit : Int) (F : Int → Bool) (E : Int → List Arc3) (D : Int → Prop)
    (h0 : D k0) (hD : ∀ k, D k → ∀ x ∈ E k, D x.2.2) (hEr : ∀ k, D k → InR (E k)) (hEl : ∀ k, D k → (E k).length < 1048576)
    (hlim : ∀ i, ((rounds E k0 i).1.length : Int) ≤ limit) (hlimit : limit < 1048576)
    (hF : ∀ h' k, Keeps h h' → D k → ACalls Tryz.prog W ff ([.int .i64 k] ++ capF.toList) h' (fun r h'' => r = .bool (F k) ∧ Keeps h' h''))
    (hE : ∀ h' k, Keeps h h' → D k → ACalls Tryz.prog W fe ([.int .i64 k] ++ capE.toList) h' (fun r h'' => (∃ a c, r = .slice a (E k).length c ∧ OwnV h'.next h'' a c 3 ((E k).map arcV)) ∧ Keeps h' h'')) :
    ACalls Tryz.prog W 82 [.int .i64 k0, .func (.func ff) #[] capF, .func (.func fe) #[] capE, .int .i64 limit] h (fun r h' => ∃ vf va vs n, (rounds E k0 n).1.length = n ∧ r = .tuple #[.agg #[vf, va], .bool true] ∧
      FreshA W h.next h' ⟨(rounds E k0 n).1.map F, (rounds E k0 n).2⟩ vf va vs ∧ Keeps h h') := by
  refine ACalls_ofX hmix c82 (Nat.le_of_ble_eq_true rfl) ?_
  unfold r82
  dsimp only [Rc.t, Rc.u, Rc.v, Rc.o, Rc.i, Rc.p, Rc.q, Rc.s, Rc.b, Rc.k, Rc.g, Rc.S, Rc.D]
  simp only [envOf4]
  have hmu : mapUpdH (.sc .i) ((((h.new (.cells [.slice none 0 0, .slice none 0 0])).new (.cells [.slice none 0 0, .slice none 0 0])).new (.map []))) (.map (some (h.next + 2))) (.int .i64 k0) (.int .i64 0) =
      some ((((h.new (.cells [.slice none 0 0, .slice none 0 0])).new (.cells [.slice none 0 0, .slice none 0 0])).new (.map [])).put (h.next + 2) (.map (mapFrom numK 0 [k0]))) :=
    mapUpd_out keyedNum (ks := []) (by simp [AHeap.new_get, AHeap.new_next, mapFrom]) (by simp)
  obtain ⟨G0, hG0⟩ : ∃ G0, G0 = ((((h.new (.cells [.slice none 0 0, .slice none 0 0])).new (.cells [.slice none 0 0, .slice none 0 0])).new (.map [])).put (h.next + 2) (.map (mapFrom numK 0 [k0]))).new (.cells [.int .i64 k0]) := ⟨_, rfl⟩
  have hG0n : G0.next = h.next + 4 := by rw [hG0]; simp only [AHeap.new_next, AHeap.put_next]
  have hO0 : OutI W h G0 F 0 [k0] [] (some ⟨h.next + 3, 0, some 0⟩) 1 none 0 none 0 [] AHeap.empty := by
    have hk : Keeps h G0 := by
      rw [hG0]; exact (((((Keeps.refl h).new _).new _).new _).put (by omega) _).new _
    refine ⟨Nat.zero_le _, ?_, ?_, ?_, by omega, hk, .inr ⟨h.next + 3, rfl, rfl, Nat.le_refl _, ?_, ?_, by omega⟩, OwnV.nil _ _ _, OwnV.nil _ _ _, Apart.none_r _, Apart.none_r _, Apart.none_r _, rfl, rfl, ⟨Nat.zero_le _, fun i b hb => by cases hb⟩,
      (fun j x l hx => by simp at hx), fun j _ => rfl, fun x _ => rfl, fun x _ => rfl, fun x _ => rfl⟩
    · rw [hG0]; simp only [AHeap.new_get, AHeap.put_get, AHeap.new_next, AHeap.put_next, if_true]
      repeat' split
      all_goals first | rfl | (exfalso; omega)
    · rw [hG0]; simp only [AHeap.new_get, AHeap.put_get, AHeap.new_next, AHeap.put_next, if_true]
      repeat' split
      all_goals first | rfl | (exfalso; omega)
    · rw [hG0]; simp only [AHeap.new_get, AHeap.put_get, AHeap.new_next, AHeap.put_next, if_true]
      repeat' split
      all_goals first | rfl | (exfalso; omega)
    · rw [hG0]; simp only [AHeap.new_get, AHeap.put_get, AHeap.new_next, AHeap.put_next, if_true]
      repeat' split
      all_goals first | rfl | (exfalso; omega)
    · intro x hx; simp at hx; subst hx; rfl
  rw [hG0] at hO0
  repeat refine zs ?_
  refine WPX.loop hmix (fun k σ => ∃ i ks As ka kc fa fc oa oc vs g, k = limit.toNat + 1 - i ∧ Hid (rounds E k0 i = (ks, As)) ∧ eget σ.e 1 = .func (.func ff) #[] capF ∧ eget σ.e 2 = .func (.func fe) #[] capE ∧ eget σ.e 3 = .int .i64 limit ∧
    eget σ.e 8 = .pointer (some ⟨h.next, 0, some 0⟩) ∧ eget σ.e 10 = .pointer (some ⟨h.next + 1, 0, some 0⟩) ∧ eget σ.e 11 = .map (some (h.next + 2)) ∧ eget σ.e 12 = .slice ka (List.length ks) kc ∧ eget σ.e 13 = .int .i64 (i : Nat) ∧
    OutI W h σ.h F i ks As ka kc fa fc oa oc vs g) (limit.toNat + 1) ?h0 ?round
  case h0 => exact ⟨0, [k0], [], some ⟨h.next + 3, 0, some 0⟩, 1, none, 0, none, 0, [], AHeap.empty, rfl, rfl, zv, zv, zv, zv, zv, zv, (by simp only [rop, opd, celsL, oneV, aadd, binV, isSh, intBin, scEq, keq, unV, fillL, oP, oA, oS, wantedA, BX, BL, BS, seval, *, List.length_singleton]), zv, hO0⟩
  clear hmu hG0 hG0n hO0
  rintro k ⟨e, hh⟩ ⟨i, ks, As, ka, kc, fa, fc, oa, oc, vs, g, rfl, hR, e1, e2, e3, e8, e10, e11, e12, e13, hO⟩
  dsimp only at e1 e2 e3 e8 e10 e11 e12 e13 hO
  have hksl : (ks.length : Int) ≤ limit := by have := hlim i; rw [hR.out] at this; exact this
  by_cases hik : i < ks.length
  · have hikI : (i : Int) < ks.length := by omega
    obtain ⟨k, hk⟩ : ∃ k, ks[i]? = some k := ⟨_, List.getElem?_eq_getElem hik⟩
    have hDk : D k := by
      have := rounds_keys h0 hD i
      rw [hR.out] at this
      exact this k (List.mem_of_getElem? hk)
    have hkx : (ks.map numV)[i]? = some (numV k) := by simp [hk]
    obtain ⟨d, hd1, _, hd3⟩ := (hO.keys.sl (W := W)).at hkx
    rw [List.length_map] at hd1
    have hkl := (hd3 0 (.int .i64 k) rfl).1
    have hdd : aadd d 0 = d := rfl
    rw [hdd] at hkl
    have hEc := hE hh k hO.kp hDk
    clear hkx hd3
    repeat refine zs ?_
    refine ops_callC (cap := capE) zv (by simp only [List.map_cons, List.map_nil, rop, opd, celsL, oneV, aadd, binV, isSh, intBin, scEq, keq, unV, fillL, oP, oA, oS, wantedA, BX, BL, BS, seval, *]) hEc ?_
    rintro r1 H0 ⟨⟨ea, ec, rfl, hoe⟩, hk1⟩
    clear hEc hkl hd1
    have hO1 := hO.keeps hk1
    have hhn := hO.nx
    have hH0n := hO1.nx
    have hkp0 := hO1.kp
    have hkalt : ∀ y, ka = some y → h.next + 3 ≤ y.block ∧ y.block < hh.next := fun y hy => hO.keys.lt hy
    have hka : ∀ y, ka = some y → h.next + 3 ≤ y.block := fun y hy => (hkalt y hy).1
    obtain ⟨n, hn⟩ : ∃ n, n = (E k).length := ⟨_, rfl⟩
    rw [← hn]
    have hnl : n < 1048576 := by rw [hn]; exact hEl k hDk
    have hI0 : InnI h H0 H0 ka ks [] ka kc none 0 := ⟨KeepsBut.refl _ _, hO1.mp, hO1.keys, fun x hx => .inl ⟨x, hx, rfl⟩, OwnV.nil _ _ _, Apart.none_l _⟩
    replace hn : Hid (n = (E k).length) := hn
    repeat refine zs ?_
    refine WPX.loop hmix (fun m σ => ∃ j ks' L ka' kc' la lc, j ≤ n ∧ m = n - j ∧ Hid (expState ks ((E k).take j) = (ks', L)) ∧ eget σ.e 1 = .func (.func ff) #[] capF ∧ eget σ.e 2 = .func (.func fe) #[] capE ∧ eget σ.e 3 = .int .i64 limit ∧
      eget σ.e 8 = .pointer (some ⟨h.next, 0, some 0⟩) ∧ eget σ.e 10 = .pointer (some ⟨h.next + 1, 0, some 0⟩) ∧ eget σ.e 11 = .map (some (h.next + 2)) ∧ eget σ.e 12 = .slice ka' (List.length ks') kc' ∧ eget σ.e 13 = .int .i64 (i : Nat) ∧
      eget σ.e 14 = .slice la (List.length L) lc ∧ eget σ.e 36 = .slice ea n ec ∧ eget σ.e 37 = .int .i64 n ∧ eget σ.e 38 = .int .i64 (j : Nat) ∧ InnI h H0 σ.h ka ks' L ka' kc' la lc) n ?h1 ?round1
    case h1 => exact ⟨0, ks, [], ka, kc, none, 0, Nat.zero_le _, rfl, rfl, zv, zv, zv, zv, zv, zv, zv, zv, (by simp only [rop, opd, celsL, oneV, aadd, binV, isSh, intBin, scEq, keq, unV, fillL, oP, oA, oS, wantedA, BX, BL, BS, seval, *, List.length_nil]), zv, zv, zv, hI0⟩
    clear e1 e2 e3 e8 e10 e11 e12 e13 hI0
    rintro m ⟨e', h2⟩ ⟨j, ks', L, ka', kc', la, lc, hj, rfl, hX, q1, q2, q3, q8, q10, q11, q12, q13, q14, q36, q37, q38, hI⟩
    dsimp only at q1 q2 q3 q8 q10 q11 q12 q13 q14 q36 q37 q38 hI
    have hks'l : ks'.length ≤ ks.length + n := by
      have := (expFold_len ((E k).take j) (ks, [])).2
      have h2 : (List.foldl expEdge (ks, []) (List.take j (E k))).1 = ks' := by have := hX.out; unfold expState at this; rw [this]
      rw [h2] at this; simp at this; omega
    have hLl : L.length ≤ j := by
      have := (expFold_len ((E k).take j) (ks, [])).1
      have h2 : (List.foldl expEdge (ks, []) (List.take j (E k))).2 = L := by have := hX.out; unfold expState at this; rw [this]
      rw [h2] at this; simp at this; omega
    by_cases hjl : j < n
    · have hjlI : (j : Int) < n := by omega
      obtain ⟨⟨f, t, s⟩, hx⟩ : ∃ x, (E k)[j]? = some x := ⟨_, List.getElem?_eq_getElem (by rw [← hn.out]; exact hjl)⟩
      have hxl := List.mem_of_getElem? hx
      have hxr := hEr k hDk _ hxl
      simp only at hxr
      have hLr : InR L := by
        have := expFold_in (E := []) ((E k).take j) (ks, []) (fun y hy => hEr k hDk y (List.mem_of_mem_take hy)) (fun y hy => by simp at hy)
        have h2 : (List.foldl expEdge (ks, []) (List.take j (E k))).2 = L := by have := hX.out; unfold expState at this; rw [this]
        rw [h2] at this; exact this
      have hnx := expState_succ (ks := ks) hx
      rw [hX.out] at hnx
      have hoe2 : OwnV hh.next h2 ea ec 3 ((E k).map arcV) := hoe.but hI.but (fun y hy hm => by
        have hge := (hoe.lt hy).1
        rcases hm with hm | ⟨z, hz, hm⟩
        · omega
        · have := (hkalt z hz).2; omega)
      have hxj : ((E k).map arcV)[j]? = some (arcV (f, t, s)) := by simp [hx]
      obtain ⟨b, hb1, _, hb3⟩ := (hoe2.sl (W := W)).at hxj
      rw [List.length_map, ← hn.out] at hb1
      have hld := aloadN_of _ _ hb3
      simp only [arcV, List.length_cons, List.length_nil, Nat.reduceAdd] at hld
      have hw1 : IntKind.i64.wrap ((j : Int) + 1) = ((j + 1 : Nat) : Int) := wrap_i64 (by omega) (by omega)
      obtain ⟨H1, hH1⟩ : ∃ H1, H1 = (h2.new (.cells [.int .i32 0, .int .i32 0, .int .i64 0])).put h2.next (.cells [.int .i32 f, .int .i32 t, .int .i64 s]) := ⟨_, rfl⟩
      have hkk : Keeps h2 H1 := by rw [hH1]; exact ((Keeps.refl h2).new _).put (Nat.le_refl _) _
      have hn1 : H1.next = h2.next + 1 := by rw [hH1]; rfl
      have hg1 : H1.own.get h2.next = some (.cells [.int .i32 f, .int .i32 t, .int .i64 s]) := by rw [hH1, AHeap.put_get, if_pos rfl]
      have hI1 := hI.keeps hH0n hkk
      obtain ⟨q0, b0, hlk, hlk1, hlk2⟩ := lookNum hI1.mp s
      have hh2n := hI.nx hH0n
      clear hb3 hxj hx hxl
      rw [hH1] at hlk
      repeat refine zs ?_
      refine c_mid (fun σ => ∃ ks2 ka2 kc2, ∃ q : Nat, Hid (ks2 = (expEdge (ks', L) (f, t, s)).1 ∧ q = ks'.idxOf s) ∧ eget σ.e 1 = .func (.func ff) #[] capF ∧ eget σ.e 2 = .func (.func fe) #[] capE ∧ eget σ.e 3 = .int .i64 limit ∧
        eget σ.e 8 = .pointer (some ⟨h.next, 0, some 0⟩) ∧ eget σ.e 10 = .pointer (some ⟨h.next + 1, 0, some 0⟩) ∧ eget σ.e 11 = .map (some (h.next + 2)) ∧ eget σ.e 12 = .slice ka2 (List.length ks2) kc2 ∧ eget σ.e 13 = .int .i64 (i : Nat) ∧
        eget σ.e 14 = .slice la (List.length L) lc ∧ eget σ.e 16 = .pointer (some ⟨h2.next, 0, some 0⟩) ∧ eget σ.e 17 = .int .i64 (q : Nat) ∧ eget σ.e 36 = .slice ea n ec ∧ eget σ.e 37 = .int .i64 n ∧ eget σ.e 38 = .int .i64 (j : Nat) ∧
        σ.h.own.get h2.next = some (.cells [.int .i32 f, .int .i32 t, .int .i64 s]) ∧ h2.next < σ.h.next ∧ InnI h H0 σ.h ka ks2 L ka2 kc2 la lc) ?key ?rest
      case key =>
        cases b0 with
        | true =>
          obtain ⟨hm, rfl⟩ := hlk1 rfl
          have hee : Hid (ks' = (expEdge (ks', L) (f, t, s)).1 ∧ ks'.idxOf s = ks'.idxOf s) := ⟨by simp [expEdge, hm], rfl⟩
          rw [hH1] at hg1 hI1
          clear hlk hlk1 hlk2 hm hnx
          refine c_isF rfl ?_
          repeat refine zs ?_
          exact ⟨rfl, ks', ka', kc', _, hee, zv, zv, zv, zv, zv, zv, zv, zv, zv, zv, zv, zv, zv, zv, hg1, (by rw [← hH1, hn1]; omega), hI1⟩
        | false =>
          have hm := hlk2 rfl
          have hee : Hid (ks' ++ [s] = (expEdge (ks', L) (f, t, s)).1 ∧ ks'.length = ks'.idxOf s) := ⟨by simp [expEdge, hm], by rw [List.idxOf_eq_length hm]⟩
          have hmu := mapUpd_out keyedNum hI1.mp hm
          obtain ⟨a', c', h3, happ, hI3, hlt3, hsm3⟩ := hI1.addKey (W := W) hH0n hkp0 hka (s := s) (by omega)
          have hg3 : h3.own.get h2.next = some (.cells [.int .i32 f, .int .i32 t, .int .i64 s]) := by
            rw [hsm3 h2.next (by omega) (by omega) (fun y hy => by
              have := (hI.keys.lt hy).2; omega)]; exact hg1
          have hlt3' : h2.next < h3.next := by omega
          have hne2 : ¬ h2.next = h.next + 2 := by omega
          simp only [numK] at hmu
          rw [hn1] at happ
          rw [hH1] at happ hmu
          clear hlk hlk1 hlk2 hm hnx hsm3 hlt3
          refine c_isT rfl ?_
          repeat refine zs ?_
          exact ⟨rfl, ks' ++ [s], a', c', _, hee, zv, zv, zv, zv, zv, zv, zv, zv, zv, zv, zv, zv, zv, zv, hg3, hlt3', hI3⟩
      case rest =>
        rintro ⟨e3', h3⟩ ⟨ks2, ka2, kc2, q, hq, p1, p2, p3, p8, p10, p11, p12, p13, p14, p16, p17, p36, p37, p38, hg3, hlt3, hI3⟩
        dsimp only at p1 p2 p3 p8 p10 p11 p12 p13 p14 p16 p17 p36 p37 p38 hg3 hlt3 hI3
        clear q1 q2 q3 q8 q10 q11 q12 q13 q14 q36 q37 q38 hlk hlk1 hlk2 hI1 hg1 hld hb1
        have hX' : Hid (expState ks ((E k).take (j + 1)) = (ks2, addArc L (f, t, (q : Int)))) := by
          show _ = _
          rw [hnx, hq.out.1, hq.out.2]; rfl
        clear hnx hX hq hH1 hkk hn1
        refine t_normal ?_
        rcases last_or L with hnil | ⟨l0, f', t', s', hl0⟩
        · have hgt : ¬ (L.length : Int) > 0 := by rw [hnil]; simp
          obtain ⟨a', c', h4, happ, hI4⟩ := hI3.newArc (W := W) hH0n hkp0 hka (f, t, (q : Int)) (by omega)
          have hadd : addArc L (f, t, (q : Int)) = L ++ [(f, t, (q : Int))] := by rw [hnil]; rfl
          rw [hadd] at hX'
          simp only [arcV] at happ
          clear hnil hadd hLr
          repeat refine zs ?_
          exact ⟨n - (j + 1), by omega, j + 1, ks2, L ++ [(f, t, (q : Int))], ka2, kc2, a', c', by omega, rfl, hX', zv, zv, zv, zv, zv, zv, zv, zv, zv, zv, zv, zv, hI4⟩
        · have hgt : (L.length : Int) > 0 := by rw [hl0]; simp <;> omega
          have hI3' := hI3
          rw [hl0] at hI3'
          obtain ⟨b', C, rfl, rfl, hbn, hbl, hC, hC1, hC2, hble, C2, hsp, hI4⟩ := hI3'.join hH0n t
          obtain ⟨w, hw⟩ : ∃ w, w = l0.length := ⟨_, rfl⟩
          rw [← hw] at hC1 hC2 hble hsp
          have hLw : L.length = w + 1 := by rw [hl0, hw]; simp
          have hwm : IntKind.i64.wrap ((L.length : Int) - 1) = (w : Int) := (wrap_i64 (by omega) (by omega)).trans (by omega)
          have hidx : idxV 3 (.slice (some ⟨b', 0, some 0⟩) L.length 3) (.int .i64 w) = some (.pointer (some ⟨b', w * 3, some 0⟩)) := idx_own (by omega)
          have hlast := hLr (f', t', s') (by rw [hl0]; simp)
          simp only at hlast
          have hwt : IntKind.i32.wrap (t' + 1) = t' + 1 := wrap_i32 (by omega) (by omega)
          by_cases hjoin : t' + 1 = f ∧ s' = (q : Int)
          · have hadd : addArc L (f, t, (q : Int)) = l0 ++ [(f', t, s')] := by rw [hl0]; exact addArc_join hjoin.1 hjoin.2
            rw [hadd] at hX'
            obtain ⟨L', hLe⟩ : ∃ L', L' = l0 ++ [(f', t, s')] := ⟨_, rfl⟩
            have hlen : L'.length = L.length := by rw [hLe, hl0]; simp
            rw [← hLe] at hX' hI4
            have hj1 : decide (t' + 1 = f) = true := decide_eq_true hjoin.1
            have hj2 : decide (s' = (q : Int)) = true := decide_eq_true hjoin.2
            clear hjoin hadd hLe hLr hl0 hw hLw hI3'
            repeat refine zs ?_
            exact ⟨n - (j + 1), by omega, j + 1, ks2, L', ka2, kc2, _, _, by omega, rfl, hX', zv, zv, zv, zv, zv, zv, zv, zv, zv, zv, zv, zv, hI4⟩
          · have hadd : addArc L (f, t, (q : Int)) = L ++ [(f, t, (q : Int))] := by rw [hl0]; exact addArc_new hjoin
            rw [hadd] at hX'
            obtain ⟨a', c', h4, happ, hI5⟩ := hI3.newArc (W := W) hH0n hkp0 hka (f, t, (q : Int)) (by omega)
            simp only [arcV] at happ
            clear hadd hLr hl0 hw hLw hI3' hI4 hsp hble
            by_cases hj1 : t' + 1 = f
            · have hj1' : decide (t' + 1 = f) = true := decide_eq_true hj1
              have hj2 : ¬ s' = (q : Int) := fun e => hjoin ⟨hj1, e⟩
              clear hj1 hjoin
              repeat refine zs ?_
              exact ⟨n - (j + 1), by omega, j + 1, ks2, L ++ [(f, t, (q : Int))], ka2, kc2, a', c', by omega, rfl, hX', zv, zv, zv, zv, zv, zv, zv, zv, zv, zv, zv, zv, hI5⟩
            · clear hjoin
              repeat refine zs ?_
              exact ⟨n - (j + 1), by omega, j + 1, ks2, L ++ [(f, t, (q : Int))], ka2, kc2, a', c', by omega, rfl, hX', zv, zv, zv, zv, zv, zv, zv, zv, zv, zv, zv, zv, hI5⟩
    · have hjlI : ¬ (j : Int) < n := by omega
      have hX' : expState ks (E k) = (ks', L) := by
        have := hX.out
        rwa [List.take_of_length_le (by rw [← hn.out]; omega)] at this
      have hRk : (rounds E k0 i).1[i]? = some k := by rw [hR.out]; exact hk
      have hR' : Hid (rounds E k0 (i + 1) = (ks', As ++ [L])) := by
        show _ = _
        rw [rounds_succ hRk, hR.out]; simp only [hX']
      have hks'i : (ks'.length : Int) ≤ limit := by have := hlim (i + 1); rw [hR'.out] at this; exact this
      have hng : ¬ (ks'.length : Int) > limit := by omega
      obtain ⟨r, hr⟩ := expState_pre ks (E k)
      rw [hX'] at hr
      dsimp only at hr
      have hk' : ks'[i]? = some k := by rw [hr, List.getElem?_append_left hik]; exact hk
      have hpre : ks'.take i = ks.take i := by rw [hr, List.take_append_of_le_length (by omega)]
      have hkx : (ks'.map numV)[i]? = some (numV k) := by simp [hk']
      obtain ⟨d, hd1, _, hd3⟩ := (hI.keys.sl (W := W)).at hkx
      rw [List.length_map] at hd1
      have hkl := (hd3 0 (.int .i64 k) rfl).1
      have hdd : aadd d 0 = d := rfl
      rw [hdd] at hkl
      have hb102 := (hO1.next (W := W) hI (Keeps.refl h2) hk' hpre (by omega)).1
      have hFc := hF h2 k (hI.kp hkp0 hka) hDk
      have hw1 : IntKind.i64.wrap ((i : Int) + 1) = ((i + 1 : Nat) : Int) := wrap_i64 (by omega) (by omega)
      clear hkx hd3 hX' hr hX hjl
      repeat refine zs ?_
      refine x_draws (d_eff (by kernel_rfl) ?_)
      repeat refine zs ?_
      refine aop_callC (cap := capF) rfl zv (by simp only [List.map_cons, List.map_nil, rop, opd, celsL, oneV, aadd, binV, isSh, intBin, scEq, keq, unV, fillL, oP, oA, oS, wantedA, BX, BL, BS, seval, *]) hFc ?_
      rintro r2 h3 ⟨rfl, hk3⟩
      clear hFc hkl hd1
      obtain ⟨_, hb103, hlt3, fa', fc', h4, happF, hb104, hlt4, oa', oc', h6, happO, hb106, g', hON⟩ := hO1.next (W := W) hI hk3 hk' hpre (by omega)
      have hne3 : ¬ h.next + 1 = h3.next := by omega
      have hne4 : ¬ h.next + 1 = h4.next := by omega
      clear hb102 hI hk' hpre
      refine d_chk (by kernel_rfl) ?chk1 ?_
      case chk1 =>
        intro o ho
        simp only [List.mem_cons, List.not_mem_nil, or_false] at ho
        rcases ho with rfl | rfl <;> simp only [Chk, kindOf, dval, rop, opd, celsL, oneV, aadd, binV, isSh, intBin, scEq, keq, unV, fillL, oP, oA, oS, wantedA, BX, BL, BS, seval, *]
      refine aop_do zr ?_
      refine d_chk (by kernel_rfl) ?chk2 ?_
      case chk2 =>
        intro o ho
        simp only [List.mem_cons, List.not_mem_nil, or_false] at ho
        rcases ho with rfl | rfl <;> simp only [Chk, kindOf, dval, rop, opd, celsL, oneV, aadd, binV, isSh, intBin, scEq, keq, unV, fillL, oP, oA, oS, wantedA, BX, BL, BS, seval, *]
      refine aop_do zr ?_
      refine d_next (by kernel_rfl) (by kernel_rfl) ?_
      repeat refine zs ?_
      refine ⟨?chk3, ?_⟩
      case chk3 =>
        intro o ho
        rw [List.mem_singleton] at ho
        subst ho
        simp only [Chk, kindOf, dval, rop, opd, celsL, oneV, aadd, binV, isSh, intBin, scEq, keq, unV, fillL, oP, oA, oS, wantedA, BX, BL, BS, seval, *]
      show AOp _ _ _ _ _
      refine aop_do zr ?_
      refine d_end ?_
      repeat refine zs ?_
      exact ⟨limit.toNat + 1 - (i + 1), by omega, i + 1, ks', As ++ [L], ka', kc', fa', fc', oa', oc', vs ++ [.slice la L.length lc], g', rfl, hR', zv, zv, zv, zv, zv, zv, zv, zv, hON⟩
  · have hikI : ¬ (i : Int) < ks.length := by omega
    have hb8 := hO.b8
    have hb10 := hO.b10
    have hln := aload2 (W := W) hb10
    have hle := hO.le
    have hil : i = ks.length := by omega
    have hput : ∀ j, h.next + 3 ≤ j → j < hh.next → (hh.put h.next (.cells [.slice fa i fc, .slice oa i oc])).own.get j = hh.own.get j := fun j hj _ => by rw [AHeap.put_get, if_neg (by omega)]
    have hsubp : Mach.Sub g (hh.put h.next (.cells [.slice fa i fc, .slice oa i oc])) := hO.sub.put (hO.g0 _ (by omega)) _
    obtain ⟨g1, s1, s2, o1, n1, p1⟩ := (hO.fin.same hput (Nat.le_refl _)).freeze hsubp hO.gf
    obtain ⟨g2, s3, s4, o2, n2, p2⟩ := (hO.out.same hput (Nat.le_refl _)).freeze s1 (p1 _ hO.fo hO.go)
    have hfin := (o1.sub s4).sl (W := W)
    have hout := o2.sl (W := W)
    rw [List.length_map, List.length_take, Nat.min_eq_left hle] at hfin
    rw [List.length_map, hO.vl] at hout
    have hAV : FreshA W h.next (hh.put h.next (.cells [.slice fa i fc, .slice oa i oc])) ⟨(rounds E k0 i).1.map F, (rounds E k0 i).2⟩ (.slice fa i fc) (.slice oa i oc) vs := by
      refine ⟨g2, s3, fun j hj => n2 j (by omega) (n1 j (by omega) (hO.g0 j (by omega))), ?_⟩
      rw [hR.out]
      refine ⟨rfl, ?_, hout, hO.vl.trans hO.al.symm, fun j x l hx hl => ((hO.inner j x l hx hl).sub s2).sub s4⟩
      have e : (ks.take i).map (fun k => boolV (F k)) = (ks.map F).map fun b => [Value.bool b] := by
        rw [hil, List.take_length, List.map_map]; rfl
      rw [e] at hfin; exact hfin
    have hkp : Keeps h (hh.put h.next (.cells [.slice fa i fc, .slice oa i oc])) := hO.kp.put (Nat.le_refl _) _
    have hnn : (rounds E k0 i).1.length = i := by rw [hR.out]; exact hil.symm
    have hrs : aloadN W (hh.put h.next (.cells [.slice fa i fc, .slice oa i oc])) ⟨h.next, 0, some 0⟩ 2 = some [.slice fa i fc, .slice oa i oc] := aload2 (by rw [AHeap.put_get, if_pos rfl])
    replace hil : Hid (i = ks.length) := hil
    clear hfin hout hput hsubp s1 s2 s3 s4 n1 n2 p1 p2 o1 o2
    repeat refine zs ?_
    refine ⟨.inr rfl, [.agg #[.slice fa i fc, .slice oa i oc], .bool true], ?_, .slice fa i fc, .slice oa i oc, vs, i, hnn, rfl, hAV, hkp⟩
    simp only [resVals, rop, opd, celsL, oneV, aadd, binV, isSh, intBin, scEq, keq, unV, fillL, oP, oA, oS, wantedA, BX, BL, BS, seval, *]
end Go.Proofs.YtlipmjpapkfaeaaGreatDoor.Fn
end
