/- What an exploration answers: the automaton of its keys. Plain Lean. No condition.
Merged from 3 texts. -/
import Derived.Test.YtlipmjpapkfaeaaGreatDoorZD28
import Derived.Test.YtlipmjpapkfaeaaGreatDoorZD16
import Derived.Test.YtlipmjpapkfaeaaGreatDoorZD13
section
set_option linter.unusedSimpArgs false
set_option linter.unusedVariables false
namespace Go.Proofs.YtlipmjpapkfaeaaGreatDoor.Fn
open Go Go.Mach Go.RowKit Go.Proofs Go.Proofs.YtlipmjpapkfaeaaGreatDoor.Orc
theorem chk_of_srt {n : Nat} : ∀ {l : List Arc3} {p : Option Arc3}, Srt p l → (∀ q, p = some q → -1 ≤ q.2.1 ∧ q.2.1 ≤ 1114111) → (∀ x ∈ l, badArc n x = false) → chkFrom n p l = none
  | [], p, _, _, _ => rfl
  | x :: l, p, h, hp, hb => by
    have hx := hb x (by simp)
    unfold chkFrom
    rw [hx]
    simp only [Bool.false_eq_true, if_false]
    have hxr : 0 ≤ x.1 ∧ x.1 ≤ x.2.1 ∧ x.2.1 ≤ 1114111 := by simp [badArc] at hx; omega
    have hrec : chkFrom n (some x) l = none := chk_of_srt h.2.2 (fun q hq => by cases hq; omega) (fun y hy => hb y (by simp [hy]))
    cases p with
    | none => exact hrec
    | some q =>
      have h1 := h.2.1 q rfl
      have hw : IntKind.i32.wrap (q.2.1 + 1) = q.2.1 + 1 := wrap_i32 (by have := hp q rfl; omega) (by have := hp q rfl; omega)
      simp only
      rw [if_neg (by omega), hw, if_neg h1.2]
      exact hrec
theorem scanS_append : ∀ (l r : List Int) (m : Nat), scanS m (l ++ r) = (scanS m l).bind fun m' => scanS m' r
  | [], r, m => rfl
  | t :: l, r, m => by
    simp only [List.cons_append, scanS]
    split
    · exact scanS_append l r m
    · split
      · exact scanS_append l r (m + 1)
      · rfl
structure ExpI (ks0 : List Int) (l : List Arc3) (ks : List Int) (L : List Arc3) : Prop where
  scan : scanS ks0.length (L.map (·.2.2)) = some ks.length
  rng : ∀ y ∈ L, 0 ≤ y.2.2 ∧ y.2.2 < ks.length
  inr : InR L
theorem exp_scan : ∀ (l : List Arc3) (ks0 ks : List Int) (L : List Arc3), InR l → ExpI ks0 [] ks L → ExpI ks0 [] (l.foldl expEdge (ks, L)).1 (l.foldl expEdge (ks, L)).2
  | [], ks0, ks, L, _, h => h
  | e :: l, ks0, ks, L, hr, h => by
    refine exp_scan l ks0 _ _ (fun y hy => hr y (by simp [hy])) ?_
    have he := hr e (by simp)
    have hin := addArc_in h.inr (x := (e.1, e.2.1, ((ks.idxOf e.2.2 : Nat) : Int))) he
    by_cases hk : e.2.2 ∈ ks
    · have hq : ks.idxOf e.2.2 < ks.length := List.idxOf_lt_length_of_mem hk
      show ExpI ks0 [] (if e.2.2 ∈ ks then ks else ks ++ [e.2.2]) (addArc L (e.1, e.2.1, ((ks.idxOf e.2.2 : Nat) : Int)))
      rw [if_pos hk]
      refine ⟨?_, fun y hy => ?_, hin⟩
      · rcases last_or L with rfl | ⟨l0, f, t, s, rfl⟩
        · have := h.scan
          simp only [List.map_nil, scanS, Option.some.injEq] at this
          rw [addArc_nil]
          simp only [List.map_cons, List.map_nil, scanS]
          rw [this, if_pos (by omega)]
        · by_cases hj : t + 1 = e.1 ∧ s = ((ks.idxOf e.2.2 : Nat) : Int)
          · rw [addArc_join (x := (e.1, e.2.1, ((ks.idxOf e.2.2 : Nat) : Int))) hj.1 hj.2]
            have := h.scan
            simpa using this
          · rw [addArc_new (by exact hj), List.map_append, scanS_append, h.scan]
            simp only [List.map_cons, List.map_nil, scanS, Option.bind_some]
            rw [if_pos (by omega)]
      · rcases addArc_mem hy with ⟨z, hz, e1⟩ | e1
        · rw [e1]; exact h.rng z hz
        · rw [e1]; simp only; omega
    · have hq : ks.idxOf e.2.2 = ks.length := List.idxOf_eq_length hk
      have hadd : addArc L (e.1, e.2.1, ((ks.idxOf e.2.2 : Nat) : Int)) = L ++ [(e.1, e.2.1, ((ks.idxOf e.2.2 : Nat) : Int))] := by
        rcases last_or L with rfl | ⟨l0, f, t, s, rfl⟩
        · rfl
        · refine addArc_new fun hj => ?_
          have := h.rng (f, t, s) (by simp)
          simp only at this hj; omega
      show ExpI ks0 [] (if e.2.2 ∈ ks then ks else ks ++ [e.2.2]) (addArc L (e.1, e.2.1, ((ks.idxOf e.2.2 : Nat) : Int)))
      rw [if_neg hk]
      refine ⟨?_, fun y hy => ?_, hin⟩
      · rw [hadd, List.map_append, scanS_append, h.scan]
        simp only [List.map_cons, List.map_nil, scanS, Option.bind_some, List.length_append, List.length_singleton, hq]
        rw [if_neg (by omega), if_pos trivial]
      · rcases addArc_mem hy with ⟨z, hz, e1⟩ | e1
        · rw [e1]; have := h.rng z hz; simp; omega
        · rw [e1]; simp [hq]; omega
def AscA : Option Arc3 → List Arc3 → Prop
  | _, [] => True
  | p, x :: l => x.1 ≤ x.2.1 ∧ (∀ q, p = some q → q.2.1 < x.1) ∧ AscA (some x) l
theorem ascA_low {l : List Arc3} {p : Arc3} {c : Int} (h : AscA (some p) l) (hc : c ≤ p.2.1) : findA l c = none := by
  induction l generalizing p with
  | nil => rfl
  | cons x l ih =>
    obtain ⟨h1, h2, h3⟩ := h
    have := h2 p rfl
    rw [findA_cons, if_neg (by rw [hitA_iff]; omega)]
    exact ih h3 (by omega)
theorem Srt.asc : ∀ {l : List Arc3} {p : Option Arc3}, Srt p l → AscA p l
  | [], _, _ => trivial
  | x :: l, p, h => ⟨h.1, fun q hq => (h.2.1 q hq).1, h.2.2.asc⟩
theorem exp_find (KS : List Int) : ∀ (l : List Arc3) (ks : List Int) (L : List Arc3) (p : Option Arc3) (b : Int), AscA p l → (∀ q, p = some q → q.2.1 = b) → (p = none → ∀ x ∈ l, b < x.1) → Good L b →
    (∃ r, KS = (l.foldl expEdge (ks, L)).1 ++ r) → ∃ b', Good (l.foldl expEdge (ks, L)).2 b' ∧ ∀ c, findA (l.foldl expEdge (ks, L)).2 c = match findA l c with
      | some k => some ((KS.idxOf k : Nat) : Int)
      | none => findA L c
  | [], ks, L, p, b, _, _, _, h, _ => ⟨b, h, fun c => rfl⟩
  | x :: l, ks, L, p, b, hs, hp, hp0, h, hKS => by
    have hbx : b < x.1 := by
      cases p with
      | none => exact hp0 rfl x (by simp)
      | some q => have := hs.2.1 q rfl; have := hp q rfl; omega
    obtain ⟨a1, a2⟩ := h.add (x := (x.1, x.2.1, ((ks.idxOf x.2.2 : Nat) : Int))) hbx hs.1
    have hix : KS.idxOf x.2.2 = ks.idxOf x.2.2 := by
      obtain ⟨r, hr⟩ := hKS
      obtain ⟨r2, hr2⟩ := expFold_pre l (expEdge (ks, L) x)
      rw [List.foldl_cons] at hr
      rw [hr, hr2]
      have hmem : x.2.2 ∈ (expEdge (ks, L) x).1 := by unfold expEdge; simp only; split <;> simp_all
      rw [List.append_assoc, List.idxOf_append, if_pos hmem]
      unfold expEdge
      simp only
      split
      · rfl
      · rename_i hn
        rw [List.idxOf_append, if_neg hn, List.idxOf_eq_length hn]; simp
    obtain ⟨b', g1, g2⟩ := exp_find KS l (expEdge (ks, L) x).1 (expEdge (ks, L) x).2 (some x) x.2.1 hs.2.2 (fun q hq => by cases hq; rfl) (fun hh => by cases hh) a1 hKS
    refine ⟨b', g1, fun c => ?_⟩
    show findA (l.foldl expEdge (expEdge (ks, L) x)).2 c = _
    rw [g2 c, findA_cons]
    by_cases hh : hitA c x = true
    · have hh' := (hitA_iff c x).1 hh
      rw [if_pos hh, ascA_low hs.2.2 hh'.2]
      show findA (addArc L (x.1, x.2.1, ((ks.idxOf x.2.2 : Nat) : Int))) c = _
      rw [a2 c, if_pos hh']; simp only [hix]
    · rw [if_neg hh]
      cases hf : findA l c with
      | some k => rfl
      | none =>
        show findA (addArc L (x.1, x.2.1, ((ks.idxOf x.2.2 : Nat) : Int))) c = _
        rw [a2 c, if_neg (fun h' => hh ((hitA_iff c x).2 h'))]
theorem expFold_mem : ∀ (l : List Arc3) (st : List Int × List Arc3), ∀ x ∈ l, x.2.2 ∈ (l.foldl expEdge st).1
  | [], st, x, h => by simp at h
  | e :: l, st, x, h => by
    rcases List.mem_cons.1 h with rfl | h
    · obtain ⟨r, hr⟩ := expFold_pre l (expEdge st x)
      rw [List.foldl_cons, hr]
      refine List.mem_append_left _ ?_
      unfold expEdge; simp only; split <;> simp_all
    · exact expFold_mem l (expEdge st e) x h
section
variable {E : Int → List Arc3} {F : Int → Bool} {D : Int → Prop} {k0 : Int} {N : Nat}
theorem rounds_stop {i : Nat} (h : (rounds E k0 i).1.length ≤ i) : ∀ j, rounds E k0 (i + j) = rounds E k0 i
  | 0 => rfl
  | j + 1 => by
    have ih := rounds_stop h j
    have hn : (rounds E k0 (i + j)).1[i + j]? = none := by rw [ih]; exact List.getElem?_eq_none (by omega)
    show rounds E k0 (i + j + 1) = _
    conv => lhs; unfold rounds
    rw [hn]; exact ih
theorem rounds_lt (hN : (rounds E k0 N).1.length = N) {i : Nat} (hi : i < N) : i < (rounds E k0 i).1.length := by
  rcases Nat.lt_or_ge i (rounds E k0 i).1.length with h | h
  · exact h
  · have := rounds_stop h (N - i)
    rw [show i + (N - i) = N by omega] at this
    rw [this] at hN; omega
theorem rounds_prefix (i : Nat) : ∀ j, ∃ r, (rounds E k0 (i + j)).1 = (rounds E k0 i).1 ++ r
  | 0 => ⟨[], by simp⟩
  | j + 1 => by
    obtain ⟨r, hr⟩ := rounds_prefix i j
    obtain ⟨r2, hr2⟩ := rounds_pre E k0 (i + j)
    exact ⟨r ++ r2, by rw [show i + (j + 1) = i + j + 1 by omega, hr2, hr, List.append_assoc]⟩
theorem rounds_arcs (hN : (rounds E k0 N).1.length = N) : ∀ i, i ≤ N → (rounds E k0 i).2.length = i
  | 0, _ => rfl
  | i + 1, h => by
    have hlt := rounds_lt hN (i := i) (by omega)
    rw [rounds_succ (List.getElem?_eq_getElem hlt)]
    simp only [List.length_append, List.length_singleton, rounds_arcs hN i (by omega)]
theorem rounds_arc (hN : (rounds E k0 N).1.length = N) {i : Nat} (hi : i < N) : ∃ k, (rounds E k0 N).1[i]? = some k ∧ (rounds E k0 i).1[i]? = some k ∧ (rounds E k0 N).2[i]? = some (expState (rounds E k0 i).1 (E k)).2 ∧ (rounds E k0 (i + 1)).1 = (expState (rounds E k0 i).1 (E k)).1 := by
  have hlt := rounds_lt hN hi
  obtain ⟨k, hk⟩ : ∃ k, (rounds E k0 i).1[i]? = some k := ⟨_, List.getElem?_eq_getElem hlt⟩
  have hs := rounds_succ hk
  have grow : ∀ j, i + 1 + j ≤ N → (rounds E k0 (i + 1 + j)).2[i]? = some (expState (rounds E k0 i).1 (E k)).2 := by
    intro j
    induction j with
    | zero =>
      intro _
      rw [show i + 1 + 0 = i + 1 by omega, hs]
      simp only
      rw [List.getElem?_append_right (by rw [rounds_arcs hN i (by omega)]; omega), rounds_arcs hN i (by omega)]
      simp
    | succ j ih =>
      intro hj
      have hlt2 := rounds_lt hN (i := i + 1 + j) (by omega)
      rw [show i + 1 + (j + 1) = i + 1 + j + 1 by omega, rounds_succ (List.getElem?_eq_getElem hlt2)]
      simp only
      rw [List.getElem?_append_left (by rw [rounds_arcs hN _ (by omega)]; omega)]
      exact ih (by omega)
  obtain ⟨r, hr⟩ := rounds_prefix (E := E) (k0 := k0) i (N - i)
  rw [show i + (N - i) = N by omega] at hr
  refine ⟨k, by rw [hr, List.getElem?_append_left hlt]; exact hk, hk, ?_, by rw [hs]⟩
  have := grow (N - (i + 1)) (by omega)
  rwa [show i + 1 + (N - (i + 1)) = N by omega] at this
def keyA (E : Int → List Arc3) (F : Int → Bool) (k0 : Int) (N : Nat) : Aut := ⟨(rounds E k0 N).1.map F, (rounds E k0 N).2⟩
structure Keyed2 (E : Int → List Arc3) (F : Int → Bool) (D : Int → Prop) (k0 : Int) (N : Nat) : Prop where
  d0 : D k0
  dE : ∀ k, D k → ∀ x ∈ E k, D x.2.2
  srt : ∀ k, D k → AscA none (E k) ∧ InR (E k)
  fin : (rounds E k0 N).1.length = N
theorem Keyed2.pos (K : Keyed2 E F D k0 N) : 0 < N := by have := rounds_pos E k0 N; rw [K.fin] at this; omega
theorem Keyed2.first (K : Keyed2 E F D k0 N) : (rounds E k0 N).1[0]? = some k0 := by
  obtain ⟨r, hr⟩ := rounds_prefix (E := E) (k0 := k0) 0 N
  rw [Nat.zero_add] at hr; rw [hr]; rfl
theorem Keyed2.arc (K : Keyed2 E F D k0 N) {i : Nat} (hi : i < N) : ∃ k l, (rounds E k0 N).1[i]? = some k ∧ D k ∧ (keyA E F k0 N).arcs[i]? = some l ∧ chkFrom N none l = none ∧
    (∀ c, findA l c = (findA (E k) c).map fun k' => (((rounds E k0 N).1.idxOf k' : Nat) : Int)) ∧ (∀ x ∈ E k, x.2.2 ∈ (rounds E k0 N).1) ∧ i < (rounds E k0 i).1.length ∧ scanS (rounds E k0 i).1.length (l.map (·.2.2)) = some (rounds E k0 (i + 1)).1.length := by
  obtain ⟨k, h1, h2, h3, h4⟩ := rounds_arc K.fin hi
  have hD := rounds_keys K.d0 K.dE N k (List.mem_of_getElem? h1)
  obtain ⟨s1, s2⟩ := K.srt k hD
  obtain ⟨r, hr⟩ := rounds_prefix (E := E) (k0 := k0) (i + 1) (N - (i + 1))
  rw [show i + 1 + (N - (i + 1)) = N by omega, h4] at hr
  obtain ⟨b', g1, g2⟩ := exp_find (rounds E k0 N).1 (E k) (rounds E k0 i).1 [] none (-1) s1 (fun q hq => by cases hq) (fun _ x hx => by have := s2 x hx; omega) ⟨trivial, fun y hy => by simp at hy⟩ ⟨r, hr⟩
  have hI := exp_scan (E k) (rounds E k0 i).1 (rounds E k0 i).1 [] s2 ⟨rfl, fun y hy => by simp at hy, fun y hy => by simp at hy⟩
  have hle : (expState (rounds E k0 i).1 (E k)).1.length ≤ N := by
    have := congrArg List.length hr
    rw [K.fin, List.length_append] at this; omega
  refine ⟨k, _, h1, hD, h3, ?_, fun c => ?_, fun x hx => ?_, rounds_lt K.fin hi, ?_⟩
  · refine chk_of_srt g1.1 (fun q hq => by cases hq) (fun y hy => ?_)
    have a := hI.rng y hy
    have b := hI.inr y hy
    have c : (List.foldl expEdge ((rounds E k0 i).fst, []) (E k)).1.length ≤ N := hle
    simp [badArc]; omega
  · show findA (List.foldl expEdge ((rounds E k0 i).fst, []) (E k)).2 c = _
    rw [g2 c]
    cases findA (E k) c <;> rfl
  · rw [hr]; exact List.mem_append_left _ (expFold_mem (E k) _ x hx)
  · rw [h4]; exact hI.scan
theorem Keyed2.wf (K : Keyed2 E F D k0 N) : Wf (keyA E F k0 N) := by
  have hl : (keyA E F k0 N).fin.length = N := by show ((rounds E k0 N).1.map F).length = N; rw [List.length_map, K.fin]
  have ha : (keyA E F k0 N).arcs.length = N := rounds_arcs K.fin N (Nat.le_refl _)
  refine ⟨ha.trans hl.symm, fun l hm => ?_⟩
  obtain ⟨i, hi⟩ := List.mem_iff_getElem?.1 hm
  have hlt : i < N := by rw [← ha]; exact (List.getElem?_eq_some_iff.1 hi).1
  obtain ⟨k, l', _, _, h3, h4, _⟩ := K.arc hlt
  rw [hi] at h3
  cases h3
  rw [hl]; exact h4
end
end Go.Proofs.YtlipmjpapkfaeaaGreatDoor.Fn
end
section
set_option linter.unusedSimpArgs false
set_option linter.unusedVariables false
namespace Go.Proofs.YtlipmjpapkfaeaaGreatDoor.Fn
open Go Go.Mach Go.RowKit Go.Proofs Go.Proofs.YtlipmjpapkfaeaaGreatDoor.Orc
theorem getElem?_idxOf {l : List Int} {k : Int} (h : k ∈ l) : l[l.idxOf k]? = some k := by
  have := List.idxOf_lt_length_of_mem h
  rw [List.getElem?_eq_getElem this, List.getElem_idxOf]
section
variable {E : Int → List Arc3} {F : Int → Bool} {D : Int → Prop} {k0 : Int} {N : Nat}
theorem Keyed2.nextQ (K : Keyed2 E F D k0 N) {i : Nat} {k : Int} (hi : (rounds E k0 N).1[i]? = some k) (c : Int) :
    (findA (E k) c = none ∧ nextQ (keyA E F k0 N) i c = -1) ∨ ∃ k' j, findA (E k) c = some k' ∧ (rounds E k0 N).1[j]? = some k' ∧ Fn.nextQ (keyA E F k0 N) i c = (j : Nat) := by
  have hlt : i < N := by rw [← K.fin]; exact (List.getElem?_eq_some_iff.1 hi).1
  obtain ⟨k2, l, h1, h2, h3, h4, h5, h6, _⟩ := K.arc hlt
  rw [hi] at h1; cases h1
  rw [nextQ_arcs h3, h5]
  cases hf : findA (E k) c with
  | none => exact .inl ⟨rfl, rfl⟩
  | some k' =>
    obtain ⟨x, hx, rfl⟩ := findA_mem hf
    exact .inr ⟨x.2.2, _, rfl, getElem?_idxOf (h6 x hx), rfl⟩
theorem Keyed2.accNil (K : Keyed2 E F D k0 N) {i : Nat} {k : Int} (hi : (rounds E k0 N).1[i]? = some k) : acc (keyA E F k0 N) i [] = F k := by
  rw [acc_nil]
  show ((rounds E k0 N).1.map F).getD i false = F k
  simp [List.getD, hi]
end
theorem edgesA_keyed {A : Aut} (w : Wf A) (h0 : 0 < A.fin.length) {N : Nat} (hN : (rounds (edgesA A) 0 N).1.length = N) : Keyed2 (edgesA A) (finA A) (fun k => 0 ≤ k ∧ k < A.fin.length) 0 N := by
  refine ⟨⟨by omega, by omega⟩, fun k hk x hx => ?_, fun k hk => ?_, hN⟩
  · have hm := List.mem_of_getElem? (edgesA_mem w.len hk)
    exact (w.range hm hx).2
  · have := arcs_in w (q := k.toNat) (by omega)
    exact ⟨this.1.asc, this.2⟩
theorem reach_acc {A : Aut} (w : Wf A) (h0 : 0 < A.fin.length) {N : Nat} (hN : (rounds (edgesA A) 0 N).1.length = N) : ∀ (cs : List Int) (i : Nat) (k : Int), (rounds (edgesA A) 0 N).1[i]? = some k → acc (reachA A N) i cs = acc A k cs
  | [], i, k, hi => by
    have K := edgesA_keyed w h0 hN
    have hk := rounds_keys K.d0 K.dE N k (List.mem_of_getElem? hi)
    have e := K.accNil hi
    show acc (keyA (edgesA A) (finA A) 0 N) i [] = _
    rw [e]
    have := acc_nil A k.toNat
    rw [Int.toNat_of_nonneg hk.1] at this
    rw [this]; rfl
  | c :: cs, i, k, hi => by
    have K := edgesA_keyed w h0 hN
    have hk := rounds_keys K.d0 K.dE N k (List.mem_of_getElem? hi)
    have hA : nextQ A k c = (findA (edgesA A k) c).getD (-1) := by
      have := nextQ_arcs (edgesA_mem w.len hk) c
      rwa [Int.toNat_of_nonneg hk.1] at this
    rw [acc_cons, acc_cons]
    show acc (keyA (edgesA A) (finA A) 0 N) (nextQ (keyA (edgesA A) (finA A) 0 N) i c) cs = _
    rcases K.nextQ hi c with ⟨h1, h2⟩ | ⟨k', j, h1, h2, h3⟩
    · rw [h2, hA, h1]
      rw [acc_dead _ cs (by decide)]; exact (acc_dead A cs (by decide)).symm
    · rw [h3, hA, h1]
      exact reach_acc w h0 hN cs j k' h2
theorem reach_wf {A : Aut} (w : Wf A) (h0 : 0 < A.fin.length) {N : Nat} (hN : (rounds (edgesA A) 0 N).1.length = N) : Wf (reachA A N) ∧ (reachA A N).fin.length = N ∧ 0 < N ∧ N ≤ A.fin.length ∧ ∀ cs, acc (reachA A N) 0 cs = acc A 0 cs := by
  have K := edgesA_keyed w h0 hN
  refine ⟨K.wf, by show ((rounds (edgesA A) 0 N).1.map (finA A)).length = N; rw [List.length_map, hN], K.pos, ?_, fun cs => reach_acc w h0 hN cs 0 0 K.first⟩
  have := keys_bound (n := A.fin.length) (rounds_nodup (edgesA A) 0 N) (rounds_keys K.d0 K.dE N)
  omega
def minD (x : Aut) (cl : List Int) (k : Int) : Prop := 0 ≤ k ∧ ∃ q : Nat, q < x.fin.length ∧ cl.getD q (-1) = k
def minF (x : Aut) (rep : Int → Nat) (k : Int) : Bool := x.fin.getD (rep k) false
structure MinG (x : Aut) (cl : List Int) (rep : Int → Nat) (E : Int → List Arc3) : Prop where
  w : Wf x
  c : Cls x cl
  rp : ∀ k : Int, minD x cl k → rep k < x.fin.length ∧ cl.getD (rep k) (-1) = k
  srt : ∀ k : Int, minD x cl k → AscA none (E k) ∧ InR (E k)
  fnd : ∀ k : Int, minD x cl k → ∀ c, findA (E k) c = clsAt cl (findA (x.arcs.getD (rep k) []) c)
  tgt : ∀ k : Int, minD x cl k → ∀ y ∈ E k, minD x cl y.2.2
section
variable {x : Aut} {cl : List Int} {rep : Int → Nat} {E : Int → List Arc3}
theorem minG_keyed (I : MinG x cl rep E) (h0 : 0 < x.fin.length) (hk : 0 ≤ cl.getD 0 (-1)) {N : Nat} (hN : (rounds E (cl.getD 0 (-1)) N).1.length = N) : Keyed2 E (minF x rep) (minD x cl) (cl.getD 0 (-1)) N :=
  ⟨⟨hk, 0, h0, rfl⟩, I.tgt, I.srt, hN⟩
theorem live_of (I : Cls x cl) {q : Nat} (hq : q < x.fin.length) (h : 0 ≤ cl.getD q (-1)) : Live x q :=
  Classical.byContradiction fun hn => by have := (I.dead q hq).2 hn; omega
theorem minG_acc (I : MinG x cl rep E) (h0 : 0 < x.fin.length) (hk : 0 ≤ cl.getD 0 (-1)) {N : Nat} (hN : (rounds E (cl.getD 0 (-1)) N).1.length = N) :
    ∀ (cs : List Int) (i : Nat) (k : Int), (rounds E (cl.getD 0 (-1)) N).1[i]? = some k → acc (keyA E (minF x rep) (cl.getD 0 (-1)) N) i cs = acc x (rep k) cs
  | [], i, k, hi => by rw [(minG_keyed I h0 hk hN).accNil hi, acc_nil]; rfl
  | c :: cs, i, k, hi => by
    have K := minG_keyed I h0 hk hN
    have hD := rounds_keys K.d0 K.dE N k (List.mem_of_getElem? hi)
    obtain ⟨r1, r2⟩ := I.rp k hD
    have hf : findA (E k) c = clsAt cl (findA (x.arcs.getD (rep k) []) c) := I.fnd k hD c
    rw [acc_cons, acc_step I.w r1]
    rcases K.nextQ hi c with ⟨h1, h2⟩ | ⟨k', j, h1, h2, h3⟩
    · rw [h2, acc_dead _ cs (by decide)]
      rw [hf] at h1
      cases hx : findA (x.arcs.getD (rep k) []) c with
      | none => rfl
      | some t =>
        rw [hx] at h1
        simp only [clsAt] at h1
        have ht := target_in I.w r1 hx
        by_cases hd : cl.getD t.toNat (-1) < 0
        · simp only
          have := (I.c.dead t.toNat (by omega)).1 hd
          rw [Int.toNat_of_nonneg ht.1] at this
          cases hh : acc x t cs with
          | false => rfl
          | true => exact absurd ⟨cs, hh⟩ this
        · rw [if_neg hd] at h1; cases h1
    · rw [h3, minG_acc I h0 hk hN cs j k' h2]
      rw [hf] at h1
      cases hx : findA (x.arcs.getD (rep k) []) c with
      | none => rw [hx] at h1; cases h1
      | some t =>
        rw [hx] at h1
        simp only [clsAt] at h1
        have ht := target_in I.w r1 hx
        by_cases hd : cl.getD t.toNat (-1) < 0
        · rw [if_pos hd] at h1; cases h1
        · rw [if_neg hd] at h1
          have hk' := Option.some.inj h1
          have hD' := rounds_keys K.d0 K.dE N k' (List.mem_of_getElem? h2)
          obtain ⟨s1, s2⟩ := I.rp k' hD'
          have := (I.c.same (rep k') t.toNat s1 (by omega) (live_of I.c s1 (by rw [s2]; exact hD'.1)) (live_of I.c (by omega) (by omega))).1 (by rw [s2, hk']) cs
          rw [Int.toNat_of_nonneg ht.1] at this
          exact this
theorem minG_canon (I : MinG x cl rep E) (h0 : 0 < x.fin.length) (hk : 0 ≤ cl.getD 0 (-1)) {N : Nat} (hN : (rounds E (cl.getD 0 (-1)) N).1.length = N) :
    Canon (keyA E (minF x rep) (cl.getD 0 (-1)) N) ∧ ∀ cs, acc (keyA E (minF x rep) (cl.getD 0 (-1)) N) 0 cs = acc x 0 cs := by
  have K := minG_keyed I h0 hk hN
  have ha := minG_acc I h0 hk hN
  have hl : (keyA E (minF x rep) (cl.getD 0 (-1)) N).fin.length = N := by
    show ((rounds E (cl.getD 0 (-1)) N).1.map (minF x rep)).length = N; rw [List.length_map, hN]
  have hla : (keyA E (minF x rep) (cl.getD 0 (-1)) N).arcs.length = N := rounds_arcs K.fin N (Nat.le_refl _)
  have wf := K.wf
  have key : ∀ i, i < N → ∃ k, (rounds E (cl.getD 0 (-1)) N).1[i]? = some k ∧ rep k < x.fin.length ∧ cl.getD (rep k) (-1) = k ∧ Live x (rep k) := fun i hi => by
    obtain ⟨k, _, h1, h2, _⟩ := K.arc hi
    obtain ⟨r1, r2⟩ := I.rp k h2
    exact ⟨k, h1, r1, r2, live_of I.c r1 (by rw [r2]; exact h2.1)⟩
  refine ⟨⟨wf.len, wf.srt, fun l hm y hy => ?_, fun j k hjk hkN => ?_, ⟨fun i => (rounds E (cl.getD 0 (-1)) i).1.length, by simp [rounds], fun i l hi => ?_, ?_⟩⟩, fun cs => ?_⟩
  · have hr := (wf.range hm hy).2
    rw [hl] at hr
    obtain ⟨k, h1, r1, r2, cs, hcs⟩ := key y.2.2.toNat (by omega)
    refine ⟨cs, ?_⟩
    have := ha cs _ k h1
    rw [Int.toNat_of_nonneg hr.1] at this
    rw [this]; exact hcs
  · rw [hl] at hkN
    obtain ⟨a, a1, a2, a3, a4⟩ := key j (by omega)
    obtain ⟨b, b1, b2, b3, b4⟩ := key k hkN
    refine Classical.byContradiction fun hn => ?_
    have hall : ∀ cs, acc x (rep a) cs = acc x (rep b) cs := fun cs => by
      rw [← ha cs j a a1, ← ha cs k b b1]
      exact Classical.byContradiction fun h => hn ⟨cs, h⟩
    have hab := (I.c.same _ _ a2 b2 a4 b4).2 hall
    rw [a3, b3] at hab
    subst hab
    have hnd := rounds_nodup E (cl.getD 0 (-1)) N
    have := (List.getElem_inj hnd).1 ((List.getElem?_eq_some_iff.1 a1).2.trans (List.getElem?_eq_some_iff.1 b1).2.symm)
    omega
  · have hlt : i < N := by rw [← hla]; exact (List.getElem?_eq_some_iff.1 hi).1
    obtain ⟨k, l', _, _, h3, _, _, _, h7, h8⟩ := K.arc hlt
    rw [hi] at h3; cases h3
    exact ⟨h7, h8⟩
  · rw [hl]; exact hN
  · have := ha cs 0 _ K.first
    have hD := K.d0
    obtain ⟨r1, r2⟩ := I.rp _ hD
    have hs := (I.c.same _ 0 r1 h0 (live_of I.c r1 (by rw [r2]; exact hD.1)) (live_of I.c h0 hk)).1 r2 cs
    exact this.trans hs
end
structure MinI (x : Aut) (cl : List Int) (rep : Int → Nat) : Prop where
  w : Wf x
  c : Cls x cl
  rep : ∀ k : Int, 0 ≤ k → (∃ q : Nat, q < x.fin.length ∧ cl.getD q (-1) = k) → rep k < x.fin.length ∧ cl.getD (rep k) (-1) = k
section
variable {x : Aut} {cl : List Int} {rep : Int → Nat}
def minE (x : Aut) (cl : List Int) (rep : Int → Nat) (k : Int) : List Arc3 := edgC x cl (rep k)
theorem MinI.toG (I : MinI x cl rep) : MinG x cl rep (minE x cl rep) := by
  refine ⟨I.w, I.c, fun k hk => I.rep k hk.1 hk.2, fun k hk => ?_, fun k hk c => ?_, fun k hk y hy => ?_⟩
  · obtain ⟨r1, r2⟩ := I.rep k hk.1 hk.2
    exact ⟨(edgC_find I.w cl r1).1.asc, byClassM_in (arcs_in I.w r1).2⟩
  · obtain ⟨r1, r2⟩ := I.rep k hk.1 hk.2
    exact (edgC_find I.w cl r1).2 c
  · obtain ⟨r1, r2⟩ := I.rep k hk.1 hk.2
    obtain ⟨h1, z, hz, e⟩ := byClass_keys cl _ y hy
    have hzr := (I.w.range (List.mem_of_getElem? (getD_arcs I.w r1)) hz).2
    exact ⟨h1, z.2.2.toNat, by omega, e.symm⟩
theorem min_keyed (I : MinI x cl rep) (h0 : 0 < x.fin.length) (hk : 0 ≤ cl.getD 0 (-1)) {N : Nat} (hN : (rounds (minE x cl rep) (cl.getD 0 (-1)) N).1.length = N) : Keyed2 (minE x cl rep) (minF x rep) (minD x cl) (cl.getD 0 (-1)) N :=
  minG_keyed I.toG h0 hk hN
theorem min_canon (I : MinI x cl rep) (h0 : 0 < x.fin.length) (hk : 0 ≤ cl.getD 0 (-1)) {N : Nat} (hN : (rounds (minE x cl rep) (cl.getD 0 (-1)) N).1.length = N) :
    Canon (keyA (minE x cl rep) (minF x rep) (cl.getD 0 (-1)) N) ∧ ∀ cs, acc (keyA (minE x cl rep) (minF x rep) (cl.getD 0 (-1)) N) 0 cs = acc x 0 cs :=
  minG_canon I.toG h0 hk hN
end
def noneA : Aut := ⟨[false], [[]]⟩
theorem none_canon {x : Aut} (hd : ¬ Live x 0) : Canon noneA ∧ ∀ cs, acc noneA 0 cs = acc x 0 cs := by
  refine ⟨⟨rfl, fun l hl => by simp [noneA] at hl; subst hl; rfl, fun l hl y hy => by simp [noneA] at hl; subst hl; simp at hy, fun j k h1 h2 => by simp [noneA] at h2; omega, ⟨fun i => 1, rfl, fun i l hi => ?_, rfl⟩⟩, fun cs => ?_⟩
  · have hi0 : i = 0 := by have := (List.getElem?_eq_some_iff.1 hi).1; simp [noneA] at this; exact this
    subst hi0
    simp [noneA] at hi
    subst hi
    exact ⟨Nat.lt_succ_self 0, rfl⟩
  · have e1 : acc noneA 0 cs = false := by
      cases cs with
      | nil => rfl
      | cons c cs =>
        have hq : nextQ noneA 0 c = -1 := rfl
        rw [acc_cons, hq]; exact acc_dead _ cs (by decide)
    have e2 : acc x 0 cs = false := by
      cases hh : acc x 0 cs with
      | false => rfl
      | true => exact absurd ⟨cs, hh⟩ hd
    rw [e1, e2]
end Go.Proofs.YtlipmjpapkfaeaaGreatDoor.Fn
end
section
set_option linter.unusedSimpArgs false
set_option linter.unusedVariables false
set_option maxRecDepth 100000
namespace Go.Proofs.YtlipmjpapkfaeaaGreatDoor.Fn
open Go Go.Mach Go.RowKit Go.Proofs
attribute [local irreducible] AOps WPX DOps thenS blockS AOp GOps CPick
theorem envOf0 : envOf 0 [] .lf = .lf := rfl
theorem f47_ok (W : World) (h : AHeap) : ACalls Tryz.prog W 47 [] h (fun r h' => (∃ vf va vs, r = .agg #[vf, va] ∧ AutoV W h' r noneA vf va vs) ∧ Keeps h h') := by
  refine ACalls_ofX hmix c47 (Nat.le_of_ble_eq_true rfl) ?_
  unfold r47
  dsimp only [Rc.t, Rc.u, Rc.v, Rc.o, Rc.i, Rc.p, Rc.q, Rc.s, Rc.b, Rc.k, Rc.g, Rc.S, Rc.D]
  simp only [envOf0]
  obtain ⟨G, hG⟩ : ∃ G, G = (((h.new (.cells [.slice none 0 0, .slice none 0 0])).new (.cells [.bool false])).new (.cells [.slice none 0 0])).put h.next (.cells [.slice (some ⟨h.next + 1, 0, some 0⟩) 1 1, .slice (some ⟨h.next + 2, 0, some 0⟩) 1 1]) := ⟨_, rfl⟩
  have hk : Keeps h G := by rw [hG]; exact ((((Keeps.refl h).new _).new _).new _).put (Nat.le_refl _) _
  have hGn : G.next = h.next + 3 := by rw [hG]; rfl
  have o1 : Ow G (h.next + 1) 1 (noneA.fin.map fun b => [.bool b]) := ⟨by rw [hG, AHeap.put_get, if_neg (by omega), AHeap.new_get, AHeap.new_next, AHeap.new_next, if_neg (by omega), AHeap.new_get, AHeap.new_next, if_pos rfl]; rfl, fun e he => by simp [noneA] at he; subst he; rfl, by omega⟩
  have o2 : Ow G (h.next + 2) 1 (([.slice none 0 0] : List Value).map fun x => [x]) := ⟨by rw [hG, AHeap.put_get, if_neg (by omega), AHeap.new_get, AHeap.new_next, AHeap.new_next, if_pos rfl]; rfl, fun e he => by simp at he; subst he; rfl, by omega⟩
  have hA : AutoV W G (.agg #[.slice (some ⟨h.next + 1, 0, some 0⟩) 1 1, .slice (some ⟨h.next + 2, 0, some 0⟩) 1 1]) noneA (.slice (some ⟨h.next + 1, 0, some 0⟩) 1 1) (.slice (some ⟨h.next + 2, 0, some 0⟩) 1 1) [.slice none 0 0] :=
    ⟨rfl, o1.sl, o2.sl, rfl, fun i x l hx hl => by
      have hi0 : i = 0 := by have := (List.getElem?_eq_some_iff.1 hx).1; simp at this; exact this
      subst hi0
      simp [noneA] at hx hl
      subst hx hl
      exact ⟨none, 0, rfl, (fun b hb => by cases hb), fun _ => ⟨rfl, rfl⟩⟩⟩
  have hld : aloadN W G ⟨h.next, 0, some 0⟩ 2 = some [.slice (some ⟨h.next + 1, 0, some 0⟩) 1 1, .slice (some ⟨h.next + 2, 0, some 0⟩) 1 1] := aload2 (by rw [hG, AHeap.put_get, if_pos rfl])
  rw [hG] at hA hld hk
  have e1 : ¬ h.next = h.next + 1 := by omega
  have e2 : ¬ h.next = h.next + 1 + 1 := by omega
  have e3 : ¬ h.next = h.next + 2 := by omega
  clear hG hGn o1 o2
  repeat refine zs ?_
  refine ⟨.inr rfl, [.agg #[.slice (some ⟨h.next + 1, 0, some 0⟩) 1 1, .slice (some ⟨h.next + 2, 0, some 0⟩) 1 1]], ?_, ⟨_, _, _, rfl, hA⟩, hk⟩
  simp only [resVals, rop, opd, celsL, oneV, aadd, binV, isSh, intBin, scEq, keq, unV, fillL, oP, oA, oS, wantedA, BX, BL, BS, seval, *]
def pairV (p : Int × Int) : List Value := [.int .i64 p.1, .int .i64 p.2]
def VP (A B : Aut) (p : Int × Int) : Prop := (-1 ≤ p.1 ∧ p.1 < A.fin.length) ∧ (-1 ≤ p.2 ∧ p.2 < B.fin.length)
def stepP (A B : Aut) (p : Int × Int) (c : Int) : Int × Int := (nextQ A p.1 c, nextQ B p.2 c)
def finP (A B : Aut) (op : Int) (p : Int × Int) : Bool := decideZ (acceptsQ A p.1) (acceptsQ B p.2) op
theorem nextQ_range {A : Aut} (w : Wf A) {q : Int} (hq : q < A.fin.length) (c : Int) : -1 ≤ nextQ A q c ∧ nextQ A q c < A.fin.length := by
  unfold nextQ
  split
  · omega
  · have hl := getD_arcs w (q := q.toNat) (by omega)
    have := nextA_range (w.srt _ (List.mem_of_getElem? hl)) c
    omega
theorem VP.step {A B : Aut} (wA : Wf A) (wB : Wf B) {p : Int × Int} (h : VP A B p) (c : Int) : VP A B (stepP A B p c) := ⟨nextQ_range wA h.1.2 c, nextQ_range wB h.2.2 c⟩
theorem pairs_bound {A B : Aut} {ks : List (Int × Int)} (h : ks.Nodup) (hr : ∀ p ∈ ks, VP A B p) : ks.length ≤ (A.fin.length + 1) * (B.fin.length + 1) := by
  have hn := keys_bound (n := (A.fin.length + 1) * (B.fin.length + 1)) (ks := ks.map fun p => (p.1 + 1) * (B.fin.length + 1 : Nat) + (p.2 + 1)) ?_ ?_
  · rwa [List.length_map] at hn
  · refine List.Pairwise.map _ (S := fun a b => a ≠ b) ?_ (List.Pairwise.imp_of_mem (S := fun (p q : Int × Int) => p ≠ q ∧ VP A B p ∧ VP A B q) (fun ha hb hab => ⟨hab, hr _ ha, hr _ hb⟩) h)
    intro p q ⟨hne, hp, hq⟩ e
    apply hne
    obtain ⟨p1, p2⟩ := p
    obtain ⟨q1, q2⟩ := q
    unfold VP at hp hq
    simp only at hp hq e
    have h1 : p1 = q1 := by
      rcases Int.lt_trichotomy p1 q1 with hlt | he | hlt
      · exfalso
        have : (p1 + 1 + 1) * (B.fin.length + 1 : Nat) ≤ (q1 + 1) * (B.fin.length + 1 : Nat) := Int.mul_le_mul_of_nonneg_right (by omega) (by omega)
        rw [Int.add_mul (p1 + 1) 1] at this
        omega
      · exact he
      · exfalso
        have : (q1 + 1 + 1) * (B.fin.length + 1 : Nat) ≤ (p1 + 1) * (B.fin.length + 1 : Nat) := Int.mul_le_mul_of_nonneg_right (by omega) (by omega)
        rw [Int.add_mul (q1 + 1) 1] at this
        omega
    subst h1
    have h2 : p2 = q2 := by omega
    rw [h2]
  · intro k hk
    obtain ⟨p, hp, rfl⟩ := List.mem_map.1 hk
    have hv := hr p hp
    unfold VP at hv
    have h1 : (0 : Int) ≤ (p.1 + 1) * (B.fin.length + 1 : Nat) := Int.mul_nonneg (by omega) (by omega)
    have h2 : (p.1 + 1) * (B.fin.length + 1 : Nat) ≤ (A.fin.length : Int) * (B.fin.length + 1 : Nat) := Int.mul_le_mul_of_nonneg_right (by omega) (by omega)
    have h3 : (((A.fin.length + 1) * (B.fin.length + 1) : Nat) : Int) = (A.fin.length : Int) * (B.fin.length + 1 : Nat) + (B.fin.length + 1 : Nat) := by
      rw [Nat.succ_mul]; push_cast; rfl
    rw [h3]
    omega
structure PairT (A B : Aut) (ps : List Int) (ks : List (Int × Int)) (rows : List (List Int)) (i : Nat) : Prop where
  k0 : ks[0]? = some (0, 0)
  nd : ks.Nodup
  vp : ∀ p ∈ ks, VP A B p
  rl : rows.length = i
  ok : ∀ (j : Nat) p row, ks[j]? = some p → rows[j]? = some row → row.length = ps.length ∧ ∀ (q : Nat) c k, ps[q]? = some c → row[q]? = some k → 0 ≤ k ∧ ks[k.toNat]? = some (stepP A B p c)
theorem getElem?_pre {α : Type} {l r : List α} {i : Nat} {x : α} (h : l[i]? = some x) : (l ++ r)[i]? = some x := by
  rw [List.getElem?_append_left (List.getElem?_eq_some_iff.1 h).1]; exact h
theorem PairT.grow {A B : Aut} {ps : List Int} {ks : List (Int × Int)} {rows : List (List Int)} {i : Nat} (t : PairT A B ps ks rows i) (hi : i ≤ ks.length) {p : Int × Int} (hp : p ∉ ks) (hv : VP A B p) : PairT A B ps (ks ++ [p]) rows i :=
  ⟨getElem?_pre t.k0, List.nodup_append.2 ⟨t.nd, by simp, fun a ha b hb e => by simp at hb; subst hb; subst e; exact hp ha⟩, fun q hq => by
    rcases List.mem_append.1 hq with hq | hq
    · exact t.vp q hq
    · simp at hq; subst hq; exact hv, t.rl, fun j p' row hj hrow => by
    have hlt := (List.getElem?_eq_some_iff.1 hrow).1
    rw [t.rl] at hlt
    rw [List.getElem?_append_left (by omega)] at hj
    obtain ⟨h1, h2⟩ := t.ok j p' row hj hrow
    exact ⟨h1, fun q c k hc hk => ⟨(h2 q c k hc hk).1, getElem?_pre (h2 q c k hc hk).2⟩⟩⟩
theorem PairT.row {A B : Aut} {ps : List Int} {ks : List (Int × Int)} {rows : List (List Int)} {i : Nat} (t : PairT A B ps ks rows i) {p : Int × Int} (hp : ks[i]? = some p) {row : List Int} (hl : row.length = ps.length)
    (hr : ∀ (q : Nat) c k, ps[q]? = some c → row[q]? = some k → 0 ≤ k ∧ ks[k.toNat]? = some (stepP A B p c)) : PairT A B ps ks (rows ++ [row]) (i + 1) :=
  ⟨t.k0, t.nd, t.vp, by simp [t.rl], fun j p' row' hj hrow => by
    by_cases hji : j < i
    · rw [List.getElem?_append_left (by rw [t.rl]; exact hji)] at hrow
      exact t.ok j p' row' hj hrow
    · have hlt := (List.getElem?_eq_some_iff.1 hrow).1
      simp [t.rl] at hlt
      obtain rfl : j = i := by omega
      rw [hp] at hj; cases hj
      rw [List.getElem?_append_right (by rw [t.rl]; omega), t.rl] at hrow
      simp at hrow; subst hrow
      exact ⟨hl, hr⟩⟩
end Go.Proofs.YtlipmjpapkfaeaaGreatDoor.Fn
end
