/- The abstract machine, part 15: the plan of a region that draws its order is sound. No condition. -/
import Derived.Test.YtlipmjpapkfaeaaGreatDoorM14
set_option linter.unusedSimpArgs false
set_option linter.unusedVariables false
namespace Go.Mach
open Go Go.RowKit

theorem preds_closed (S : Nat → Prop) (full : List Oper) (hS : ∀ (i : Nat) o, full[i]? = some o → S i → ∀ j ∈ directsO o, S j) : ∀ (os : List Oper) (acc : List (List Nat)), (∃ pre, full = pre ++ os ∧ pre.length = acc.length) →
    (∀ (i : Nat) o, i < acc.length → full[i]? = some o → (∀ j ∈ directsO o, S j) → ∀ j ∈ acc.getD i [], S j) →
    ∀ (i : Nat) o, full[i]? = some o → (∀ j ∈ directsO o, S j) → ∀ j ∈ (predsL os acc).getD i [], S j
  | [], acc, ⟨pre, hp, hl⟩, ha, i, o, hi, hd, j, hj => by
    simp only [predsL] at hj
    refine ha i o ?_ hi hd j hj
    rcases Nat.lt_or_ge i full.length with h | h
    · rw [hp] at h; simp at h; omega
    · rw [List.getElem?_eq_none h] at hi; cases hi
  | o :: os, acc, ⟨pre, hp, hl⟩, ha, i, o', hi, hd, j, hj => by
    unfold predsL at hj
    refine preds_closed S full hS os _ ⟨pre ++ [o], by rw [hp]; simp, by simp [hl]⟩ ?_ i o' hi hd j hj
    intro i2 o2 hi2 ho2 hd2 j2 hj2
    simp only [List.length_append, List.length_singleton] at hi2
    by_cases hlt : i2 < acc.length
    · have : (acc ++ [(directsO o ++ (directsO o).flatMap fun j => acc.getD j []).eraseDups]).getD i2 [] = acc.getD i2 [] := by
        simp [List.getD_eq_getElem?_getD, List.getElem?_append, hlt]
      rw [this] at hj2
      exact ha i2 o2 hlt ho2 hd2 j2 hj2
    · have he : i2 = acc.length := by omega
      subst he
      have ho : o2 = o := by
        rw [hp, ← hl] at ho2
        simp at ho2
        exact ho2.symm
      subst ho
      have : (acc ++ [(directsO o2 ++ (directsO o2).flatMap fun j => acc.getD j []).eraseDups]).getD acc.length [] = (directsO o2 ++ (directsO o2).flatMap fun j => acc.getD j []).eraseDups := by
        simp [List.getD_eq_getElem?_getD]
      rw [this, List.mem_eraseDups, List.mem_append, List.mem_flatMap] at hj2
      rcases hj2 with h | ⟨k, hk, hjk⟩
      · exact hd2 j2 h
      · by_cases hka : k < acc.length
        · have hkf : k < full.length := by rw [hp]; simp; omega
          exact ha k full[k] hka (by simp [hkf]) (hS k full[k] (by simp [hkf]) (hd2 k hk)) j2 hjk
        · rw [List.getD_eq_getElem?_getD, List.getElem?_eq_none (by omega)] at hjk
          simp at hjk

section
variable {P : Program} {W : World} {n : Nat}

theorem compOpers_spec {ops : Array Oper} : ∀ {l : List Oper} {rs : List ROper}, compOpers P n ops l = some rs → rs.length = l.length ∧ ∀ (i : Nat) o, l[i]? = some o → ∃ r, rs[i]? = some r ∧ compOper P n ops o = some r
  | [], rs, h => by simp [compOpers] at h; subst h; exact ⟨rfl, fun i o hi => by simp at hi⟩
  | o :: l, rs, h => by
    unfold compOpers at h
    cases h1 : compOper P n ops o with
    | none => simp [h1] at h
    | some r =>
      cases h2 : compOpers P n ops l with
      | none => simp [h1, h2] at h
      | some rs' =>
        simp [h1, h2] at h; subst h
        obtain ⟨e1, e2⟩ := compOpers_spec h2
        refine ⟨by simp [e1], fun i o' hi => ?_⟩
        cases i with
        | zero => simp at hi; subst hi; exact ⟨r, rfl, h1⟩
        | succ i => simpa using e2 i o' (by simpa using hi)

theorem mem_mkIds {e : Env} {ros : List ROper} : ∀ {L : List Nat} {j : Nat} {r : ROper}, j ∈ L → ros[j]? = some r → wantedA e r.guard = true → (kindOf r.op).any (fun k => k != 0) = true →
    ownId (dval e r) ∈ mkIds e (L.filterMap (ros[·]?))
  | [], j, r, h, _, _, _ => by simp at h
  | i :: L, j, r, h, hr, hw, hk => by
    simp only [List.filterMap_cons]
    rcases List.mem_cons.1 h with rfl | h'
    · rw [hr]; simp [mkIds, hw, hk]
    · have := mem_mkIds h' hr hw hk
      cases hi : ros[i]? with
      | none => simpa using this
      | some r' =>
        simp only [mkIds]
        rw [Bool.cond_eq_ite]
        split
        · exact List.mem_cons.2 (.inr this)
        · exact this

theorem mkIds_apart {e : Env} {ros : List ROper} : ∀ {L : List Nat}, L.Nodup → (mkIds e (L.filterMap (ros[·]?))).Nodup → ∀ {i j : Nat} {r q : ROper}, i ∈ L → j ∈ L → i ≠ j → ros[i]? = some r → ros[j]? = some q →
    wantedA e r.guard = true → (kindOf r.op).any (fun k => k != 0) = true → wantedA e q.guard = true → (kindOf q.op).any (fun k => k != 0) = true → ownId (dval e r) ≠ ownId (dval e q)
  | [], _, _, i, j, r, q, hi, _, _, _, _, _, _, _, _ => by simp at hi
  | a :: L, hL, hN, i, j, r, q, hi, hj, hij, hr, hq, hw, hk, hw', hk' => by
    rw [List.nodup_cons] at hL
    have hN' : (mkIds e (L.filterMap (ros[·]?))).Nodup := by
      simp only [List.filterMap_cons] at hN
      cases ha : ros[a]? with
      | none => simpa [ha] using hN
      | some r' =>
        simp only [ha, mkIds] at hN
        rw [Bool.cond_eq_ite] at hN
        split at hN
        · exact (List.nodup_cons.1 hN).2
        · exact hN
    rcases List.mem_cons.1 hi with rfl | hi'
    · rcases List.mem_cons.1 hj with rfl | hj'
      · exact absurd rfl hij
      · simp only [List.filterMap_cons, hr, mkIds, hw, hk, Bool.and_self, cond_true] at hN
        have := (List.nodup_cons.1 hN).1
        intro he
        exact this (he ▸ mem_mkIds hj' hq hw' hk')
    · rcases List.mem_cons.1 hj with rfl | hj'
      · simp only [List.filterMap_cons, hq, mkIds, hw', hk', Bool.and_self, cond_true] at hN
        have := (List.nodup_cons.1 hN).1
        intro he
        exact this (he ▸ mem_mkIds hi' hr hw hk)
      · exact mkIds_apart hL.2 hN' hi' hj' hij hr hq hw hk hw' hk'

theorem nodup_sub_len : ∀ {l m : List Nat}, l.Nodup → l ⊆ m → l.length ≤ m.length
  | [], m, _, _ => by simp
  | a :: l, m, hn, hs => by
    rw [List.nodup_cons] at hn
    have ha : a ∈ m := hs (by simp)
    have hl : l ⊆ m.erase a := by
      intro x hx
      have hne : x ≠ a := by rintro rfl; exact hn.1 hx
      exact (List.mem_erase_of_ne hne).2 (hs (by simp [hx]))
    have := nodup_sub_len hn.2 hl
    rw [List.length_erase_of_mem ha] at this
    have hpos : 0 < m.length := List.length_pos_of_mem ha
    simp only [List.length_cons]; omega

theorem countP_lt {p p' : Nat → Bool} : ∀ (l : List Nat), (∀ x ∈ l, p' x = true → p x = true) → (∃ x ∈ l, p x = true ∧ p' x = false) → l.countP p' < l.countP p
  | [], _, ⟨x, hx, _⟩ => by simp at hx
  | a :: l, hsub, ⟨x, hx, h1, h2⟩ => by
    simp only [List.countP_cons]
    have hle : l.countP p' ≤ l.countP p := List.countP_mono_left (fun x hx h => hsub x (by simp [hx]) h)
    rcases List.mem_cons.1 hx with rfl | hx'
    · simp [h1, h2]; omega
    · have := countP_lt l (fun x hx h => hsub x (by simp [hx]) h) ⟨x, hx', h1, h2⟩
      have ha := hsub a (by simp)
      by_cases hpa : p' a = true
      · simp [hpa, ha hpa]; omega
      · simp [hpa]; omega

/-- What the plan of a region is made of, and what its check gives. -/
structure PlanOk (P : Program) (n : Nat) (ops : Array Oper) (ros : List ROper) (ne eff : List Nat) (pr : List (List Nat)) : Prop where
  comp : compOpers P n ops ops.toList = some ros
  prd : pr = predsL ops.toList []
  cover : ∀ i, i < ops.size → (i ∈ ne ∧ i ∉ eff) ∨ (i ∈ eff ∧ i ∉ ne)
  effLt : ∀ i ∈ eff, i < ops.size
  neLt : ∀ i ∈ ne, i < ops.size
  effNd : eff.Nodup
  neNd : ne.Nodup
  chain : chainOk pr eff = true
  back : ∀ (i : Nat) o, ops[i]? = some o → ∀ j ∈ directsO o, j < i
  looks : ∀ (j : Nat) o, ops[j]? = some o → ∀ t ∈ looksR ros j o.op, ∀ i ∈ ne, ∀ r, ros[i]? = some r → r.dst = some t → i ∈ pr.getD j []
  dsts : ∀ i j r q, i < ops.size → j < ops.size → ros[i]? = some r → ros[j]? = some q → i ≠ j → ∀ d, r.dst = some d → q.dst ≠ some d
  neDst : ∀ i ∈ ne, ∀ r, ros[i]? = some r → ∃ d, r.dst = some d
  neKind : ∀ i ∈ ne, ∀ r, ros[i]? = some r → ∃ q, kindOf r.op = some q
  news : ∀ k e, eff[k]? = some e → ∀ j ∈ planChk pr ne eff (k + 1), j ∈ planChk pr ne eff k ∨ e ∈ pr.getD j []

theorem chain_pred {pr : List (List Nat)} : ∀ {eff : List Nat}, chainOk pr eff = true → ∀ (k : Nat) a b, eff[k]? = some a → eff[k + 1]? = some b → a ∈ pr.getD b []
  | [], _, k, a, b, h, _ => by simp at h
  | [x], _, k, a, b, _, h => by simp at h
  | x :: y :: l, h, k, a, b, ha, hb => by
    simp only [chainOk, Bool.and_eq_true, List.contains_iff_mem] at h
    cases k with
    | zero => simp at ha hb; subst ha; subst hb; exact h.1
    | succ k => exact chain_pred h.2 k a b (by simpa using ha) (by simpa using hb)

/-- The state of the real run in the middle of the region. -/
structure DInv (W : World) (n : Nat) (N0 : Nat) (ops : Array Oper) (ros : List ROper) (ne eff : List Nat) (pr : List (List Nat)) (listed : Array Bool) (k : Nat) (σ : St) (μ : PMap) (a : Act) (w : World) : Prop where
  lsz : listed.size = ops.size
  closed : ∀ (i : Nat) o, ops[i]? = some o → listed.getD i false = true → ∀ j ∈ directsO o, listed.getD j false = true
  effs : ∀ (m : Nat) e, eff[m]? = some e → (listed.getD e false = true ↔ m < k)
  hk : k ≤ eff.length
  hr : HR W μ σ.h w
  er : ∀ t, (∀ i ∈ ne, ∀ r, ros[i]? = some r → r.dst = some t → listed.getD i false = true) → VR μ (eget σ.e t) (a.tmps.getD t undef)
  chk : ∀ j ∈ planChk pr ne eff k, ∀ r, ros[j]? = some r → Chk W σ r
  nodup : (mkIds σ.e ((planChk pr ne eff k).filterMap (ros[·]?))).Nodup
  pend : ∀ j ∈ planChk pr ne eff k, ∀ r, ros[j]? = some r → listed.getD j false = false → wantedA σ.e r.guard = true → (kindOf r.op).any (fun k => k != 0) = true → μ (ownId (dval σ.e r)) = none
  low : ∀ j ∈ planChk pr ne eff k, ∀ r, ros[j]? = some r → wantedA σ.e r.guard = true → (kindOf r.op).any (fun k => k != 0) = true → N0 ≤ ownId (dval σ.e r)
  nlow : N0 ≤ σ.h.next
  asz : a.tmps.size = n
  nd : a.defers = []

/-- What is still to come, from the end of stage k on. -/
def DRest (P : Program) (W : World) (ros : List ROper) (ne eff : List Nat) (pr : List (List Nat)) (K : St → Prop) (k : Nat) : List Nat → St → Prop
  | [], σ => K σ
  | e :: es, σ => match ros[e]? with
    | some o => AOp P W o (DOps P W (stagesOf ros eff (planChk pr ne eff) (k + 1) es) K) σ
    | none => K σ

theorem stagesOf_news {ros : List ROper} {eff : List Nat} {chk : Nat → List Nat} {k : Nat} {es : List Nat} : ∃ s ss, stagesOf ros eff chk k es = s :: ss ∧ s.chk = (chk k).filterMap (ros[·]?) ∧
    s.ops = ((chk k).filter fun j => match k with | 0 => true | k' + 1 => !(chk k').contains j).filterMap (ros[·]?) ∧
    ((es = [] ∧ s.eff = none) ∨ ∃ e es', es = e :: es' ∧ s.eff = ros[e]? ∧ ss = stagesOf ros eff chk (k + 1) es') := by
  cases es with
  | nil => exact ⟨_, _, rfl, rfl, rfl, .inl ⟨rfl, rfl⟩⟩
  | cons e es => exact ⟨_, _, rfl, rfl, rfl, .inr ⟨e, es, rfl, rfl, rfl⟩⟩

end
end Go.Mach
