/- The abstract machine, part 15: the plan of a region that draws its order is sound. No condition.
Merged from 3 texts. -/
import Derived.Test.YtlipmjpapkfaeaaGreatDoorZD5
section
set_option linter.unusedSimpArgs false
set_option linter.unusedVariables false
namespace Go.Mach
open Go Go.RowKit
theorem preds_closed (S : Nat → Prop) (full : List Oper) (hS : ∀ (i : Nat) o, full[i]? = some o → S i → ∀ j ∈ directsO o, S j) : ∀ (os : List Oper) (acc : List (List Nat)), (∃ pre, full = pre ++ os ∧ pre.length = acc.length) →
    (∀ (i : Nat) o, i < acc.length → full[i]? = some o → (∀ j ∈ directsO o, S j) → ∀ j ∈ acc.getD i [], S j) →
    ∀ (i : Nat) o, full[i]? = some o → (∀ j ∈ directsO o, S j) → ∀ j ∈ (predsL os acc).getD i [], S j
  | [], acc, ⟨pre, hp, hl⟩, ha, i, o, hi, hd, j, hj => by
    simp only [predsL] at hj
    refine ha i o ?_ hi hd j hj
    rcases Nat.lt_or_ge i full.length with h | h
    · rw [hp] at h; simp at h; omega
    · rw [List.getElem?_eq_none h] at hi; cases hi
  | o :: os, acc, ⟨pre, hp, hl⟩, ha, i, o', hi, hd, j, hj => by
    unfold predsL at hj
    refine preds_closed S full hS os _ ⟨pre ++ [o], by rw [hp]; simp, by simp [hl]⟩ ?_ i o' hi hd j hj
    intro i2 o2 hi2 ho2 hd2 j2 hj2
    simp only [List.length_append, List.length_singleton] at hi2
    by_cases hlt : i2 < acc.length
    · have : (acc ++ [(directsO o ++ (directsO o).flatMap fun j => acc.getD j []).eraseDups]).getD i2 [] = acc.getD i2 [] := by
        simp [List.getD_eq_getElem?_getD, List.getElem?_append, hlt]
      rw [this] at hj2
      exact ha i2 o2 hlt ho2 hd2 j2 hj2
    · have he : i2 = acc.length := by omega
      subst he
      have ho : o2 = o := by
        rw [hp, ← hl] at ho2
        simp at ho2
        exact ho2.symm
      subst ho
      have : (acc ++ [(directsO o2 ++ (directsO o2).flatMap fun j => acc.getD j []).eraseDups]).getD acc.length [] = (directsO o2 ++ (directsO o2).flatMap fun j => acc.getD j []).eraseDups := by
        simp [List.getD_eq_getElem?_getD]
      rw [this, List.mem_eraseDups, List.mem_append, List.mem_flatMap] at hj2
      rcases hj2 with h | ⟨k, hk, hjk⟩
      · exact hd2 j2 h
      · by_cases hka : k < acc.length
        · have hkf : k < full.length := by rw [hp]; simp; omega
          exact ha k full[k] hka (by simp [hkf]) (hS k full[k] (by simp [hkf]) (hd2 k hk)) j2 hjk
        · rw [List.getD_eq_getElem?_getD, List.getElem?_eq_none (by omega)] at hjk
          simp at hjk
section
variable {P : Program} {W : World} {n : Nat}
theorem compOpers_spec {ops : Array Oper} : ∀ {l : List Oper} {rs : List ROper}, compOpers P n ops l = some rs → rs.length = l.length ∧ ∀ (i : Nat) o, l[i]? = some o → ∃ r, rs[i]? = some r ∧ compOper P n ops o = some r
  | [], rs, h => by simp [compOpers] at h; subst h; exact ⟨rfl, fun i o hi => by simp at hi⟩
  | o :: l, rs, h => by
    unfold compOpers at h
    cases h1 : compOper P n ops o with
    | none => simp [h1] at h
    | some r =>
      cases h2 : compOpers P n ops l with
      | none => simp [h1, h2] at h
      | some rs' =>
        simp [h1, h2] at h; subst h
        obtain ⟨e1, e2⟩ := compOpers_spec h2
        refine ⟨by simp [e1], fun i o' hi => ?_⟩
        cases i with
        | zero => simp at hi; subst hi; exact ⟨r, rfl, h1⟩
        | succ i => simpa using e2 i o' (by simpa using hi)
theorem mem_mkIds {e : Env} {ros : List ROper} : ∀ {L : List Nat} {j : Nat} {r : ROper}, j ∈ L → ros[j]? = some r → wantedA e r.guard = true → (kindOf r.op).any (fun k => k != 0) = true →
    ownId (dval e r) ∈ mkIds e (L.filterMap (ros[·]?))
  | [], j, r, h, _, _, _ => by simp at h
  | i :: L, j, r, h, hr, hw, hk => by
    simp only [List.filterMap_cons]
    rcases List.mem_cons.1 h with rfl | h'
    · rw [hr]; simp [mkIds, hw, hk]
    · have := mem_mkIds h' hr hw hk
      cases hi : ros[i]? with
      | none => simpa using this
      | some r' =>
        simp only [mkIds]
        rw [Bool.cond_eq_ite]
        split
        · exact List.mem_cons.2 (.inr this)
        · exact this
theorem mkIds_apart {e : Env} {ros : List ROper} : ∀ {L : List Nat}, L.Nodup → (mkIds e (L.filterMap (ros[·]?))).Nodup → ∀ {i j : Nat} {r q : ROper}, i ∈ L → j ∈ L → i ≠ j → ros[i]? = some r → ros[j]? = some q →
    wantedA e r.guard = true → (kindOf r.op).any (fun k => k != 0) = true → wantedA e q.guard = true → (kindOf q.op).any (fun k => k != 0) = true → ownId (dval e r) ≠ ownId (dval e q)
  | [], _, _, i, j, r, q, hi, _, _, _, _, _, _, _, _ => by simp at hi
  | a :: L, hL, hN, i, j, r, q, hi, hj, hij, hr, hq, hw, hk, hw', hk' => by
    rw [List.nodup_cons] at hL
    have hN' : (mkIds e (L.filterMap (ros[·]?))).Nodup := by
      simp only [List.filterMap_cons] at hN
      cases ha : ros[a]? with
      | none => simpa [ha] using hN
      | some r' =>
        simp only [ha, mkIds] at hN
        rw [Bool.cond_eq_ite] at hN
        split at hN
        · exact (List.nodup_cons.1 hN).2
        · exact hN
    rcases List.mem_cons.1 hi with rfl | hi'
    · rcases List.mem_cons.1 hj with rfl | hj'
      · exact absurd rfl hij
      · simp only [List.filterMap_cons, hr, mkIds, hw, hk, Bool.and_self, cond_true] at hN
        have := (List.nodup_cons.1 hN).1
        intro he
        exact this (he ▸ mem_mkIds hj' hq hw' hk')
    · rcases List.mem_cons.1 hj with rfl | hj'
      · simp only [List.filterMap_cons, hq, mkIds, hw', hk', Bool.and_self, cond_true] at hN
        have := (List.nodup_cons.1 hN).1
        intro he
        exact this (he ▸ mem_mkIds hi' hr hw hk)
      · exact mkIds_apart hL.2 hN' hi' hj' hij hr hq hw hk hw' hk'
theorem nodup_sub_len : ∀ {l m : List Nat}, l.Nodup → l ⊆ m → l.length ≤ m.length
  | [], m, _, _ => by simp
  | a :: l, m, hn, hs => by
    rw [List.nodup_cons] at hn
    have ha : a ∈ m := hs (by simp)
    have hl : l ⊆ m.erase a := by
      intro x hx
      have hne : x ≠ a := by rintro rfl; exact hn.1 hx
      exact (List.mem_erase_of_ne hne).2 (hs (by simp [hx]))
    have := nodup_sub_len hn.2 hl
    rw [List.length_erase_of_mem ha] at this
    have hpos : 0 < m.length := List.length_pos_of_mem ha
    simp only [List.length_cons]; omega
theorem countP_lt {p p' : Nat → Bool} : ∀ (l : List Nat), (∀ x ∈ l, p' x = true → p x = true) → (∃ x ∈ l, p x = true ∧ p' x = false) → l.countP p' < l.countP p
  | [], _, ⟨x, hx, _⟩ => by simp at hx
  | a :: l, hsub, ⟨x, hx, h1, h2⟩ => by
    simp only [List.countP_cons]
    have hle : l.countP p' ≤ l.countP p := List.countP_mono_left (fun x hx h => hsub x (by simp [hx]) h)
    rcases List.mem_cons.1 hx with rfl | hx'
    · simp [h1, h2]; omega
    · have := countP_lt l (fun x hx h => hsub x (by simp [hx]) h) ⟨x, hx', h1, h2⟩
      have ha := hsub a (by simp)
      by_cases hpa : p' a = true
      · simp [hpa, ha hpa]; omega
      · simp [hpa]; omega
structure PlanOk (P : Program) (n : Nat) (ops : Array Oper) (ros : List ROper) (ne eff : List Nat) (pr : List (List Nat)) : Prop where
  comp : compOpers P n ops ops.toList = some ros
  prd : pr = predsL ops.toList []
  cover : ∀ i, i < ops.size → (i ∈ ne ∧ i ∉ eff) ∨ (i ∈ eff ∧ i ∉ ne)
  effLt : ∀ i ∈ eff, i < ops.size
  neLt : ∀ i ∈ ne, i < ops.size
  effNd : eff.Nodup
  neNd : ne.Nodup
  chain : chainOk pr eff = true
  back : ∀ (i : Nat) o, ops[i]? = some o → ∀ j ∈ directsO o, j < i
  looks : ∀ (j : Nat) o, ops[j]? = some o → ∀ t ∈ looksR ros j o.op, ∀ i ∈ ne, ∀ r, ros[i]? = some r → r.dst = some t → i ∈ pr.getD j []
  dsts : ∀ i j r q, i < ops.size → j < ops.size → ros[i]? = some r → ros[j]? = some q → i ≠ j → ∀ d, r.dst = some d → q.dst ≠ some d
  neDst : ∀ i ∈ ne, ∀ r, ros[i]? = some r → ∃ d, r.dst = some d
  neKind : ∀ i ∈ ne, ∀ r, ros[i]? = some r → ∃ q, kindOf r.op = some q
  news : ∀ k e, eff[k]? = some e → ∀ j ∈ planChk pr ne eff (k + 1), j ∈ planChk pr ne eff k ∨ e ∈ pr.getD j []
theorem chain_pred {pr : List (List Nat)} : ∀ {eff : List Nat}, chainOk pr eff = true → ∀ (k : Nat) a b, eff[k]? = some a → eff[k + 1]? = some b → a ∈ pr.getD b []
  | [], _, k, a, b, h, _ => by simp at h
  | [x], _, k, a, b, _, h => by simp at h
  | x :: y :: l, h, k, a, b, ha, hb => by
    simp only [chainOk, Bool.and_eq_true, List.contains_iff_mem] at h
    cases k with
    | zero => simp at ha hb; subst ha; subst hb; exact h.1
    | succ k => exact chain_pred h.2 k a b (by simpa using ha) (by simpa using hb)
structure DInv (W : World) (n : Nat) (N0 : Nat) (ops : Array Oper) (ros : List ROper) (ne eff : List Nat) (pr : List (List Nat)) (listed : Array Bool) (k : Nat) (σ : St) (μ : PMap) (a : Act) (w : World) : Prop where
  lsz : listed.size = ops.size
  closed : ∀ (i : Nat) o, ops[i]? = some o → listed.getD i false = true → ∀ j ∈ directsO o, listed.getD j false = true
  effs : ∀ (m : Nat) e, eff[m]? = some e → (listed.getD e false = true ↔ m < k)
  hk : k ≤ eff.length
  hr : HR W μ σ.h w
  er : ∀ t, (∀ i ∈ ne, ∀ r, ros[i]? = some r → r.dst = some t → listed.getD i false = true) → VR μ (eget σ.e t) (a.tmps.getD t undef)
  chk : ∀ j ∈ planChk pr ne eff k, ∀ r, ros[j]? = some r → Chk W σ r
  nodup : (mkIds σ.e ((planChk pr ne eff k).filterMap (ros[·]?))).Nodup
  pend : ∀ j ∈ planChk pr ne eff k, ∀ r, ros[j]? = some r → listed.getD j false = false → wantedA σ.e r.guard = true → (kindOf r.op).any (fun k => k != 0) = true → μ (ownId (dval σ.e r)) = none
  low : ∀ j ∈ planChk pr ne eff k, ∀ r, ros[j]? = some r → wantedA σ.e r.guard = true → (kindOf r.op).any (fun k => k != 0) = true → N0 ≤ ownId (dval σ.e r)
  nlow : N0 ≤ σ.h.next
  asz : a.tmps.size = n
  nd : a.defers = []
def DRest (P : Program) (W : World) (ros : List ROper) (ne eff : List Nat) (pr : List (List Nat)) (K : St → Prop) (k : Nat) : List Nat → St → Prop
  | [], σ => K σ
  | e :: es, σ => match ros[e]? with
    | some o => AOp P W o (DOps P W (stagesOf ros eff (planChk pr ne eff) (k + 1) es) K) σ
    | none => K σ
theorem stagesOf_news {ros : List ROper} {eff : List Nat} {chk : Nat → List Nat} {k : Nat} {es : List Nat} : ∃ s ss, stagesOf ros eff chk k es = s :: ss ∧ s.chk = (chk k).filterMap (ros[·]?) ∧
    s.ops = ((chk k).filter fun j => match k with | 0 => true | k' + 1 => !(chk k').contains j).filterMap (ros[·]?) ∧
    ((es = [] ∧ s.eff = none) ∨ ∃ e es', es = e :: es' ∧ s.eff = ros[e]? ∧ ss = stagesOf ros eff chk (k + 1) es') := by
  cases es with
  | nil => exact ⟨_, _, rfl, rfl, rfl, .inl ⟨rfl, rfl⟩⟩
  | cons e es => exact ⟨_, _, rfl, rfl, rfl, .inr ⟨e, es, rfl, rfl, rfl⟩⟩
end
end Go.Mach
end
section
set_option linter.unusedSimpArgs false
set_option linter.unusedVariables false
namespace Go.Mach
open Go Go.RowKit
section
variable {P : Program} {W : World} {n N0 : Nat} {ops : Array Oper} {ros : List ROper} {ne eff : List Nat} {pr : List (List Nat)}
theorem ready_spec {listed : Array Bool} {i : Nat} (h : i ∈ Region.ready .any ops listed) : i < ops.size ∧ listed.getD i true = false ∧ ∀ o, ops[i]? = some o → ∀ j ∈ directsO o, listed.getD j false = true := by
  unfold Region.ready at h
  rw [List.mem_filter, List.mem_range] at h
  obtain ⟨h1, h2⟩ := h
  simp only [Bool.and_eq_true, Bool.not_eq_true'] at h2
  refine ⟨h1, h2.1, fun o ho j hj => ?_⟩
  rw [ho] at h2
  have h3 := h2.2
  simp only [Option.map_some, Option.getD_some] at h3
  unfold directsO at hj
  obtain ⟨e, he, rfl⟩ := List.mem_map.1 hj
  rw [List.mem_filter] at he
  rw [Array.all_eq_true_iff_forall_mem] at h3
  have := h3 e (by simpa using he.1)
  simpa [he.2] using this
theorem getD_true_false {listed : Array Bool} {i : Nat} (hi : i < listed.size) : listed.getD i true = listed.getD i false := by
  simp [Array.getD_eq_getD_getElem?, hi]
theorem getD_setTrue {listed : Array Bool} {i j : Nat} (hi : i < listed.size) : (listed.setIfInBounds i true).getD j false = if j = i then true else listed.getD j false := by
  simp only [Array.getD_eq_getD_getElem?, Array.getElem?_setIfInBounds]
  by_cases h : i = j
  · subst h; simp [hi]
  · have : j ≠ i := fun e => h e.symm
    simp [h, this]
theorem PlanOk.predsIn (hP : PlanOk P n ops ros ne eff pr) (S : Nat → Prop) (hS : ∀ (i : Nat) o, ops[i]? = some o → S i → ∀ j ∈ directsO o, S j) {i : Nat} {o : Oper} (ho : ops[i]? = some o) (hd : ∀ j ∈ directsO o, S j) : ∀ j ∈ pr.getD i [], S j := by
  rw [hP.prd]
  refine preds_closed S ops.toList (fun i o hi => hS i o (by simpa using hi)) ops.toList [] ⟨[], by simp, rfl⟩ (fun i o hi => by simp at hi) i o (by simpa using ho) hd
theorem DInv.preds {listed : Array Bool} {k : Nat} {σ : St} {μ : PMap} {a : Act} {w : World} (hP : PlanOk P n ops ros ne eff pr) (hI : DInv W n N0 ops ros ne eff pr listed k σ μ a w) {i : Nat} {o : Oper} (ho : ops[i]? = some o)
    (hd : ∀ j ∈ directsO o, listed.getD j false = true) : ∀ j ∈ pr.getD i [], listed.getD j false = true :=
  hP.predsIn (fun j => listed.getD j false = true) hI.closed ho hd
theorem looks_opd {r : ROper} {j : Nat} {o : Op} (hr : ros[j]? = some r) : (∀ t, Operand.tmp t ∈ o.operands.toList → t ∈ looksR ros j o) ∧ (∀ d b, r.guard = some (d, b) → d ∈ looksR ros j o) := by
  unfold looksR
  refine ⟨fun t ht => List.mem_append.2 (.inl (List.mem_filterMap.2 ⟨_, ht, rfl⟩)), fun d b hg => List.mem_append.2 (.inr ?_)⟩
  rw [hr]
  simp [hg]
theorem dval_eget {e : Env} {r : ROper} {d : Nat} (h : r.dst = some d) : dval e r = eget e d := by unfold dval; rw [h]
theorem stepNE (hP : PlanOk P n ops ros ne eff pr) {listed : Array Bool} {k : Nat} {σ : St} {μ : PMap} {a : Act} {w : World} (hI : DInv W n N0 ops ros ne eff pr listed k σ μ a w) {i : Nat} (hi : i ∈ Region.ready .any ops listed) (hne : i ∈ ne)
    {K' : Act → World → Prop} {Q : Exit → Act → World → Prop}
    (hk : ∀ μ' a' w', DInv W n N0 ops ros ne eff pr (listed.setIfInBounds i true) k σ μ' a' w' → (∀ j, j < N0 → μ' j = μ j) → K' a' w') :
    ∃ o, ops[i]? = some o ∧ if Region.wanted o (yielded ops a.tmps) then o.wp P a w K' Q else K' (a.put o.dst undef) w := by
  obtain ⟨hlt, hun, hdir⟩ := ready_spec hi
  have ho : ops[i]? = some ops[i] := by simp [hlt]
  generalize ops[i] = o at ho
  refine ⟨o, ho, ?_⟩
  have hun' : listed.getD i false = false := by rw [← getD_true_false (by rw [hI.lsz]; exact hlt)]; exact hun
  obtain ⟨r, hr, hcomp⟩ := (compOpers_spec hP.comp).2 i o (by simpa using ho)
  obtain ⟨hd, hdst, hop, hg⟩ := compOper_spec hcomp
  obtain ⟨hraw, hok⟩ := compOp_spec hop
  have hprd := hI.preds hP ho (hdir o ho)
  obtain ⟨d, hrd⟩ := hP.neDst i hne r hr
  have hod : o.dst = some d := by rw [← hdst]; exact hrd
  have hdn := hd d hod
  -- the plan looks at it in this stage
  have hstage : i ∈ planChk pr ne eff k := by
    unfold planChk
    rw [List.mem_filter]
    refine ⟨hne, ?_⟩
    simp only [Bool.and_eq_true, decide_eq_true_eq, List.all_eq_true, Bool.not_eq_true']
    constructor
    · have hsub : (eff.filter fun e => (pr.getD i []).contains e) ⊆ eff.take k := by
        intro e he
        rw [List.mem_filter] at he
        have hl := hprd e (by simpa [List.contains_iff_mem] using he.2)
        obtain ⟨m, hm, rfl⟩ := List.mem_iff_getElem.1 he.1
        have := (hI.effs m eff[m] (by simp [hm])).1 hl
        rw [List.mem_take_iff_getElem]
        exact ⟨m, by omega, rfl⟩
      have hnd : (eff.filter fun e => (pr.getD i []).contains e).Nodup := hP.effNd.sublist List.filter_sublist
      have := nodup_sub_len hnd hsub
      simp only [List.length_take] at this
      omega
    · intro e he
      rw [List.mem_take_iff_getElem] at he
      obtain ⟨m, hm, rfl⟩ := he
      have hle := (hI.effs m eff[m] (by simp)).2 (by omega)
      cases hc : (pr.getD eff[m] []).contains i with
      | false => rfl
      | true =>
        exfalso
        have hem : eff[m] < ops.size := hP.effLt _ (List.getElem_mem _)
        have := hI.preds hP (i := eff[m]) (o := ops[eff[m]]) (by simp [hem]) (hI.closed _ _ (by simp [hem]) hle) i (by simpa [List.contains_iff_mem] using hc)
        rw [hun'] at this; cases this
  have hchk := hI.chk i hstage r hr
  -- the operands
  obtain ⟨hlk1, hlk2⟩ := looks_opd (o := o.op) hr
  have hER : ∀ t ∈ looksR ros i o.op, VR μ (eget σ.e t) (a.tmps.getD t undef) := by
    intro t ht
    refine hI.er t fun i' hi' r' hr' hd' => ?_
    exact hprd i' (hP.looks i o ho t ht i' hi' r' hr' hd')
  have hw : Region.wanted o (yielded ops a.tmps) = wantedA σ.e r.guard := by
    refine wanted_eq (μ := μ) ?_
    rcases hg with ⟨h1, h2⟩ | ⟨j, b, d', h1, h2, h3⟩
    · exact .inl ⟨h1, h2⟩
    · exact .inr ⟨j, b, d', h1, h2, h3, hER d' (hlk2 d' b h3)⟩
  -- what the frame becomes
  have hnew : ∀ (μ' : PMap) (v' : Value) (w' : World), VR μ' (dval σ.e r) v' → HR W μ' σ.h w' → (∀ j p, μ j = some p → μ' j = some p) →
      (∀ j, μ' j ≠ μ j → j = ownId (dval σ.e r) ∧ wantedA σ.e r.guard = true ∧ (kindOf r.op).any (fun k => k != 0) = true) →
      DInv W n N0 ops ros ne eff pr (listed.setIfInBounds i true) k σ μ' (a.put o.dst v') w' := by
    intro μ' v' w' hv H' hle hch
    have hls : i < listed.size := by rw [hI.lsz]; exact hlt
    refine ⟨by simp [hI.lsz], ?_, ?_, hI.hk, H', ?_, hI.chk, hI.nodup, ?_, hI.low, hI.nlow, by rw [put_size]; exact hI.asz, by rw [put_nd]; exact hI.nd⟩
    · intro i' o' ho' hl' j hj
      rw [getD_setTrue hls] at hl' ⊢
      split
      · rfl
      · by_cases e : i' = i
        · subst e
          rw [ho] at ho'; cases ho'
          exact hdir o ho j hj
        · rw [if_neg e] at hl'
          exact hI.closed i' o' ho' hl' j hj
    · intro m e he
      have : e ≠ i := by
        rintro rfl
        rcases hP.cover e hlt with h | h
        · exact h.2 (List.mem_of_getElem? he)
        · exact h.2 hne
      rw [getD_setTrue hls, if_neg this]
      exact hI.effs m e he
    · intro t ht
      rw [put_getD a o.dst v' t (fun k hk => by rw [hI.asz]; exact hd k hk)]
      by_cases hdt : o.dst = some t
      · rw [if_pos hdt]
        have : t = d := by rw [hod] at hdt; exact (Option.some.inj hdt).symm
        subst this
        rw [← dval_eget hrd]; exact hv
      · rw [if_neg hdt]
        refine (hI.er t fun i' hi' r' hr' hd' => ?_).mono hle
        have hl := ht i' hi' r' hr' hd'
        rw [getD_setTrue hls] at hl
        by_cases e : i' = i
        · exfalso; subst e; rw [hr] at hr'; cases hr'; exact hdt (by rw [← hdst]; exact hd')
        · rwa [if_neg e] at hl
    · intro j hj q hq hu hwq hkq
      have hji : j ≠ i := by
        rintro rfl
        rw [getD_setTrue hls, if_pos rfl] at hu; cases hu
      rw [getD_setTrue hls, if_neg hji] at hu
      have hold := hI.pend j hj q hq hu hwq hkq
      by_cases hne' : μ' (ownId (dval σ.e q)) = μ (ownId (dval σ.e q))
      · rw [hne']; exact hold
      · obtain ⟨h1, h2, h3⟩ := hch _ hne'
        exact absurd h1.symm (mkIds_apart (hP.neNd.sublist List.filter_sublist) hI.nodup hstage hj (Ne.symm hji) hr hq h2 h3 hwq hkq)
  rw [hw]
  cases hwa : wantedA σ.e r.guard with
  | false =>
    simp only [Bool.false_eq_true, if_false]
    unfold Chk at hchk
    simp only [hwa, Bool.false_eq_true, if_false] at hchk
    exact hk μ _ w (hnew μ undef w (by rw [hchk]; exact VR.undef) hI.hr (fun _ _ h => h) (fun j h => absurd rfl h)) (fun _ _ => rfl)
  | true =>
    simp only [if_true]
    have hρ : ∀ x ∈ o.op.operands.toList, VR μ (opd σ.e x) (a.eval x) := fun x hx => opd_rel (hok x hx) (fun t e => hER t (hlk1 t (e ▸ hx)))
    unfold Chk at hchk
    simp only [hwa, if_true] at hchk
    obtain ⟨q, hq⟩ := hP.neKind i hne r hr
    rw [hq] at hchk
    unfold Oper.wp
    cases q with
    | zero =>
      simp only at hchk
      obtain ⟨nx, v', w', μ', hrun, hnx, hv, H', he, hn⟩ := rop_sim hraw hI.hr hρ hchk
      have hle := he.le hI.hr.dom
      have hμ' : ∀ j, σ.h.next ≤ j → μ' j = none := by
        intro j hj
        cases hm : μ' j with
        | none => rfl
        | some p => have := H'.dom j p hm; omega
      have hch : ∀ j, μ' j ≠ μ j → False := by
        intro j hj
        by_cases hjn : j < σ.h.next
        · exact hj (he j hjn)
        · apply hj
          rw [hμ' j (by omega)]
          cases hm : μ j with
          | none => rfl
          | some p => have := hI.hr.dom j p hm; omega
      rw [hrun]
      have fin : ∀ v'', (v'' = v') → K' (a.put o.dst v'') w' := by
        intro v'' e
        rw [e]
        exact hk μ' _ w' (hnew μ' v' w' hv H' hle (fun j h => (hch j h).elim)) (fun j hj => he j (by have := hI.nlow; omega))
      rcases hnx with rfl | ⟨rfl, rfl⟩
      · exact fin v' rfl
      · exact fin undef rfl
    | succ q =>
      simp only at hchk
      obtain ⟨l, hm, hdv, hid, hgt⟩ := hchk
      have hany : (kindOf r.op).any (fun k => k != 0) = true := by rw [hq]; simp
      have hμ := hI.pend i hstage r hr hun' hwa hany
      obtain ⟨v', w', μ', hrun, hv, H', hoth, hle⟩ := make_run hraw hq hI.hr hρ hm hid hμ hgt
      rw [hrun]
      rw [← hdv] at hv
      have hch : ∀ j, μ' j ≠ μ j → j = ownId (dval σ.e r) := by
        intro j hj
        by_cases e : j = ownId (dval σ.e r)
        · exact e
        · exact absurd (hoth j e) hj
      refine hk μ' _ w' (hnew μ' v' w' hv H' hle (fun j h => ⟨hch j h, hwa, hany⟩)) ?_
      intro j hj
      have := hI.low i hstage r hr hwa hany
      exact hoth j (by omega)
end
end Go.Mach
end
section
set_option linter.unusedSimpArgs false
set_option linter.unusedVariables false
namespace Go.Mach
open Go Go.RowKit
section
variable {P : Program} {W : World} {n N0 : Nat} {ops : Array Oper} {ros : List ROper} {ne eff : List Nat} {pr : List (List Nat)}
theorem mem_filterMap_get {L : List Nat} {o : ROper} (h : o ∈ L.filterMap (ros[·]?)) : ∃ j ∈ L, ros[j]? = some o := List.mem_filterMap.1 h
theorem stage_new {L : List Nat} {e : Env} {j : Nat} {r : ROper} (hj : j ∈ L) (hr : ros[j]? = some r) (hw : wantedA e r.guard = true) (hk : (kindOf r.op).any (fun k => k != 0) = true) {b : Nat} (h : ∀ i ∈ mkIds e (L.filterMap (ros[·]?)), b ≤ i) : b ≤ ownId (dval e r) :=
  h _ (mem_mkIds hj hr hw hk)
theorem mkVal_undef {i : Nat} {r : ROp} (h : (undef : Value) = mkVal i r) : False := by
  unfold mkVal at h
  split at h <;> simp [undef, oS, oP] at h
theorem stepEff (hP : PlanOk P n ops ros ne eff pr) {listed : Array Bool} {k : Nat} {σ : St} {μ : PMap} {a : Act} {w : World} (hI : DInv W n N0 ops ros ne eff pr listed k σ μ a w) {i : Nat} (hi : i ∈ Region.ready .any ops listed) (hef : i ∈ eff)
    {K : St → Prop} (hrest : DRest P W ros ne eff pr K k (eff.drop k) σ) {K' : Act → World → Prop} {Q : Exit → Act → World → Prop}
    (hk : ∀ σ' μ' a' w', DInv W n N0 ops ros ne eff pr (listed.setIfInBounds i true) (k + 1) σ' μ' a' w' → DRest P W ros ne eff pr K (k + 1) (eff.drop (k + 1)) σ' → (∀ j, j < N0 → μ' j = μ j) → K' a' w') :
    ∃ o, ops[i]? = some o ∧ if Region.wanted o (yielded ops a.tmps) then o.wp P a w K' Q else K' (a.put o.dst undef) w := by
  obtain ⟨hlt, hun, hdir⟩ := ready_spec hi
  have hls : i < listed.size := by rw [hI.lsz]; exact hlt
  have ho : ops[i]? = some ops[i] := by simp [hlt]
  generalize ops[i] = o at ho
  refine ⟨o, ho, ?_⟩
  have hun' : listed.getD i false = false := by rw [← getD_true_false hls]; exact hun
  obtain ⟨r, hr, hcomp⟩ := (compOpers_spec hP.comp).2 i o (by simpa using ho)
  obtain ⟨hd, hdst, hop, hg⟩ := compOper_spec hcomp
  have hprd := hI.preds hP ho (hdir o ho)
  -- its turn
  obtain ⟨m, hm, hmi⟩ := List.mem_iff_getElem.1 hef
  have hmk : m = k := by
    have h1 := hI.effs m i (by simp [hm, hmi])
    have h2 : ¬ (m < k) := fun h => by have := h1.2 h; rw [hun'] at this; cases this
    rcases Nat.lt_or_ge k m with h3 | h3
    · exfalso
      have hmp : m - 1 + 1 = m := by omega
      have hprev : eff[m - 1]? = some eff[m - 1] := List.getElem?_eq_getElem (by omega)
      have := chain_pred hP.chain (m - 1) eff[m - 1] i hprev (by rw [hmp]; simp [hm, hmi])
      have := (hI.effs (m - 1) _ hprev).1 (hprd _ this)
      omega
    · omega
  subst hmk
  have hei : eff[m]? = some i := by simp [hm, hmi]
  have hdrop : eff.drop m = i :: eff.drop (m + 1) := by rw [List.drop_eq_getElem_cons hm, hmi]
  rw [hdrop] at hrest
  have hrest' : AOp P W r (DOps P W (stagesOf ros eff (planChk pr ne eff) (m + 1) (eff.drop (m + 1))) K) σ := by
    unfold DRest at hrest
    simp only [hr] at hrest
    exact hrest
  obtain ⟨hlk1, hlk2⟩ := looks_opd (o := o.op) hr
  have hER : ∀ t ∈ looksR ros i o.op, VR μ (eget σ.e t) (a.tmps.getD t undef) := by
    intro t ht
    exact hI.er t fun i' hi' r' hr' hd' => hprd i' (hP.looks i o ho t ht i' hi' r' hr' hd')
  refine AOp_sound hcomp hrest' hI.hr (fun t ht => hER t (hlk1 t ht)) (fun d b hgd => hER d (hlk2 d b hgd)) ?_
  intro μ' v v' h' w' hv H' he hn hD
  obtain ⟨s, ss, hst, hsc, hso, hse⟩ := stagesOf_news (ros := ros) (eff := eff) (chk := planChk pr ne eff) (k := m + 1) (es := eff.drop (m + 1))
  rw [hst] at hD
  obtain ⟨σ1, hs1, hchk, hids, hnd, hcont⟩ := hD
  rw [hsc] at hchk hnd
  rw [hso] at hs1 hids
  simp only at hs1 hids
  have hnin : i ∉ ne := by
    rcases hP.cover i hlt with h | h
    · exact absurd hef h.2
    · exact h.2
  -- the stage's operations
  have hSmem : ∀ q ∈ ((planChk pr ne eff (m + 1)).filter fun j => !(planChk pr ne eff m).contains j).filterMap (ros[·]?), ∃ j, j ∈ planChk pr ne eff (m + 1) ∧ j ∉ planChk pr ne eff m ∧ j ∈ ne ∧ ros[j]? = some q ∧ i ∈ pr.getD j [] := by
    intro q hq
    obtain ⟨j, hj, hjr⟩ := mem_filterMap_get hq
    rw [List.mem_filter] at hj
    have hj2 : j ∉ planChk pr ne eff m := by
      have := hj.2
      simp only [Bool.not_eq_true'] at this
      intro hc
      rw [List.contains_iff_mem.2 hc] at this
      cases this
    refine ⟨j, hj.1, hj2, (List.mem_filter.1 hj.1).1, hjr, ?_⟩
    rcases hP.news m i hei j hj.1 with h | h
    · exact absurd h hj2
    · exact h
  have hkinds : ∀ q ∈ ((planChk pr ne eff (m + 1)).filter fun j => !(planChk pr ne eff m).contains j).filterMap (ros[·]?), ∃ k, kindOf q.op = some k := by
    intro q hq
    obtain ⟨j, _, _, hjn, hjr, _⟩ := hSmem q hq
    exact hP.neKind j hjn q hjr
  obtain ⟨hframe, hnx, hghost⟩ := sops_spec hkinds hs1
  -- what a slot holds behind the stage
  have hlisted : ∀ j, j ∈ ne → listed.getD j false = true → i ∉ pr.getD j [] := by
    intro j hj hl hc
    have hjl := hP.neLt j hj
    have := hI.preds hP (i := j) (o := ops[j]) (by simp [hjl]) (hI.closed _ _ (by simp [hjl]) hl) i hc
    rw [hun'] at this; cases this
  have hsame : ∀ j ∈ planChk pr ne eff m, ∀ q, ros[j]? = some q → dval σ1.e q = dval σ.e q := by
    intro j hj q hq
    have hjn := (List.mem_filter.1 hj).1
    obtain ⟨d, hqd⟩ := hP.neDst j hjn q hq
    rw [dval_eget hqd, dval_eget hqd]
    rw [hframe d ?_, eget_eput, if_neg ?_]
    · intro e
      have hij : i ≠ j := by rintro rfl; exact hnin hjn
      exact hP.dsts i j r q hlt (hP.neLt j hjn) hr hq hij d e hqd
    · intro q' hq' e
      obtain ⟨j', hj'1, hj'2, hj'n, hj'r, _⟩ := hSmem q' hq'
      have hjj : j ≠ j' := by rintro rfl; exact hj'2 hj
      exact hP.dsts j j' q q' (hP.neLt j hjn) (hP.neLt j' hj'n) hq hj'r hjj d hqd e
  have hchk1 : ∀ j ∈ planChk pr ne eff (m + 1), ∀ q, ros[j]? = some q → Chk W σ1 q := fun j hj q hq => hchk q (List.mem_filterMap.2 ⟨j, hj, hq⟩)
  -- old allocations stay
  have hold : ∀ j ∈ planChk pr ne eff (m + 1), j ∈ planChk pr ne eff m → ∀ q, ros[j]? = some q → wantedA σ1.e q.guard = true → (kindOf q.op).any (fun k => k != 0) = true → wantedA σ.e q.guard = true := by
    intro j hj hjm q hq hw hkq
    have h0 := hI.chk j hjm q hq
    have h1 := hchk1 j hj q hq
    cases hwq : wantedA σ.e q.guard with
    | true => rfl
    | false =>
      exfalso
      unfold Chk at h0 h1
      simp only [hwq, Bool.false_eq_true, if_false] at h0
      simp only [hw, if_true] at h1
      cases hkk : kindOf q.op with
      | none => rw [hkk] at hkq; simp at hkq
      | some z =>
        cases z with
        | zero => rw [hkk] at hkq; simp at hkq
        | succ z =>
          rw [hkk] at h1
          obtain ⟨l, _, h2, _⟩ := h1
          rw [hsame j hjm q hq, h0] at h2
          exact mkVal_undef h2
  have hidlt : ∀ j ∈ planChk pr ne eff m, ∀ q, ros[j]? = some q → wantedA σ.e q.guard = true → (kindOf q.op).any (fun k => k != 0) = true → ownId (dval σ.e q) < σ.h.next := by
    intro j hj q hq hw hkq
    have h0 := hI.chk j hj q hq
    unfold Chk at h0
    simp only [hw, if_true] at h0
    cases hkk : kindOf q.op with
    | none => rw [hkk] at hkq; simp at hkq
    | some z =>
      cases z with
      | zero => rw [hkk] at hkq; simp at hkq
      | succ z => rw [hkk] at h0; obtain ⟨l, _, _, h3, _⟩ := h0; exact h3
  refine hk σ1 μ' _ w' ⟨by simp [hI.lsz], ?_, ?_, by omega, hghost μ' w' H', ?_, hchk1, hnd, ?_, ?_, ?_, by rw [put_size]; exact hI.asz, by rw [put_nd]; exact hI.nd⟩ ?_ (fun j hj => he j (by have := hI.nlow; omega))
  · intro i' o' ho' hl' j hj
    rw [getD_setTrue hls] at hl' ⊢
    split
    · rfl
    · by_cases e : i' = i
      · subst e
        rw [ho] at ho'; cases ho'
        exact hdir o ho j hj
      · rw [if_neg e] at hl'
        exact hI.closed i' o' ho' hl' j hj
  · intro q e hqe
    rw [getD_setTrue hls]
    by_cases e' : e = i
    · subst e'
      have hq : q < eff.length := by
        rcases Nat.lt_or_ge q eff.length with h | h
        · exact h
        · rw [List.getElem?_eq_none h] at hqe; cases hqe
      have hqm : q = m := by
        rw [List.getElem?_eq_getElem hq] at hqe
        exact (List.getElem_inj hP.effNd).1 (by rw [Option.some.inj hqe, hmi])
      simp [hqm]
    · rw [if_neg e']
      have := hI.effs q e hqe
      have hqm : q ≠ m := by rintro rfl; rw [hei] at hqe; exact e' (Option.some.inj hqe).symm
      rw [this]; omega
  · intro t ht
    have hnoS : ∀ q ∈ ((planChk pr ne eff (m + 1)).filter fun j => !(planChk pr ne eff m).contains j).filterMap (ros[·]?), q.dst ≠ some t := by
      intro q hq e
      obtain ⟨j, _, _, hjn, hjr, hjp⟩ := hSmem q hq
      have hl := ht j hjn q hjr e
      rw [getD_setTrue hls] at hl
      have hji : j ≠ i := by rintro rfl; exact hnin hjn
      rw [if_neg hji] at hl
      exact hlisted j hjn hl hjp
    rw [hframe t hnoS, eget_eput, put_getD a o.dst v' t (fun k hk => by rw [hI.asz]; exact hd k hk), hdst]
    split
    · exact hv
    · refine (hI.er t fun i' hi' r' hr' hd' => ?_).ext he hI.hr.dom
      have hl := ht i' hi' r' hr' hd'
      rw [getD_setTrue hls] at hl
      have hji : i' ≠ i := by rintro rfl; exact hnin hi'
      rwa [if_neg hji] at hl
  · intro j hj q hq hu hw hkq
    have hjn := (List.mem_filter.1 hj).1
    have hji : j ≠ i := by rintro rfl; exact hnin hjn
    rw [getD_setTrue hls, if_neg hji] at hu
    by_cases hjm : j ∈ planChk pr ne eff m
    · have hw0 := hold j hj hjm q hq hw hkq
      have h1 := hI.pend j hjm q hq hu hw0 hkq
      rw [hsame j hjm q hq, he _ (hidlt j hjm q hq hw0 hkq)]
      exact h1
    · have hge := stage_new (L := (planChk pr ne eff (m + 1)).filter fun j => !(planChk pr ne eff m).contains j) (e := σ1.e) (j := j) (r := q) (b := h'.next)
        (List.mem_filter.2 ⟨hj, by simp [List.contains_iff_mem, hjm]⟩) hq hw hkq hids
      cases hmu : μ' (ownId (dval σ1.e q)) with
      | none => rfl
      | some p => have := H'.dom _ p hmu; omega
  · intro j hj q hq hw hkq
    by_cases hjm : j ∈ planChk pr ne eff m
    · rw [hsame j hjm q hq]
      exact hI.low j hjm q hq (hold j hj hjm q hq hw hkq) hkq
    · have hge := stage_new (L := (planChk pr ne eff (m + 1)).filter fun j => !(planChk pr ne eff m).contains j) (e := σ1.e) (j := j) (r := q) (b := h'.next)
        (List.mem_filter.2 ⟨hj, by simp [List.contains_iff_mem, hjm]⟩) hq hw hkq hids
      have := hI.nlow
      omega
  · have := hI.nlow
    simp only at hnx
    omega
  · rcases hse with ⟨h1, h2⟩ | ⟨e, es', h1, h2, h3⟩
    · rw [h2] at hcont
      rw [h1]
      exact hcont
    · rw [h2] at hcont
      rw [h1]
      unfold DRest
      cases hre : ros[e]? with
      | none => rw [hre] at hcont; simp only [hre]; exact hcont
      | some q => rw [hre, h3] at hcont; simp only [hre]; exact hcont
theorem ready_nil (hP : PlanOk P n ops ros ne eff pr) {listed : Array Bool} (hsz : listed.size = ops.size) (h : Region.ready .any ops listed = []) : ∀ i, i < ops.size → listed.getD i false = true := by
  intro i
  induction i using Nat.strongRecOn with
  | _ i ih =>
    intro hi
    cases hl : listed.getD i false with
    | true => rfl
    | false =>
      exfalso
      have ho : ops[i]? = some ops[i] := by simp [hi]
      have hmem : i ∈ Region.ready .any ops listed := by
        unfold Region.ready
        rw [List.mem_filter, List.mem_range]
        refine ⟨hi, ?_⟩
        rw [getD_true_false (by rw [hsz]; exact hi), hl, ho]
        simp only [Bool.not_false, Option.map_some, Option.getD_some, Bool.true_and]
        rw [Array.all_eq_true_iff_forall_mem]
        intro e he
        cases hb : Region.binds .any e with
        | false => simp
        | true =>
          have hd : e.on ∈ directsO ops[i] := by
            unfold directsO
            exact List.mem_map.2 ⟨e, List.mem_filter.2 ⟨by simpa using he, hb⟩, rfl⟩
          have hlt := hP.back i ops[i] ho _ hd
          simp [ih e.on hlt (by omega)]
      rw [h] at hmem
      cases hmem
theorem draws_main (hP : PlanOk P n ops ros ne eff pr) {K : St → Prop} {Q : Exit → Act → World → Prop} {μ0 : PMap}
    (hQ : ∀ σ' μ' a' w', Rel W n μ' σ' a' w' → (∀ j, j < N0 → μ' j = μ0 j) → N0 ≤ σ'.h.next → K σ' → Q .normal a' w') :
    ∀ (fuel : Nat) (listed : Array Bool) (k : Nat) (σ : St) (μ : PMap) (a : Act) (w : World), DInv W n N0 ops ros ne eff pr listed k σ μ a w → DRest P W ros ne eff pr K k (eff.drop k) σ →
      (∀ j, j < N0 → μ j = μ0 j) → ((List.range ops.size).countP fun i => !listed.getD i false) ≤ fuel → wpAny P .any ops Q fuel listed a w := by
  have fin : ∀ (listed : Array Bool) (k : Nat) (σ : St) (μ : PMap) (a : Act) (w : World), DInv W n N0 ops ros ne eff pr listed k σ μ a w → DRest P W ros ne eff pr K k (eff.drop k) σ →
      (∀ j, j < N0 → μ j = μ0 j) → Region.ready .any ops listed = [] → Q .normal a w := by
    intro listed k σ μ a w hI hrest hμ hnil
    have hall := ready_nil hP hI.lsz hnil
    have hk : k = eff.length := by
      rcases Nat.lt_or_ge k eff.length with h | h
      · exfalso
        have := (hI.effs k eff[k] (by simp [h])).1 (hall _ (hP.effLt _ (List.getElem_mem _)))
        omega
      · have := hI.hk; omega
    rw [hk, List.drop_length] at hrest
    exact hQ σ μ a w ⟨hI.hr, fun t => hI.er t fun i hi r hr hd => hall i (hP.neLt i hi), hI.asz, hI.nd⟩ hμ hI.nlow hrest
  intro fuel
  induction fuel with
  | zero =>
    intro listed k σ μ a w hI hrest hμ hc
    have hnil : Region.ready .any ops listed = [] := by
      cases hrd : Region.ready .any ops listed with
      | nil => rfl
      | cons x l =>
        exfalso
        obtain ⟨h1, h2, _⟩ := ready_spec (ops := ops) (listed := listed) (i := x) (by rw [hrd]; simp)
        have : 0 < (List.range ops.size).countP fun i => !listed.getD i false := by
          rw [List.countP_pos_iff]
          exact ⟨x, by simp [h1], by rw [← getD_true_false (by rw [hI.lsz]; exact h1), h2]; rfl⟩
        omega
    exact ⟨hnil, fin listed k σ μ a w hI hrest hμ hnil⟩
  | succ fuel ih =>
    intro listed k σ μ a w hI hrest hμ hc
    refine ⟨fun hnil => fin listed k σ μ a w hI hrest hμ hnil, ?_⟩
    intro i hi
    obtain ⟨hlt, hun, _⟩ := ready_spec hi
    have hls : i < listed.size := by rw [hI.lsz]; exact hlt
    have hun' : listed.getD i false = false := by rw [← getD_true_false hls]; exact hun
    have hcnt : ((List.range ops.size).countP fun j => !(listed.setIfInBounds i true).getD j false) ≤ fuel := by
      have := countP_lt (p := fun j => !listed.getD j false) (p' := fun j => !(listed.setIfInBounds i true).getD j false) (List.range ops.size)
        (fun x _ h => by
          rw [getD_setTrue hls] at h
          split at h
          · cases h
          · exact h) ⟨i, by simp [hlt], by rw [hun']; rfl, by rw [getD_setTrue hls]; simp⟩
      omega
    have go : ∃ o, ops[i]? = some o ∧ if Region.wanted o (yielded ops a.tmps) then o.wp P a w (wpAny P .any ops Q fuel (listed.setIfInBounds i true)) Q else wpAny P .any ops Q fuel (listed.setIfInBounds i true) (a.put o.dst undef) w := by
      rcases hP.cover i hlt with h | h
      · exact stepNE hP hI hi h.1 (fun μ' a' w' hI' hlow => ih _ k σ μ' a' w' hI' hrest (fun j hj => (hlow j hj).trans (hμ j hj)) hcnt)
      · exact stepEff hP hI hi h.1 hrest (fun σ' μ' a' w' hI' hrest' hlow => ih _ (k + 1) σ' μ' a' w' hI' hrest' (fun j hj => (hlow j hj).trans (hμ j hj)) hcnt)
    obtain ⟨o, ho, hgo⟩ := go
    unfold wpOp
    rw [ho]
    simp only
    split
    · rename_i hw; rw [if_pos hw] at hgo; exact .inl hgo
    · rename_i hw; rw [if_neg hw] at hgo; exact hgo
end
end Go.Mach
end
