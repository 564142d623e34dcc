/- The abstract machine, part 17: a region that draws its order, to the end. No condition. -/
import Derived.Test.YtlipmjpapkfaeaaGreatDoorM16
set_option linter.unusedSimpArgs false
set_option linter.unusedVariables false
namespace Go.Mach
open Go Go.RowKit

section
variable {P : Program} {W : World} {n N0 : Nat} {ops : Array Oper} {ros : List ROper} {ne eff : List Nat} {pr : List (List Nat)}

theorem mem_filterMap_get {L : List Nat} {o : ROper} (h : o ∈ L.filterMap (ros[·]?)) : ∃ j ∈ L, ros[j]? = some o := List.mem_filterMap.1 h

/-- The numbers that a stage's operations made, in their own list. -/
theorem stage_new {L : List Nat} {e : Env} {j : Nat} {r : ROper} (hj : j ∈ L) (hr : ros[j]? = some r) (hw : wantedA e r.guard = true) (hk : (kindOf r.op).any (fun k => k != 0) = true) {b : Nat} (h : ∀ i ∈ mkIds e (L.filterMap (ros[·]?)), b ≤ i) : b ≤ ownId (dval e r) :=
  h _ (mem_mkIds hj hr hw hk)

theorem mkVal_undef {i : Nat} {r : ROp} (h : (undef : Value) = mkVal i r) : False := by
  unfold mkVal at h
  split at h <;> simp [undef, oS, oP] at h

/-- An effect, carried out when its turn has come. -/
theorem stepEff (hP : PlanOk P n ops ros ne eff pr) {listed : Array Bool} {k : Nat} {σ : St} {μ : PMap} {a : Act} {w : World} (hI : DInv W n N0 ops ros ne eff pr listed k σ μ a w) {i : Nat} (hi : i ∈ Region.ready .any ops listed) (hef : i ∈ eff)
    {K : St → Prop} (hrest : DRest P W ros ne eff pr K k (eff.drop k) σ) {K' : Act → World → Prop} {Q : Exit → Act → World → Prop}
    (hk : ∀ σ' μ' a' w', DInv W n N0 ops ros ne eff pr (listed.setIfInBounds i true) (k + 1) σ' μ' a' w' → DRest P W ros ne eff pr K (k + 1) (eff.drop (k + 1)) σ' → (∀ j, j < N0 → μ' j = μ j) → K' a' w') :
    ∃ o, ops[i]? = some o ∧ if Region.wanted o (yielded ops a.tmps) then o.wp P a w K' Q else K' (a.put o.dst undef) w := by
  obtain ⟨hlt, hun, hdir⟩ := ready_spec hi
  have hls : i < listed.size := by rw [hI.lsz]; exact hlt
  have ho : ops[i]? = some ops[i] := by simp [hlt]
  generalize ops[i] = o at ho
  refine ⟨o, ho, ?_⟩
  have hun' : listed.getD i false = false := by rw [← getD_true_false hls]; exact hun
  obtain ⟨r, hr, hcomp⟩ := (compOpers_spec hP.comp).2 i o (by simpa using ho)
  obtain ⟨hd, hdst, hop, hg⟩ := compOper_spec hcomp
  have hprd := hI.preds hP ho (hdir o ho)
  -- its turn
  obtain ⟨m, hm, hmi⟩ := List.mem_iff_getElem.1 hef
  have hmk : m = k := by
    have h1 := hI.effs m i (by simp [hm, hmi])
    have h2 : ¬ (m < k) := fun h => by have := h1.2 h; rw [hun'] at this; cases this
    rcases Nat.lt_or_ge k m with h3 | h3
    · exfalso
      have hmp : m - 1 + 1 = m := by omega
      have hprev : eff[m - 1]? = some eff[m - 1] := List.getElem?_eq_getElem (by omega)
      have := chain_pred hP.chain (m - 1) eff[m - 1] i hprev (by rw [hmp]; simp [hm, hmi])
      have := (hI.effs (m - 1) _ hprev).1 (hprd _ this)
      omega
    · omega
  subst hmk
  have hei : eff[m]? = some i := by simp [hm, hmi]
  have hdrop : eff.drop m = i :: eff.drop (m + 1) := by rw [List.drop_eq_getElem_cons hm, hmi]
  rw [hdrop] at hrest
  have hrest' : AOp P W r (DOps P W (stagesOf ros eff (planChk pr ne eff) (m + 1) (eff.drop (m + 1))) K) σ := by
    unfold DRest at hrest
    simp only [hr] at hrest
    exact hrest
  obtain ⟨hlk1, hlk2⟩ := looks_opd (o := o.op) hr
  have hER : ∀ t ∈ looksR ros i o.op, VR μ (eget σ.e t) (a.tmps.getD t undef) := by
    intro t ht
    exact hI.er t fun i' hi' r' hr' hd' => hprd i' (hP.looks i o ho t ht i' hi' r' hr' hd')
  refine AOp_sound hcomp hrest' hI.hr (fun t ht => hER t (hlk1 t ht)) (fun d b hgd => hER d (hlk2 d b hgd)) ?_
  intro μ' v v' h' w' hv H' he hn hD
  obtain ⟨s, ss, hst, hsc, hso, hse⟩ := stagesOf_news (ros := ros) (eff := eff) (chk := planChk pr ne eff) (k := m + 1) (es := eff.drop (m + 1))
  rw [hst] at hD
  obtain ⟨σ1, hs1, hchk, hids, hnd, hcont⟩ := hD
  rw [hsc] at hchk hnd
  rw [hso] at hs1 hids
  simp only at hs1 hids
  have hnin : i ∉ ne := by
    rcases hP.cover i hlt with h | h
    · exact absurd hef h.2
    · exact h.2
  -- the stage's operations
  have hSmem : ∀ q ∈ ((planChk pr ne eff (m + 1)).filter fun j => !(planChk pr ne eff m).contains j).filterMap (ros[·]?), ∃ j, j ∈ planChk pr ne eff (m + 1) ∧ j ∉ planChk pr ne eff m ∧ j ∈ ne ∧ ros[j]? = some q ∧ i ∈ pr.getD j [] := by
    intro q hq
    obtain ⟨j, hj, hjr⟩ := mem_filterMap_get hq
    rw [List.mem_filter] at hj
    have hj2 : j ∉ planChk pr ne eff m := by
      have := hj.2
      simp only [Bool.not_eq_true'] at this
      intro hc
      rw [List.contains_iff_mem.2 hc] at this
      cases this
    refine ⟨j, hj.1, hj2, (List.mem_filter.1 hj.1).1, hjr, ?_⟩
    rcases hP.news m i hei j hj.1 with h | h
    · exact absurd h hj2
    · exact h
  have hkinds : ∀ q ∈ ((planChk pr ne eff (m + 1)).filter fun j => !(planChk pr ne eff m).contains j).filterMap (ros[·]?), ∃ k, kindOf q.op = some k := by
    intro q hq
    obtain ⟨j, _, _, hjn, hjr, _⟩ := hSmem q hq
    exact hP.neKind j hjn q hjr
  obtain ⟨hframe, hnx, hghost⟩ := sops_spec hkinds hs1
  -- what a slot holds behind the stage
  have hlisted : ∀ j, j ∈ ne → listed.getD j false = true → i ∉ pr.getD j [] := by
    intro j hj hl hc
    have hjl := hP.neLt j hj
    have := hI.preds hP (i := j) (o := ops[j]) (by simp [hjl]) (hI.closed _ _ (by simp [hjl]) hl) i hc
    rw [hun'] at this; cases this
  have hsame : ∀ j ∈ planChk pr ne eff m, ∀ q, ros[j]? = some q → dval σ1.e q = dval σ.e q := by
    intro j hj q hq
    have hjn := (List.mem_filter.1 hj).1
    obtain ⟨d, hqd⟩ := hP.neDst j hjn q hq
    rw [dval_eget hqd, dval_eget hqd]
    rw [hframe d ?_, eget_eput, if_neg ?_]
    · intro e
      have hij : i ≠ j := by rintro rfl; exact hnin hjn
      exact hP.dsts i j r q hlt (hP.neLt j hjn) hr hq hij d e hqd
    · intro q' hq' e
      obtain ⟨j', hj'1, hj'2, hj'n, hj'r, _⟩ := hSmem q' hq'
      have hjj : j ≠ j' := by rintro rfl; exact hj'2 hj
      exact hP.dsts j j' q q' (hP.neLt j hjn) (hP.neLt j' hj'n) hq hj'r hjj d hqd e
  have hchk1 : ∀ j ∈ planChk pr ne eff (m + 1), ∀ q, ros[j]? = some q → Chk W σ1 q := fun j hj q hq => hchk q (List.mem_filterMap.2 ⟨j, hj, hq⟩)
  -- old allocations stay
  have hold : ∀ j ∈ planChk pr ne eff (m + 1), j ∈ planChk pr ne eff m → ∀ q, ros[j]? = some q → wantedA σ1.e q.guard = true → (kindOf q.op).any (fun k => k != 0) = true → wantedA σ.e q.guard = true := by
    intro j hj hjm q hq hw hkq
    have h0 := hI.chk j hjm q hq
    have h1 := hchk1 j hj q hq
    cases hwq : wantedA σ.e q.guard with
    | true => rfl
    | false =>
      exfalso
      unfold Chk at h0 h1
      simp only [hwq, Bool.false_eq_true, if_false] at h0
      simp only [hw, if_true] at h1
      cases hkk : kindOf q.op with
      | none => rw [hkk] at hkq; simp at hkq
      | some z =>
        cases z with
        | zero => rw [hkk] at hkq; simp at hkq
        | succ z =>
          rw [hkk] at h1
          obtain ⟨l, _, h2, _⟩ := h1
          rw [hsame j hjm q hq, h0] at h2
          exact mkVal_undef h2
  have hidlt : ∀ j ∈ planChk pr ne eff m, ∀ q, ros[j]? = some q → wantedA σ.e q.guard = true → (kindOf q.op).any (fun k => k != 0) = true → ownId (dval σ.e q) < σ.h.next := by
    intro j hj q hq hw hkq
    have h0 := hI.chk j hj q hq
    unfold Chk at h0
    simp only [hw, if_true] at h0
    cases hkk : kindOf q.op with
    | none => rw [hkk] at hkq; simp at hkq
    | some z =>
      cases z with
      | zero => rw [hkk] at hkq; simp at hkq
      | succ z => rw [hkk] at h0; obtain ⟨l, _, _, h3, _⟩ := h0; exact h3
  refine hk σ1 μ' _ w' ⟨by simp [hI.lsz], ?_, ?_, by omega, hghost μ' w' H', ?_, hchk1, hnd, ?_, ?_, ?_, by rw [put_size]; exact hI.asz, by rw [put_nd]; exact hI.nd⟩ ?_ (fun j hj => he j (by have := hI.nlow; omega))
  · intro i' o' ho' hl' j hj
    rw [getD_setTrue hls] at hl' ⊢
    split
    · rfl
    · by_cases e : i' = i
      · subst e
        rw [ho] at ho'; cases ho'
        exact hdir o ho j hj
      · rw [if_neg e] at hl'
        exact hI.closed i' o' ho' hl' j hj
  · intro q e hqe
    rw [getD_setTrue hls]
    by_cases e' : e = i
    · subst e'
      have hq : q < eff.length := by
        rcases Nat.lt_or_ge q eff.length with h | h
        · exact h
        · rw [List.getElem?_eq_none h] at hqe; cases hqe
      have hqm : q = m := by
        rw [List.getElem?_eq_getElem hq] at hqe
        exact (List.getElem_inj hP.effNd).1 (by rw [Option.some.inj hqe, hmi])
      simp [hqm]
    · rw [if_neg e']
      have := hI.effs q e hqe
      have hqm : q ≠ m := by rintro rfl; rw [hei] at hqe; exact e' (Option.some.inj hqe).symm
      rw [this]; omega
  · intro t ht
    have hnoS : ∀ q ∈ ((planChk pr ne eff (m + 1)).filter fun j => !(planChk pr ne eff m).contains j).filterMap (ros[·]?), q.dst ≠ some t := by
      intro q hq e
      obtain ⟨j, _, _, hjn, hjr, hjp⟩ := hSmem q hq
      have hl := ht j hjn q hjr e
      rw [getD_setTrue hls] at hl
      have hji : j ≠ i := by rintro rfl; exact hnin hjn
      rw [if_neg hji] at hl
      exact hlisted j hjn hl hjp
    rw [hframe t hnoS, eget_eput, put_getD a o.dst v' t (fun k hk => by rw [hI.asz]; exact hd k hk), hdst]
    split
    · exact hv
    · refine (hI.er t fun i' hi' r' hr' hd' => ?_).ext he hI.hr.dom
      have hl := ht i' hi' r' hr' hd'
      rw [getD_setTrue hls] at hl
      have hji : i' ≠ i := by rintro rfl; exact hnin hi'
      rwa [if_neg hji] at hl
  · intro j hj q hq hu hw hkq
    have hjn := (List.mem_filter.1 hj).1
    have hji : j ≠ i := by rintro rfl; exact hnin hjn
    rw [getD_setTrue hls, if_neg hji] at hu
    by_cases hjm : j ∈ planChk pr ne eff m
    · have hw0 := hold j hj hjm q hq hw hkq
      have h1 := hI.pend j hjm q hq hu hw0 hkq
      rw [hsame j hjm q hq, he _ (hidlt j hjm q hq hw0 hkq)]
      exact h1
    · have hge := stage_new (L := (planChk pr ne eff (m + 1)).filter fun j => !(planChk pr ne eff m).contains j) (e := σ1.e) (j := j) (r := q) (b := h'.next)
        (List.mem_filter.2 ⟨hj, by simp [List.contains_iff_mem, hjm]⟩) hq hw hkq hids
      cases hmu : μ' (ownId (dval σ1.e q)) with
      | none => rfl
      | some p => have := H'.dom _ p hmu; omega
  · intro j hj q hq hw hkq
    by_cases hjm : j ∈ planChk pr ne eff m
    · rw [hsame j hjm q hq]
      exact hI.low j hjm q hq (hold j hj hjm q hq hw hkq) hkq
    · have hge := stage_new (L := (planChk pr ne eff (m + 1)).filter fun j => !(planChk pr ne eff m).contains j) (e := σ1.e) (j := j) (r := q) (b := h'.next)
        (List.mem_filter.2 ⟨hj, by simp [List.contains_iff_mem, hjm]⟩) hq hw hkq hids
      have := hI.nlow
      omega
  · have := hI.nlow
    simp only at hnx
    omega
  · rcases hse with ⟨h1, h2⟩ | ⟨e, es', h1, h2, h3⟩
    · rw [h2] at hcont
      rw [h1]
      exact hcont
    · rw [h2] at hcont
      rw [h1]
      unfold DRest
      cases hre : ros[e]? with
      | none => rw [hre] at hcont; simp only [hre]; exact hcont
      | some q => rw [hre, h3] at hcont; simp only [hre]; exact hcont

theorem ready_nil (hP : PlanOk P n ops ros ne eff pr) {listed : Array Bool} (hsz : listed.size = ops.size) (h : Region.ready .any ops listed = []) : ∀ i, i < ops.size → listed.getD i false = true := by
  intro i
  induction i using Nat.strongRecOn with
  | _ i ih =>
    intro hi
    cases hl : listed.getD i false with
    | true => rfl
    | false =>
      exfalso
      have ho : ops[i]? = some ops[i] := by simp [hi]
      have hmem : i ∈ Region.ready .any ops listed := by
        unfold Region.ready
        rw [List.mem_filter, List.mem_range]
        refine ⟨hi, ?_⟩
        rw [getD_true_false (by rw [hsz]; exact hi), hl, ho]
        simp only [Bool.not_false, Option.map_some, Option.getD_some, Bool.true_and]
        rw [Array.all_eq_true_iff_forall_mem]
        intro e he
        cases hb : Region.binds .any e with
        | false => simp
        | true =>
          have hd : e.on ∈ directsO ops[i] := by
            unfold directsO
            exact List.mem_map.2 ⟨e, List.mem_filter.2 ⟨by simpa using he, hb⟩, rfl⟩
          have hlt := hP.back i ops[i] ho _ hd
          simp [ih e.on hlt (by omega)]
      rw [h] at hmem
      cases hmem

/-- EVERY ORDER. -/
theorem draws_main (hP : PlanOk P n ops ros ne eff pr) {K : St → Prop} {Q : Exit → Act → World → Prop} {μ0 : PMap}
    (hQ : ∀ σ' μ' a' w', Rel W n μ' σ' a' w' → (∀ j, j < N0 → μ' j = μ0 j) → N0 ≤ σ'.h.next → K σ' → Q .normal a' w') :
    ∀ (fuel : Nat) (listed : Array Bool) (k : Nat) (σ : St) (μ : PMap) (a : Act) (w : World), DInv W n N0 ops ros ne eff pr listed k σ μ a w → DRest P W ros ne eff pr K k (eff.drop k) σ →
      (∀ j, j < N0 → μ j = μ0 j) → ((List.range ops.size).countP fun i => !listed.getD i false) ≤ fuel → wpAny P .any ops Q fuel listed a w := by
  have fin : ∀ (listed : Array Bool) (k : Nat) (σ : St) (μ : PMap) (a : Act) (w : World), DInv W n N0 ops ros ne eff pr listed k σ μ a w → DRest P W ros ne eff pr K k (eff.drop k) σ →
      (∀ j, j < N0 → μ j = μ0 j) → Region.ready .any ops listed = [] → Q .normal a w := by
    intro listed k σ μ a w hI hrest hμ hnil
    have hall := ready_nil hP hI.lsz hnil
    have hk : k = eff.length := by
      rcases Nat.lt_or_ge k eff.length with h | h
      · exfalso
        have := (hI.effs k eff[k] (by simp [h])).1 (hall _ (hP.effLt _ (List.getElem_mem _)))
        omega
      · have := hI.hk; omega
    rw [hk, List.drop_length] at hrest
    exact hQ σ μ a w ⟨hI.hr, fun t => hI.er t fun i hi r hr hd => hall i (hP.neLt i hi), hI.asz, hI.nd⟩ hμ hI.nlow hrest
  intro fuel
  induction fuel with
  | zero =>
    intro listed k σ μ a w hI hrest hμ hc
    have hnil : Region.ready .any ops listed = [] := by
      cases hrd : Region.ready .any ops listed with
      | nil => rfl
      | cons x l =>
        exfalso
        obtain ⟨h1, h2, _⟩ := ready_spec (ops := ops) (listed := listed) (i := x) (by rw [hrd]; simp)
        have : 0 < (List.range ops.size).countP fun i => !listed.getD i false := by
          rw [List.countP_pos_iff]
          exact ⟨x, by simp [h1], by rw [← getD_true_false (by rw [hI.lsz]; exact h1), h2]; rfl⟩
        omega
    exact ⟨hnil, fin listed k σ μ a w hI hrest hμ hnil⟩
  | succ fuel ih =>
    intro listed k σ μ a w hI hrest hμ hc
    refine ⟨fun hnil => fin listed k σ μ a w hI hrest hμ hnil, ?_⟩
    intro i hi
    obtain ⟨hlt, hun, _⟩ := ready_spec hi
    have hls : i < listed.size := by rw [hI.lsz]; exact hlt
    have hun' : listed.getD i false = false := by rw [← getD_true_false hls]; exact hun
    have hcnt : ((List.range ops.size).countP fun j => !(listed.setIfInBounds i true).getD j false) ≤ fuel := by
      have := countP_lt (p := fun j => !listed.getD j false) (p' := fun j => !(listed.setIfInBounds i true).getD j false) (List.range ops.size)
        (fun x _ h => by
          rw [getD_setTrue hls] at h
          split at h
          · cases h
          · exact h) ⟨i, by simp [hlt], by rw [hun']; rfl, by rw [getD_setTrue hls]; simp⟩
      omega
    have go : ∃ o, ops[i]? = some o ∧ if Region.wanted o (yielded ops a.tmps) then o.wp P a w (wpAny P .any ops Q fuel (listed.setIfInBounds i true)) Q else wpAny P .any ops Q fuel (listed.setIfInBounds i true) (a.put o.dst undef) w := by
      rcases hP.cover i hlt with h | h
      · exact stepNE hP hI hi h.1 (fun μ' a' w' hI' hlow => ih _ k σ μ' a' w' hI' hrest (fun j hj => (hlow j hj).trans (hμ j hj)) hcnt)
      · exact stepEff hP hI hi h.1 hrest (fun σ' μ' a' w' hI' hrest' hlow => ih _ (k + 1) σ' μ' a' w' hI' hrest' (fun j hj => (hlow j hj).trans (hμ j hj)) hcnt)
    obtain ⟨o, ho, hgo⟩ := go
    unfold wpOp
    rw [ho]
    simp only
    split
    · rename_i hw; rw [if_pos hw] at hgo; exact .inl hgo
    · rename_i hw; rw [if_neg hw] at hgo; exact hgo

end
end Go.Mach
