/- The abstract machine, part 16: a region that draws its order: every order does what the plan does. No condition. -/
import Derived.Test.YtlipmjpapkfaeaaGreatDoorM15
set_option linter.unusedSimpArgs false
set_option linter.unusedVariables false
namespace Go.Mach
open Go Go.RowKit

section
variable {P : Program} {W : World} {n N0 : Nat} {ops : Array Oper} {ros : List ROper} {ne eff : List Nat} {pr : List (List Nat)}

theorem ready_spec {listed : Array Bool} {i : Nat} (h : i ∈ Region.ready .any ops listed) : i < ops.size ∧ listed.getD i true = false ∧ ∀ o, ops[i]? = some o → ∀ j ∈ directsO o, listed.getD j false = true := by
  unfold Region.ready at h
  rw [List.mem_filter, List.mem_range] at h
  obtain ⟨h1, h2⟩ := h
  simp only [Bool.and_eq_true, Bool.not_eq_true'] at h2
  refine ⟨h1, h2.1, fun o ho j hj => ?_⟩
  rw [ho] at h2
  have h3 := h2.2
  simp only [Option.map_some, Option.getD_some] at h3
  unfold directsO at hj
  obtain ⟨e, he, rfl⟩ := List.mem_map.1 hj
  rw [List.mem_filter] at he
  rw [Array.all_eq_true_iff_forall_mem] at h3
  have := h3 e (by simpa using he.1)
  simpa [he.2] using this

theorem getD_true_false {listed : Array Bool} {i : Nat} (hi : i < listed.size) : listed.getD i true = listed.getD i false := by
  simp [Array.getD_eq_getD_getElem?, hi]

theorem getD_setTrue {listed : Array Bool} {i j : Nat} (hi : i < listed.size) : (listed.setIfInBounds i true).getD j false = if j = i then true else listed.getD j false := by
  simp only [Array.getD_eq_getD_getElem?, Array.getElem?_setIfInBounds]
  by_cases h : i = j
  · subst h; simp [hi]
  · have : j ≠ i := fun e => h e.symm
    simp [h, this]

theorem PlanOk.predsIn (hP : PlanOk P n ops ros ne eff pr) (S : Nat → Prop) (hS : ∀ (i : Nat) o, ops[i]? = some o → S i → ∀ j ∈ directsO o, S j) {i : Nat} {o : Oper} (ho : ops[i]? = some o) (hd : ∀ j ∈ directsO o, S j) : ∀ j ∈ pr.getD i [], S j := by
  rw [hP.prd]
  refine preds_closed S ops.toList (fun i o hi => hS i o (by simpa using hi)) ops.toList [] ⟨[], by simp, rfl⟩ (fun i o hi => by simp at hi) i o (by simpa using ho) hd

theorem DInv.preds {listed : Array Bool} {k : Nat} {σ : St} {μ : PMap} {a : Act} {w : World} (hP : PlanOk P n ops ros ne eff pr) (hI : DInv W n N0 ops ros ne eff pr listed k σ μ a w) {i : Nat} {o : Oper} (ho : ops[i]? = some o)
    (hd : ∀ j ∈ directsO o, listed.getD j false = true) : ∀ j ∈ pr.getD i [], listed.getD j false = true :=
  hP.predsIn (fun j => listed.getD j false = true) hI.closed ho hd

theorem looks_opd {r : ROper} {j : Nat} {o : Op} (hr : ros[j]? = some r) : (∀ t, Operand.tmp t ∈ o.operands.toList → t ∈ looksR ros j o) ∧ (∀ d b, r.guard = some (d, b) → d ∈ looksR ros j o) := by
  unfold looksR
  refine ⟨fun t ht => List.mem_append.2 (.inl (List.mem_filterMap.2 ⟨_, ht, rfl⟩)), fun d b hg => List.mem_append.2 (.inr ?_)⟩
  rw [hr]
  simp [hg]

theorem dval_eget {e : Env} {r : ROper} {d : Nat} (h : r.dst = some d) : dval e r = eget e d := by unfold dval; rw [h]

/-- An operation that is no effect, carried out at any time at which it may be. -/
theorem stepNE (hP : PlanOk P n ops ros ne eff pr) {listed : Array Bool} {k : Nat} {σ : St} {μ : PMap} {a : Act} {w : World} (hI : DInv W n N0 ops ros ne eff pr listed k σ μ a w) {i : Nat} (hi : i ∈ Region.ready .any ops listed) (hne : i ∈ ne)
    {K' : Act → World → Prop} {Q : Exit → Act → World → Prop}
    (hk : ∀ μ' a' w', DInv W n N0 ops ros ne eff pr (listed.setIfInBounds i true) k σ μ' a' w' → (∀ j, j < N0 → μ' j = μ j) → K' a' w') :
    ∃ o, ops[i]? = some o ∧ if Region.wanted o (yielded ops a.tmps) then o.wp P a w K' Q else K' (a.put o.dst undef) w := by
  obtain ⟨hlt, hun, hdir⟩ := ready_spec hi
  have ho : ops[i]? = some ops[i] := by simp [hlt]
  generalize ops[i] = o at ho
  refine ⟨o, ho, ?_⟩
  have hun' : listed.getD i false = false := by rw [← getD_true_false (by rw [hI.lsz]; exact hlt)]; exact hun
  obtain ⟨r, hr, hcomp⟩ := (compOpers_spec hP.comp).2 i o (by simpa using ho)
  obtain ⟨hd, hdst, hop, hg⟩ := compOper_spec hcomp
  obtain ⟨hraw, hok⟩ := compOp_spec hop
  have hprd := hI.preds hP ho (hdir o ho)
  obtain ⟨d, hrd⟩ := hP.neDst i hne r hr
  have hod : o.dst = some d := by rw [← hdst]; exact hrd
  have hdn := hd d hod
  -- the plan looks at it in this stage
  have hstage : i ∈ planChk pr ne eff k := by
    unfold planChk
    rw [List.mem_filter]
    refine ⟨hne, ?_⟩
    simp only [Bool.and_eq_true, decide_eq_true_eq, List.all_eq_true, Bool.not_eq_true']
    constructor
    · have hsub : (eff.filter fun e => (pr.getD i []).contains e) ⊆ eff.take k := by
        intro e he
        rw [List.mem_filter] at he
        have hl := hprd e (by simpa [List.contains_iff_mem] using he.2)
        obtain ⟨m, hm, rfl⟩ := List.mem_iff_getElem.1 he.1
        have := (hI.effs m eff[m] (by simp [hm])).1 hl
        rw [List.mem_take_iff_getElem]
        exact ⟨m, by omega, rfl⟩
      have hnd : (eff.filter fun e => (pr.getD i []).contains e).Nodup := hP.effNd.sublist List.filter_sublist
      have := nodup_sub_len hnd hsub
      simp only [List.length_take] at this
      omega
    · intro e he
      rw [List.mem_take_iff_getElem] at he
      obtain ⟨m, hm, rfl⟩ := he
      have hle := (hI.effs m eff[m] (by simp)).2 (by omega)
      cases hc : (pr.getD eff[m] []).contains i with
      | false => rfl
      | true =>
        exfalso
        have hem : eff[m] < ops.size := hP.effLt _ (List.getElem_mem _)
        have := hI.preds hP (i := eff[m]) (o := ops[eff[m]]) (by simp [hem]) (hI.closed _ _ (by simp [hem]) hle) i (by simpa [List.contains_iff_mem] using hc)
        rw [hun'] at this; cases this
  have hchk := hI.chk i hstage r hr
  -- the operands
  obtain ⟨hlk1, hlk2⟩ := looks_opd (o := o.op) hr
  have hER : ∀ t ∈ looksR ros i o.op, VR μ (eget σ.e t) (a.tmps.getD t undef) := by
    intro t ht
    refine hI.er t fun i' hi' r' hr' hd' => ?_
    exact hprd i' (hP.looks i o ho t ht i' hi' r' hr' hd')
  have hw : Region.wanted o (yielded ops a.tmps) = wantedA σ.e r.guard := by
    refine wanted_eq (μ := μ) ?_
    rcases hg with ⟨h1, h2⟩ | ⟨j, b, d', h1, h2, h3⟩
    · exact .inl ⟨h1, h2⟩
    · exact .inr ⟨j, b, d', h1, h2, h3, hER d' (hlk2 d' b h3)⟩
  -- what the frame becomes
  have hnew : ∀ (μ' : PMap) (v' : Value) (w' : World), VR μ' (dval σ.e r) v' → HR W μ' σ.h w' → (∀ j p, μ j = some p → μ' j = some p) →
      (∀ j, μ' j ≠ μ j → j = ownId (dval σ.e r) ∧ wantedA σ.e r.guard = true ∧ (kindOf r.op).any (fun k => k != 0) = true) →
      DInv W n N0 ops ros ne eff pr (listed.setIfInBounds i true) k σ μ' (a.put o.dst v') w' := by
    intro μ' v' w' hv H' hle hch
    have hls : i < listed.size := by rw [hI.lsz]; exact hlt
    refine ⟨by simp [hI.lsz], ?_, ?_, hI.hk, H', ?_, hI.chk, hI.nodup, ?_, hI.low, hI.nlow, by rw [put_size]; exact hI.asz, by rw [put_nd]; exact hI.nd⟩
    · intro i' o' ho' hl' j hj
      rw [getD_setTrue hls] at hl' ⊢
      split
      · rfl
      · by_cases e : i' = i
        · subst e
          rw [ho] at ho'; cases ho'
          exact hdir o ho j hj
        · rw [if_neg e] at hl'
          exact hI.closed i' o' ho' hl' j hj
    · intro m e he
      have : e ≠ i := by
        rintro rfl
        rcases hP.cover e hlt with h | h
        · exact h.2 (List.mem_of_getElem? he)
        · exact h.2 hne
      rw [getD_setTrue hls, if_neg this]
      exact hI.effs m e he
    · intro t ht
      rw [put_getD a o.dst v' t (fun k hk => by rw [hI.asz]; exact hd k hk)]
      by_cases hdt : o.dst = some t
      · rw [if_pos hdt]
        have : t = d := by rw [hod] at hdt; exact (Option.some.inj hdt).symm
        subst this
        rw [← dval_eget hrd]; exact hv
      · rw [if_neg hdt]
        refine (hI.er t fun i' hi' r' hr' hd' => ?_).mono hle
        have hl := ht i' hi' r' hr' hd'
        rw [getD_setTrue hls] at hl
        by_cases e : i' = i
        · exfalso; subst e; rw [hr] at hr'; cases hr'; exact hdt (by rw [← hdst]; exact hd')
        · rwa [if_neg e] at hl
    · intro j hj q hq hu hwq hkq
      have hji : j ≠ i := by
        rintro rfl
        rw [getD_setTrue hls, if_pos rfl] at hu; cases hu
      rw [getD_setTrue hls, if_neg hji] at hu
      have hold := hI.pend j hj q hq hu hwq hkq
      by_cases hne' : μ' (ownId (dval σ.e q)) = μ (ownId (dval σ.e q))
      · rw [hne']; exact hold
      · obtain ⟨h1, h2, h3⟩ := hch _ hne'
        exact absurd h1.symm (mkIds_apart (hP.neNd.sublist List.filter_sublist) hI.nodup hstage hj (Ne.symm hji) hr hq h2 h3 hwq hkq)
  rw [hw]
  cases hwa : wantedA σ.e r.guard with
  | false =>
    simp only [Bool.false_eq_true, if_false]
    unfold Chk at hchk
    simp only [hwa, Bool.false_eq_true, if_false] at hchk
    exact hk μ _ w (hnew μ undef w (by rw [hchk]; exact VR.undef) hI.hr (fun _ _ h => h) (fun j h => absurd rfl h)) (fun _ _ => rfl)
  | true =>
    simp only [if_true]
    have hρ : ∀ x ∈ o.op.operands.toList, VR μ (opd σ.e x) (a.eval x) := fun x hx => opd_rel (hok x hx) (fun t e => hER t (hlk1 t (e ▸ hx)))
    unfold Chk at hchk
    simp only [hwa, if_true] at hchk
    obtain ⟨q, hq⟩ := hP.neKind i hne r hr
    rw [hq] at hchk
    unfold Oper.wp
    cases q with
    | zero =>
      simp only at hchk
      obtain ⟨nx, v', w', μ', hrun, hnx, hv, H', he, hn⟩ := rop_sim hraw hI.hr hρ hchk
      have hle := he.le hI.hr.dom
      have hμ' : ∀ j, σ.h.next ≤ j → μ' j = none := by
        intro j hj
        cases hm : μ' j with
        | none => rfl
        | some p => have := H'.dom j p hm; omega
      have hch : ∀ j, μ' j ≠ μ j → False := by
        intro j hj
        by_cases hjn : j < σ.h.next
        · exact hj (he j hjn)
        · apply hj
          rw [hμ' j (by omega)]
          cases hm : μ j with
          | none => rfl
          | some p => have := hI.hr.dom j p hm; omega
      rw [hrun]
      have fin : ∀ v'', (v'' = v') → K' (a.put o.dst v'') w' := by
        intro v'' e
        rw [e]
        exact hk μ' _ w' (hnew μ' v' w' hv H' hle (fun j h => (hch j h).elim)) (fun j hj => he j (by have := hI.nlow; omega))
      rcases hnx with rfl | ⟨rfl, rfl⟩
      · exact fin v' rfl
      · exact fin undef rfl
    | succ q =>
      simp only at hchk
      obtain ⟨l, hm, hdv, hid, hgt⟩ := hchk
      have hany : (kindOf r.op).any (fun k => k != 0) = true := by rw [hq]; simp
      have hμ := hI.pend i hstage r hr hun' hwa hany
      obtain ⟨v', w', μ', hrun, hv, H', hoth, hle⟩ := make_run hraw hq hI.hr hρ hm hid hμ hgt
      rw [hrun]
      rw [← hdv] at hv
      have hch : ∀ j, μ' j ≠ μ j → j = ownId (dval σ.e r) := by
        intro j hj
        by_cases e : j = ownId (dval σ.e r)
        · exact e
        · exact absurd (hoth j e) hj
      refine hk μ' _ w' (hnew μ' v' w' hv H' hle (fun j h => ⟨hch j h, hwa, hany⟩)) ?_
      intro j hj
      have := hI.low i hstage r hr hwa hany
      exact hoth j (by omega)

end
end Go.Mach
