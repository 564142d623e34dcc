/- The abstract machine, part 18: the logic of the machine's code; functions. No condition.
Merged from 5 texts. -/
import Derived.Test.YtlipmjpapkfaeaaGreatDoorZD6
section
set_option linter.unusedSimpArgs false
set_option linter.unusedVariables false
namespace Go.Mach
open Go Go.RowKit
section
variable {P : Program} {W : World} {n : Nat}
theorem planOk_spec {ops : Array Oper} {ros : List ROper} (hc : compOpers P n ops ops.toList = some ros)
    (hok : planOk ops.toList ros (predsL ops.toList []) ((List.range ros.length).filter fun i => !isEff ops.toList ros (predsL ops.toList []) i) ((List.range ros.length).filter (isEff ops.toList ros (predsL ops.toList []))) = true) :
    PlanOk P n ops ros ((List.range ros.length).filter fun i => !isEff ops.toList ros (predsL ops.toList []) i) ((List.range ros.length).filter (isEff ops.toList ros (predsL ops.toList []))) (predsL ops.toList []) := by
  have hlen : ros.length = ops.size := by rw [(compOpers_spec hc).1]; simp
  generalize hpr : predsL ops.toList [] = pr at *
  unfold planOk at hok
  simp only [Bool.and_eq_true, List.all_eq_true, List.mem_range, Array.length_toList] at hok
  obtain ⟨⟨⟨⟨⟨h1, h2⟩, h3⟩, h4⟩, h5⟩, h6⟩ := hok
  have hmem : ∀ i, i < ops.size → (i ∈ (List.range ros.length).filter (isEff ops.toList ros pr) ↔ isEff ops.toList ros pr i = true) := by
    intro i hi; simp [hlen, hi]
  refine ⟨hc, hpr.symm, ?_, ?_, ?_, List.nodup_range.sublist List.filter_sublist, List.nodup_range.sublist List.filter_sublist, h1, ?_, ?_, ?_, ?_, ?_, ?_⟩
  · intro i hi
    cases he : isEff ops.toList ros pr i with
    | true => exact .inr ⟨(hmem i hi).2 he, by simp [he]⟩
    | false => exact .inl ⟨by simp [hlen, hi, he], by simp [he]⟩
  · intro i hi; simp at hi; omega
  · intro i hi; simp at hi; omega
  · intro i o ho j hj
    have hi : i < ops.size := by
      rcases Nat.lt_or_ge i ops.size with h | h
      · exact h
      · simp [Array.getElem?_eq_none h] at ho
    have := h2 i hi
    simp only [Array.getElem?_toList, ho, List.all_eq_true, decide_eq_true_eq] at this
    exact this j hj
  · intro j o ho t ht i hi r hr hd
    have hj : j < ops.size := by
      rcases Nat.lt_or_ge j ops.size with h | h
      · exact h
      · simp [Array.getElem?_eq_none h] at ho
    have := h3 j hj
    simp only [Array.getElem?_toList, ho, List.all_eq_true] at this
    have := this t ht i hi
    simp only [hr, Option.bind_some, hd, Bool.or_eq_true, bne_self_eq_false, Bool.false_eq_true, false_or, List.contains_iff_mem] at this
    exact this
  · intro i j r q hi hj hr hq hij d hrd hqd
    have := h4 j hj i hi
    simp only [hr, hq, Option.bind_some, hrd, hqd, Bool.or_eq_true, beq_iff_eq, bne_self_eq_false] at this
    rcases this with (h | h) | h
    · exact hij h
    · cases h
    · cases h
  · intro i hi r hr
    have := h5 i hi
    simp only [hr, Option.bind_some] at this
    exact Option.isSome_iff_exists.1 this
  · intro i hi r hr
    rw [List.mem_filter] at hi
    have hi2 := hi.2
    simp only [Bool.not_eq_true'] at hi2
    unfold isEff at hi2
    cases hk : kindOf r.op with
    | some q => exact ⟨q, rfl⟩
    | none =>
      exfalso
      simp only [hr, Option.bind_some, hk] at hi2
      cases hi2
  · intro k e he j hj
    have hk : k < ((List.range ros.length).filter (isEff ops.toList ros pr)).length := by
      rcases Nat.lt_or_ge k ((List.range ros.length).filter (isEff ops.toList ros pr)).length with h | h
      · exact h
      · rw [List.getElem?_eq_none h] at he; cases he
    have := h6 (k + 1) (by omega)
    simp only [List.all_eq_true, Bool.or_eq_true, List.contains_iff_mem] at this
    rcases this j hj with h | h
    · exact .inl h
    · right
      have hgd : ((List.range ros.length).filter (isEff ops.toList ros pr)).getD k 0 = e := by rw [List.getD_eq_getElem?_getD, he]; rfl
      rw [hgd] at h
      exact h
def RWP (P : Program) (W : World) (n : Nat) (rc : RCode) (Q : Exit → St → Prop) (σ : St) : Prop :=
  ∀ c, comp P n c = rc → ∀ μ a w, Rel W n μ σ a w → c.wp P (fun e a' w' => ∃ σ' μ', Rel W n μ' σ' a' w' ∧ Ext μ σ.h.next μ' ∧ σ.h.next ≤ σ'.h.next ∧ Q e σ') a w
def thenS (K : St → Prop) (Q : Exit → St → Prop) : Exit → St → Prop
  | .normal, σ => K σ
  | e, σ => Q e σ
def blockS (id : Nat) (Q : Exit → St → Prop) : Exit → St → Prop
  | .exit id', σ => if id' = id then Q .normal σ else Q (.exit id') σ
  | e, σ => Q e σ
theorem RWP.mono {rc : RCode} {Q Q' : Exit → St → Prop} {σ : St} (h : RWP P W n rc Q σ) (hq : ∀ e σ, Q e σ → Q' e σ) : RWP P W n rc Q' σ :=
  fun c hc μ a w hR => wp_mono (h c hc μ a w hR) fun e a' w' ⟨σ', μ', h1, h2, h3, h4⟩ => ⟨σ', μ', h1, h2, h3, hq _ _ h4⟩
theorem comp_noFail {ops : Array Oper} : (∃ sts, compDraws P n ops = .draws sts) ∨ compDraws P n ops = .fail := by
  unfold compDraws
  split
  · exact .inr rfl
  · simp only
    split
    · exact .inl ⟨_, rfl⟩
    · exact .inr rfl
theorem RWP.skip {Q : Exit → St → Prop} {σ : St} (h : Q .normal σ) : RWP P W n .skip Q σ := by
  intro c hc μ a w hR
  cases c with
  | skip => exact wp_skip ⟨σ, μ, hR, Ext.refl _ _, Nat.le_refl _, h⟩
  | region id ops d =>
    cases d with
    | false => simp only [comp] at hc; split at hc <;> cases hc
    | true => simp only [comp] at hc; rcases comp_noFail (P := P) (n := n) (ops := ops) with ⟨s, h⟩ | h <;> rw [h] at hc <;> cases hc
  | cond c x y => simp only [comp] at hc; split at hc <;> cases hc
  | _ => simp only [comp] at hc; cases hc
theorem RWP.exit {id : Nat} {Q : Exit → St → Prop} {σ : St} (h : Q (.exit id) σ) : RWP P W n (.exit id) Q σ := by
  intro c hc μ a w hR
  cases c with
  | exit i => simp only [comp] at hc; cases hc; exact wp_exit ⟨σ, μ, hR, Ext.refl _ _, Nat.le_refl _, h⟩
  | region id ops d =>
    cases d with
    | false => simp only [comp] at hc; split at hc <;> cases hc
    | true => simp only [comp] at hc; rcases comp_noFail (P := P) (n := n) (ops := ops) with ⟨s, h⟩ | h <;> rw [h] at hc <;> cases hc
  | cond c x y => simp only [comp] at hc; split at hc <;> cases hc
  | _ => simp only [comp] at hc; cases hc
theorem RWP.ret {Q : Exit → St → Prop} {σ : St} (h : Q .ret σ) : RWP P W n .ret Q σ := by
  intro c hc μ a w hR
  cases c with
  | ret => exact wp_ret ⟨σ, μ, hR, Ext.refl _ _, Nat.le_refl _, h⟩
  | region id ops d =>
    cases d with
    | false => simp only [comp] at hc; split at hc <;> cases hc
    | true => simp only [comp] at hc; rcases comp_noFail (P := P) (n := n) (ops := ops) with ⟨s, h⟩ | h <;> rw [h] at hc <;> cases hc
  | cond c x y => simp only [comp] at hc; split at hc <;> cases hc
  | _ => simp only [comp] at hc; cases hc
theorem RWP.region {os : List ROper} {Q : Exit → St → Prop} {σ : St} (h : AOps P W os (fun σ' => Q .normal σ') σ) : RWP P W n (.region os) Q σ := by
  intro c hc μ a w hR
  cases c with
  | region id ops d =>
    cases d with
    | false =>
      simp only [comp] at hc
      split at hc
      · rename_i rs hrs
        cases hc
        exact wp_region_list (AOps_sound ops.toList os hrs σ μ a w h hR (fun σ' μ' a' w' hR' he hn hK => ⟨σ', μ', hR', he, hn, hK⟩))
      · cases hc
    | true => simp only [comp] at hc; rcases comp_noFail (P := P) (n := n) (ops := ops) with ⟨s, h⟩ | h <;> rw [h] at hc <;> cases hc
  | cond c x y => simp only [comp] at hc; split at hc <;> cases hc
  | _ => simp only [comp] at hc; cases hc
theorem RWP.draws (hmix : P.follows .mixedOrders = true) {sts : List Stage} {Q : Exit → St → Prop} {σ : St} (h : DOps P W sts (fun σ' => Q .normal σ') σ) : RWP P W n (.draws sts) Q σ := by
  intro c hc μ a w hR
  cases c with
  | region id ops d =>
    cases d with
    | false => simp only [comp] at hc; split at hc <;> cases hc
    | true =>
      simp only [comp] at hc
      unfold compDraws at hc
      split at hc
      · cases hc
      · rename_i ros hros
        simp only at hc
        split at hc
        · rename_i hok
          cases hc
          have hP := planOk_spec hros hok
          generalize hpr : predsL ops.toList [] = pr at *
          generalize heff : (List.range ros.length).filter (isEff ops.toList ros pr) = eff at *
          generalize hne : ((List.range ros.length).filter fun i => !isEff ops.toList ros pr i) = ne at *
          refine wp_region_any hmix ?_
          obtain ⟨s, ss, hst, hsc, hso, hse⟩ := stagesOf_news (ros := ros) (eff := eff) (chk := planChk pr ne eff) (k := 0) (es := eff)
          rw [hst] at h
          obtain ⟨σ1, hs1, hchk, hids, hnd, hcont⟩ := h
          rw [hsc] at hchk hnd
          rw [hso] at hs1 hids
          simp only at hs1 hids
          have hft : ((planChk pr ne eff 0).filter fun _ => true) = planChk pr ne eff 0 := by simp
          rw [hft] at hs1 hids
          have hkinds : ∀ q ∈ (planChk pr ne eff 0).filterMap (ros[·]?), ∃ k, kindOf q.op = some k := by
            intro q hq
            obtain ⟨j, hj, hjr⟩ := mem_filterMap_get hq
            exact hP.neKind j (List.mem_filter.1 hj).1 q hjr
          obtain ⟨hframe, hnx, hghost⟩ := sops_spec hkinds hs1
          have hfalse : ∀ i, (Array.replicate ops.size false).getD i false = false := by
            intro i
            rw [Array.getD_eq_getD_getElem?, Array.getElem?_replicate]
            split <;> rfl
          have hI : DInv W n σ.h.next ops ros ne eff pr (Array.replicate ops.size false) 0 σ1 μ a w.drew := by
            refine ⟨by simp, ?_, ?_, Nat.zero_le _, hghost μ _ hR.hr.drew, ?_, fun j hj q hq => hchk q (List.mem_filterMap.2 ⟨j, hj, hq⟩), hnd, ?_, ?_, hnx, hR.sz, hR.nd⟩
            · intro i o _ hl; rw [hfalse] at hl; cases hl
            · intro m e _; rw [hfalse]; simp
            · intro t ht
              rw [hframe t ?_]
              · exact hR.er t
              · intro q hq e
                obtain ⟨j, hj, hjr⟩ := mem_filterMap_get hq
                have := ht j (List.mem_filter.1 hj).1 q hjr e
                rw [hfalse] at this; cases this
            · intro j hj q hq _ hw hk
              have := hids _ (mem_mkIds hj hq hw hk)
              cases hm : μ (ownId (dval σ1.e q)) with
              | none => rfl
              | some p => have := hR.hr.dom _ p hm; omega
            · intro j hj q hq hw hk
              exact hids _ (mem_mkIds hj hq hw hk)
          refine draws_main hP (K := fun σ' => Q .normal σ') (μ0 := μ) ?_ ops.size _ 0 σ1 μ a _ hI ?_ (fun _ _ => rfl) ?_
          · intro σ' μ' a' w' hR' he hn hK
            exact ⟨σ', μ', hR', he, hn, hK⟩
          · rw [List.drop_zero]
            rcases hse with ⟨h1, h2⟩ | ⟨e, es', h1, h2, h3⟩
            · rw [h2] at hcont; rw [h1]; exact hcont
            · rw [h2] at hcont
              rw [h1]
              unfold DRest
              cases hre : ros[e]? with
              | none => rw [hre] at hcont; simp only [hre]; exact hcont
              | some q => rw [hre, h3] at hcont; simp only [hre]; rw [h1] at hcont; exact hcont
          · exact Nat.le_trans List.countP_le_length (by simp)
        · cases hc
  | cond c x y => simp only [comp] at hc; split at hc <;> cases hc
  | _ => simp only [comp] at hc; cases hc
theorem RWP.seq {x y : RCode} {Q : Exit → St → Prop} {σ : St} (h : RWP P W n x (thenS (RWP P W n y Q) Q) σ) : RWP P W n (.seq x y) Q σ := by
  intro c hc μ a w hR
  cases c with
  | seq c1 c2 =>
    simp only [comp] at hc
    cases hc
    refine wp_seq (wp_mono (h c1 rfl μ a w hR) ?_)
    rintro e a' w' ⟨σ', μ', hR', he, hn, hq⟩
    cases e with
    | normal =>
      refine wp_mono (hq c2 rfl μ' a' w' hR') ?_
      rintro e2 a2 w2 ⟨σ2, μ2, hR2, he2, hn2, hq2⟩
      exact ⟨σ2, μ2, hR2, he.trans he2 hn, Nat.le_trans hn hn2, hq2⟩
    | _ => exact ⟨σ', μ', hR', he, hn, hq⟩
  | region id ops d =>
    cases d with
    | false => simp only [comp] at hc; split at hc <;> cases hc
    | true => simp only [comp] at hc; rcases comp_noFail (P := P) (n := n) (ops := ops) with ⟨s, h⟩ | h <;> rw [h] at hc <;> cases hc
  | cond c x y => simp only [comp] at hc; split at hc <;> cases hc
  | _ => simp only [comp] at hc; cases hc
theorem RWP.cond {c : Operand} {x y : RCode} {Q : Exit → St → Prop} {σ : St} {t : Bool} (hc : opd σ.e c = .bool t) (h : if t then RWP P W n x Q σ else RWP P W n y Q σ) : RWP P W n (.cond c x y) Q σ := by
  intro c' hc' μ a w hR
  cases c' with
  | cond q c1 c2 =>
    simp only [comp] at hc'
    split at hc'
    · rename_i hok
      cases hc'
      have hv : VR μ (opd σ.e c) (a.eval c) := opd_rel hok (fun t _ => hR.er t)
      rw [hc] at hv
      refine wp_cond hv.bool ?_
      cases t with
      | true => exact h c1 rfl μ a w hR
      | false => exact h c2 rfl μ a w hR
    · cases hc'
  | region id ops d =>
    cases d with
    | false => simp only [comp] at hc'; split at hc' <;> cases hc'
    | true => simp only [comp] at hc'; rcases comp_noFail (P := P) (n := n) (ops := ops) with ⟨s, h⟩ | h <;> rw [h] at hc' <;> cases hc'
  | _ => simp only [comp] at hc'; cases hc'
theorem RWP.block {id : Nat} {x : RCode} {Q : Exit → St → Prop} {σ : St} (h : RWP P W n x (blockS id Q) σ) : RWP P W n (.block id x) Q σ := by
  intro c hc μ a w hR
  cases c with
  | block i c1 =>
    simp only [comp] at hc
    cases hc
    refine wp_block (wp_mono (h c1 rfl μ a w hR) ?_)
    rintro e a' w' ⟨σ', μ', hR', he, hn, hq⟩
    cases e with
    | exit i =>
      unfold Exit.inBlock
      unfold blockS at hq
      simp only at hq ⊢
      split
      · rename_i e; rw [if_pos e] at hq; exact ⟨σ', μ', hR', he, hn, hq⟩
      · rename_i e; rw [if_neg e] at hq; exact ⟨σ', μ', hR', he, hn, hq⟩
    | _ => exact ⟨σ', μ', hR', he, hn, hq⟩
  | region id ops d =>
    cases d with
    | false => simp only [comp] at hc; split at hc <;> cases hc
    | true => simp only [comp] at hc; rcases comp_noFail (P := P) (n := n) (ops := ops) with ⟨s, h⟩ | h <;> rw [h] at hc <;> cases hc
  | cond c x y => simp only [comp] at hc; split at hc <;> cases hc
  | _ => simp only [comp] at hc; cases hc
theorem RWP.loop {x : RCode} {Q : Exit → St → Prop} {σ : St} (I : Nat → St → Prop) (k0 : Nat) (h0 : I k0 σ) (round : ∀ k σ, I k σ → RWP P W n x (thenS (fun σ' => ∃ k', k' < k ∧ I k' σ') Q) σ) : RWP P W n (.loop x) Q σ := by
  intro c hc μ a w hR
  cases c with
  | loop c1 =>
    simp only [comp] at hc
    cases hc
    refine wp_loop_ghost (fun k a w => ∃ σ' μ', Rel W n μ' σ' a w ∧ Ext μ σ.h.next μ' ∧ σ.h.next ≤ σ'.h.next ∧ I k σ') k0 ⟨σ, μ, hR, Ext.refl _ _, Nat.le_refl _, h0⟩ ?_
    rintro k a' w' ⟨σ', μ', hR', he, hn, hI⟩
    refine wp_mono (round k σ' hI c1 rfl μ' a' w' hR') ?_
    rintro e a2 w2 ⟨σ2, μ2, hR2, he2, hn2, hq2⟩
    cases e with
    | normal =>
      obtain ⟨k', hk', hI'⟩ := hq2
      exact ⟨k', hk', σ2, μ2, hR2, he.trans he2 hn, Nat.le_trans hn hn2, hI'⟩
    | _ => exact ⟨σ2, μ2, hR2, he.trans he2 hn, Nat.le_trans hn hn2, hq2⟩
  | region id ops d =>
    cases d with
    | false => simp only [comp] at hc; split at hc <;> cases hc
    | true => simp only [comp] at hc; rcases comp_noFail (P := P) (n := n) (ops := ops) with ⟨s, h⟩ | h <;> rw [h] at hc <;> cases hc
  | cond c x y => simp only [comp] at hc; split at hc <;> cases hc
  | _ => simp only [comp] at hc; cases hc
theorem envOf_get : ∀ (vs : List Value) (i : Nat) (e : Env) (t : Nat), eget (envOf i vs e) t = if i ≤ t ∧ t < i + vs.length then vs.getD (t - i) undef else eget e t
  | [], i, e, t => by simp [envOf]; intro h1 h2; omega
  | v :: vs, i, e, t => by
    rw [envOf, envOf_get vs (i + 1) (e.set i v) t]
    simp only [List.length_cons]
    by_cases h1 : i = t
    · subst h1
      rw [if_neg (by omega), if_pos (by omega)]
      simp [eget]
    · have hs : eget (e.set i v) t = eget e t := by simp [eget, Tr.get_set, Ne.symm h1]
      by_cases h2 : i + 1 ≤ t ∧ t < i + 1 + vs.length
      · rw [if_pos h2, if_pos (by omega)]
        rw [show t - i = (t - (i + 1)) + 1 by omega]
        simp
      · rw [if_neg h2, if_neg (by omega), hs]
def resF (tmps : Array Value) : ResultVar → Sem Value
  | .tmp t => pure (tmps.getD t undef)
  | .cell x t => do loadVar t (← asAddr (tmps.getD x undef))
theorem res_run {μ : PMap} {σ : St} {a : Act} {w : World} (hR : Rel W n μ σ a w) : ∀ {l : List ResultVar} {rs : List RRes} {vs : List Value}, compRes P l = some rs → resVals W σ rs = some vs →
    ∃ vs', (l.mapM (resF a.tmps)).run P w = .ok vs' w ∧ VRs μ vs vs'
  | [], rs, vs, hc, hr => by
    simp [compRes] at hc; subst hc
    simp [resVals] at hr; subst hr
    exact ⟨[], by simp, VRs.nil⟩
  | .tmp t :: l, rs, vs, hc, hr => by
    simp only [compRes] at hc
    obtain ⟨rs', h1, rfl⟩ := some_map hc
    simp only [resVals] at hr
    split at hr
    · rename_i vs0 h2
      cases hr
      obtain ⟨vs', h3, h4⟩ := res_run hR h1 h2
      refine ⟨a.tmps.getD t undef :: vs', ?_, VRs.cons (hR.er t) h4⟩
      simp only [List.mapM_cons, resF, Sem.run_bind, Sem.run_pure, Result.andThen_ok, h3]
    · cases hr
  | .cell x t :: l, rs, vs, hc, hr => by
    simp only [compRes] at hc
    split at hc
    · rename_i r hagg h1
      cases hc
      simp only [resVals] at hr
      split at hr
      · rename_i ad vs0 hp h2
        split at hr
        · rename_i v hv
          cases hr
          obtain ⟨vs', h3, h4⟩ := res_run hR h1 h2
          have hpx := hR.er x
          rw [hp] at hpx
          obtain ⟨a', he, har⟩ := hpx.ptr_AR
          obtain ⟨v', hc', hv', _⟩ := aload1_sim hR.hr har hv
          refine ⟨v' :: vs', ?_, VRs.cons hv' h4⟩
          have hload : (loadVar t a').run P w = .ok v' w := by simp [loadVar, aggT_run hagg, hc']
          have hasA : (asAddr (a.tmps.getD x undef)).run P w = .ok a' w := by rw [he]; rfl
          simp only [List.mapM_cons, resF, Sem.run_bind, hasA, Sem.run_pure, Result.andThen_ok, hload, h3]
        · cases hr
      · cases hr
    · rename_i r hagg h1
      obtain ⟨k, hk, rfl⟩ := some_map hc
      simp only [resVals] at hr
      split at hr
      · rename_i ad vs0 hp h2
        split at hr
        · rename_i v hv
          cases hr
          obtain ⟨vs', h3, h4⟩ := res_run hR h1 h2
          have hpx := hR.er x
          rw [hp] at hpx
          obtain ⟨a', he, har⟩ := hpx.ptr_AR
          obtain ⟨l', hrs, hlen, _, hcs⟩ := aloadN_sim hR.hr k har hv
          have hload := run_loadCells_list (P := P) w a' l' hcs
          rw [← hrs.1, hlen] at hload
          refine ⟨.agg l'.toArray :: vs', ?_, VRs.cons hrs.agg h4⟩
          have hload2 : (loadVar t a').run P w = .ok (.agg l'.toArray) w := by simp [loadVar, aggT_run hagg, sizeT_run hk, hload]
          have hasA : (asAddr (a.tmps.getD x undef)).run P w = .ok a' w := by rw [he]; rfl
          simp only [List.mapM_cons, resF, Sem.run_bind, hasA, Sem.run_pure, Result.andThen_ok, hload2, h3]
        · cases hr
      · cases hr
    · cases hc
theorem ACalls_of {f : FuncId} {rf : RFunc} (hf : compFn P f = some rf) {args : List Value} (hl : args.length ≤ rf.ntmps) {h : AHeap} {R : Value → AHeap → Prop}
    (hb : RWP P W rf.ntmps rf.body (fun e σ' => (e = .normal ∨ e = .ret) ∧ ∃ vs, resVals W σ' rf.res = some vs ∧ R (resOf vs) σ'.h) ⟨envOf 0 args .lf, h⟩) : ACalls P W f args h R := by
  unfold compFn at hf
  cases hfn : P.funcs[f]? with
  | none => simp [hfn] at hf
  | some fn =>
    simp only [hfn] at hf
    cases hbody : fn.body with
    | none => simp [hbody] at hf
    | some c =>
      simp only [hbody] at hf
      cases hres : compRes P fn.results.toList with
      | none => simp [hres] at hf
      | some rs =>
        simp only [hres] at hf
        split at hf
        · cases hf
        · rename_i hname
          cases hf
          simp only at hl hb
          refine ⟨⟨fn, hfn, by simpa using hname, by rw [hbody]; rfl⟩, ?_⟩
          intro μ cargs w H hv
          have hlen : cargs.length ≤ fn.ntmps := by rw [← hv.1]; exact hl
          have hsz : (cargs.toArray ++ Array.replicate (fn.ntmps - cargs.toArray.size) undef).size = fn.ntmps := by simp; omega
          have hR : Rel W fn.ntmps μ ⟨envOf 0 args .lf, h⟩ { tmps := cargs.toArray ++ Array.replicate (fn.ntmps - cargs.toArray.size) undef, defers := [] } w := by
            refine ⟨H, ?_, hsz, rfl⟩
            intro t
            rw [envOf_get]
            simp only [Array.getD_eq_getD_getElem?, Array.getElem?_append, List.size_toArray, Nat.zero_le, true_and, Nat.zero_add, Nat.sub_zero]
            by_cases ht : t < args.length
            · rw [if_pos ht, if_pos (by rw [← hv.1]; exact ht)]
              obtain ⟨v', h1, h2⟩ := hv.2 t args[t] (by simp [ht])
              simp [List.getD_eq_getElem?_getD, ht, h1, h2]
            · rw [if_neg ht, if_neg (by rw [← hv.1]; exact ht), Array.getElem?_replicate]
              have : eget (Tr.lf : Env) t = undef := rfl
              rw [this]
              split <;> exact VR.undef
          refine calls_of_wp hfn hbody (wp_mono (hb c rfl μ _ w hR) ?_)
          rintro e a' w' ⟨σ', μ', hR', he, hn, hen, vs, hvs, hRv⟩
          obtain ⟨vs', hrun, hvr⟩ := res_run hR' hres hvs
          have hresults : (results fn a'.tmps).run P w' = .ok (resOf vs') w' := by
            unfold results
            rw [Sem.run_bind, Array.mapM_eq_mapM_toList, Sem.run_map]
            show (((Sem.run P (List.mapM (resF a'.tmps) fn.results.toList) w').andThen _).andThen _) = _
            rw [hrun, Result.andThen_ok, Result.andThen_ok, Sem.run_pure]
            congr 1
            unfold resOf
            match vs' with
            | [] => rfl
            | [v] => rfl
            | _ :: _ :: _ => rfl
          have hvres : VR μ' (resOf vs) (resOf vs') := by
            cases vs with
            | nil =>
              have : vs' = [] := List.eq_nil_of_length_eq_zero (by have := hvr.1; simpa using this.symm)
              subst this
              exact VRs.nil.tuple
            | cons x l =>
              cases vs' with
              | nil => have := hvr.1; simp at this
              | cons y l' =>
                cases l with
                | nil =>
                  have : l' = [] := List.eq_nil_of_length_eq_zero (by have := hvr.1; simpa using this.symm)
                  subst this
                  obtain ⟨z, hz, hzr⟩ := hvr.2 0 x rfl
                  simp at hz; subst hz
                  exact hzr
                | cons x2 l2 =>
                  cases l' with
                  | nil => have := hvr.1; simp at this
                  | cons y2 l2' => exact hvr.tuple
          have post : a'.defers = [] ∧ ∃ v, (results fn a'.tmps).run P w' = .ok v w' ∧ (∃ v2 v' h' μ', Ending.returned v = .returned v' ∧ VR μ' v2 v' ∧ HR W μ' h' w' ∧ Ext μ h.next μ' ∧ h.next ≤ h'.next ∧ R v2 h') :=
            ⟨hR'.nd, _, hresults, resOf vs, resOf vs', σ'.h, μ', rfl, hvres, hR'.hr, he, hn, hRv⟩
          rcases hen with rfl | rfl
          · exact post
          · exact post
end
end Go.Mach
end
section
set_option linter.unusedSimpArgs false
set_option linter.unusedVariables false
namespace Go.Mach
open Go Go.RowKit
theorem bytes_eq {a b : ByteArray} (h : (a.data.toList == b.data.toList) = true) : a = b := by
  have : a.data.toList = b.data.toList := by simpa using h
  cases a; cases b
  congr 1
  exact Array.ext' this
theorem veq_veqs_sound : ∀ n, (∀ v w, veq n v w = true → v = w) ∧ (∀ xs ys, veqs n xs ys = true → xs = ys)
  | 0 => ⟨fun v w h => by simp [veq] at h, fun xs ys h => by simp [veqs] at h⟩
  | n + 1 => by
    obtain ⟨ih1, ih2⟩ := veq_veqs_sound n
    have arr : ∀ {xs ys : Array Value}, veqs n xs.toList ys.toList = true → xs = ys := fun h => Array.ext' (ih2 _ _ h)
    constructor
    · intro v w h
      unfold veq at h
      split at h <;> try (first | (cases h; done) | rfl)
      · congr 1; simpa using h
      · simp only [Bool.and_eq_true, decide_eq_true_eq, beq_iff_eq] at h; obtain ⟨rfl, rfl⟩ := h; rfl
      · congr 1; exact bytes_eq h
      · simp only [decide_eq_true_eq] at h; rw [h]
      · simp only [Bool.and_eq_true, Tr.nbeq, decide_eq_true_eq] at h; obtain ⟨rfl, rfl⟩ := h; rfl
      · simp only [Bool.and_eq_true, Tr.nbeq, decide_eq_true_eq] at h; obtain ⟨⟨rfl, rfl⟩, rfl⟩ := h; rfl
      · simp only [Tr.nbeq, decide_eq_true_eq] at h; rw [h]
      · simp only [Bool.and_eq_true, Tr.nbeq, decide_eq_true_eq] at h
        obtain ⟨⟨rfl, h2⟩, h3⟩ := h
        rw [arr h2, arr h3]
      · rw [arr h]
      · rw [arr h]
    · intro xs ys h
      unfold veqs at h
      split at h
      · rfl
      · simp only [Bool.and_eq_true] at h
        rw [ih1 _ _ h.1, ih2 _ _ h.2]
      · cases h
theorem veq_sound {n : Nat} {v w : Value} (h : veq n v w = true) : v = w := (veq_veqs_sound n).1 v w h
theorem veqs_sound {n : Nat} {v w : List Value} (h : veqs n v w = true) : v = w := (veq_veqs_sound n).2 v w h
section
variable {P : Program} {W : World} {n : Nat}
theorem chkB_sound {σ : St} {o : ROper} (h : chkB W σ o = true) : Chk W σ o := by
  unfold chkB at h
  unfold Chk
  cases hw : wantedA σ.e o.guard with
  | false =>
    simp only [hw, cond_false] at h
    simp only [Bool.false_eq_true, if_false]
    exact veq_sound h
  | true =>
    simp only [hw, cond_true] at h
    simp only [if_true]
    cases hk : kindOf o.op with
    | none => rw [hk] at h; cases h
    | some q =>
      cases q with
      | zero =>
        simp only [hk] at h ⊢
        split at h
        · rename_i v h' hr
          rw [hr, kind0_heap hk hr, veq_sound h]
        · cases h
      | succ q =>
        simp only [hk] at h ⊢
        split at h
        · rename_i l l' hm hg
          simp only [Bool.and_eq_true] at h
          obtain ⟨⟨h1, h2⟩, h3⟩ := h
          have := veqs_sound h3
          subst this
          exact ⟨l', hm, veq_sound h1, Nat.le_of_ble_eq_true h2, hg⟩
        · cases h
def Ex.toExit : Ex → Exit
  | .normal => .normal
  | .exit id => .exit id
  | .ret => .ret
def CFok (P : Program) (W : World) (cf : CF) : Prop := ∀ f args h v h', cf f args h = some (v, h') → ACalls P W f args h fun v2 h2 => v2 = v ∧ h2 = h'
theorem xop_sound {cf : CF} (hcf : CFok P W cf) {o : ROper} {σ σ' : St} (h : xop W cf o σ = some σ') : AOp P W o (fun σ2 => σ2 = σ') σ := by
  unfold xop at h
  unfold AOp
  cases hw : wantedA σ.e o.guard with
  | false => simp only [hw, cond_false] at h; cases h; simp
  | true =>
    simp only [hw, cond_true] at h
    simp only [if_true]
    cases hop : o.op with
    | call f args =>
      simp only [hop] at h ⊢
      split at h
      · rename_i fid fs cap hf
        cases he : fs.toList.isEmpty with
        | false => simp [he] at h
        | true =>
          simp only [he, cond_true] at h
          split at h
          · rename_i v h' hc
            cases h
            have : fs = #[] := Array.ext' (by simpa using he)
            subst this
            exact ⟨fid, cap, hf, (hcf _ _ _ _ _ hc).mono fun v2 h2 ⟨e1, e2⟩ => by rw [e1, e2]⟩
          · cases h
      · cases h
    | _ =>
      simp only [hop] at h ⊢
      split at h
      · rename_i v h' hr
        cases h
        exact ⟨v, h', hr, rfl⟩
      · cases h
theorem AOp.mono {o : ROper} {K K' : St → Prop} {σ : St} (h : AOp P W o K σ) (hk : ∀ σ, K σ → K' σ) : AOp P W o K' σ := by
  unfold AOp at h ⊢
  split
  · rename_i hw
    rw [if_pos hw] at h
    cases hop : o.op with
    | call f args =>
      simp only [hop] at h ⊢
      obtain ⟨fid, cap, h1, h2⟩ := h
      exact ⟨fid, cap, h1, h2.mono fun _ _ => hk _⟩
    | _ =>
      simp only [hop] at h ⊢
      obtain ⟨v, h', h1, h2⟩ := h
      exact ⟨v, h', h1, hk _ h2⟩
  · rename_i hw
    rw [if_neg hw] at h
    exact hk _ h
theorem xops_sound {cf : CF} (hcf : CFok P W cf) : ∀ {os : List ROper} {σ σ' : St}, xops W cf os σ = some σ' → AOps P W os (fun σ2 => σ2 = σ') σ
  | [], σ, σ', h => by simp [xops] at h; exact h
  | o :: os, σ, σ', h => by
    unfold xops at h
    split at h
    · rename_i σ1 h1
      exact (xop_sound hcf h1).mono fun σ2 e => by rw [e]; exact xops_sound hcf h
    · cases h
theorem allGe_sound {n : Nat} : ∀ {l : List Nat}, allGe n l = true → ∀ i ∈ l, n ≤ i
  | [], _, i, h => by simp at h
  | j :: l, h, i, hi => by
    simp only [allGe, Bool.and_eq_true, Nat.ble_eq] at h
    rcases List.mem_cons.1 hi with rfl | hi
    · exact h.1
    · exact allGe_sound h.2 i hi
theorem distinct_sound : ∀ {l : List Nat}, distinct l = true → l.Nodup
  | [], _ => List.nodup_nil
  | j :: l, h => by
    simp only [distinct, Bool.and_eq_true, Bool.not_eq_true'] at h
    rw [List.nodup_cons]
    refine ⟨fun hm => ?_, distinct_sound h.2⟩
    rw [List.contains_iff_mem.2 hm] at h
    cases h.1
theorem xdraws_sound {cf : CF} (hcf : CFok P W cf) : ∀ {sts : List Stage} {σ σ' : St}, xdraws W cf sts σ = some σ' → DOps P W sts (fun σ2 => σ2 = σ') σ
  | [], σ, σ', h => by simp [xdraws] at h
  | s :: ss, σ, σ', h => by
    unfold xdraws at h
    split at h
    · rename_i σ1 h1
      cases hc : (s.chk.all (chkB W σ1) && allGe σ.h.next (mkIds σ1.e s.ops) && distinct (mkIds σ1.e s.chk)) with
      | false => simp [hc] at h
      | true =>
        simp only [hc, cond_true] at h
        simp only [Bool.and_eq_true, List.all_eq_true] at hc
        obtain ⟨⟨c1, c2⟩, c3⟩ := hc
        refine ⟨σ1, h1, fun o ho => chkB_sound (c1 o ho), allGe_sound c2, distinct_sound c3, ?_⟩
        cases he : s.eff with
        | none => simp only [he] at h ⊢; cases h; rfl
        | some o =>
          simp only [he] at h ⊢
          split at h
          · rename_i σ2 h2
            exact (xop_sound hcf h2).mono fun σ3 e => by rw [e]; exact xdraws_sound hcf h
          · cases h
    · cases h
theorem RWP.of_eq {rc : RCode} {Q : Exit → St → Prop} {σ σ' : St} {e : Exit} (h : RWP P W n rc (fun e2 σ2 => e2 = e ∧ σ2 = σ') σ) (hq : Q e σ') : RWP P W n rc Q σ :=
  h.mono fun e2 σ2 ⟨h1, h2⟩ => by rw [h1, h2]; exact hq
theorem exec_sound (hmix : P.follows .mixedOrders = true) {cf : CF} (hcf : CFok P W cf) {N : Nat} : ∀ (rc : RCode) (σ : St) (e : Ex) (σ' : St), exec W cf N rc σ = some (e, σ') →
    RWP P W n rc (fun e2 σ2 => e2 = e.toExit ∧ σ2 = σ') σ
  | .skip, σ, e, σ', h => by simp only [exec] at h; cases h; exact RWP.skip ⟨rfl, rfl⟩
  | .region os, σ, e, σ', h => by
    simp only [exec] at h
    split at h
    · rename_i σ1 h1
      cases h
      have := xops_sound hcf h1
      refine RWP.region ?_
      have key : ∀ (os : List ROper) (K K' : St → Prop) (σ : St), (∀ σ, K σ → K' σ) → AOps P W os K σ → AOps P W os K' σ := by
        intro os
        induction os with
        | nil => intro K K' σ hk h; exact hk _ h
        | cons o os ih => intro K K' σ hk h; exact AOp.mono h fun σ hσ => ih K K' σ hk hσ
      exact key os _ _ σ (fun σ e => ⟨rfl, e⟩) this
    · cases h
  | .draws sts, σ, e, σ', h => by
    simp only [exec] at h
    split at h
    · rename_i σ1 h1
      cases h
      have := xdraws_sound hcf h1
      refine RWP.draws hmix ?_
      have key : ∀ (ss : List Stage) (K K' : St → Prop) (σ : St), (∀ σ, K σ → K' σ) → DOps P W ss K σ → DOps P W ss K' σ := by
        intro ss
        induction ss with
        | nil => intro K K' σ hk h; exact h
        | cons s ss ih =>
          intro K K' σ hk ⟨σ1, h1, h2, h3, h4, h5⟩
          refine ⟨σ1, h1, h2, h3, h4, ?_⟩
          cases he : s.eff with
          | none => simp only [he] at h5 ⊢; exact hk _ h5
          | some o => simp only [he] at h5 ⊢; exact AOp.mono h5 fun σ hσ => ih K K' σ hk hσ
      exact key sts _ _ σ (fun σ e => ⟨rfl, e⟩) this
    · cases h
  | .seq a b, σ, e, σ', h => by
    simp only [exec] at h
    refine RWP.seq ?_
    cases ha : exec W cf N a σ with
    | none => rw [ha] at h; cases h
    | some r =>
      obtain ⟨e1, σ1⟩ := r
      rw [ha] at h
      have iha := exec_sound hmix hcf a σ e1 σ1 ha
      cases e1 with
      | normal => exact iha.of_eq (exec_sound hmix hcf b σ1 e σ' h)
      | exit id => cases h; exact iha.of_eq ⟨rfl, rfl⟩
      | ret => cases h; exact iha.of_eq ⟨rfl, rfl⟩
  | .cond c a b, σ, e, σ', h => by
    simp only [exec] at h
    split at h
    · rename_i t ht
      refine RWP.cond ht ?_
      cases t with
      | true => simp only [cond_true] at h; simp only [if_true]; exact exec_sound hmix hcf a σ e σ' h
      | false => simp only [cond_false] at h; simp only [Bool.false_eq_true, if_false]; exact exec_sound hmix hcf b σ e σ' h
    · cases h
  | .block id c, σ, e, σ', h => by
    simp only [exec] at h
    refine RWP.block ?_
    cases ha : exec W cf N c σ with
    | none => rw [ha] at h; cases h
    | some r =>
      obtain ⟨e1, σ1⟩ := r
      rw [ha] at h
      have iha := exec_sound hmix hcf c σ e1 σ1 ha
      cases e1 with
      | normal => cases h; exact iha.of_eq ⟨rfl, rfl⟩
      | exit id' =>
        simp only at h
        refine iha.of_eq ?_
        show (if id' = id then _ else _)
        rw [Bool.cond_eq_ite, Tr.nbeq] at h
        by_cases he : id' = id
        · simp only [he, decide_true, if_true] at h ⊢
          cases h; exact ⟨rfl, rfl⟩
        · simp only [he, decide_false, Bool.false_eq_true, if_false] at h ⊢
          cases h; exact ⟨rfl, rfl⟩
      | ret => cases h; exact iha.of_eq ⟨rfl, rfl⟩
  | .loop c, σ, e, σ', h => by
    simp only [exec] at h
    refine RWP.loop (fun k σ1 => iter (exec W cf N c) k σ1 = some (e, σ')) N h ?_
    intro k σ1 hk
    cases k with
    | zero => simp [iter] at hk
    | succ k =>
      unfold iter at hk
      cases ha : exec W cf N c σ1 with
      | none => rw [ha] at hk; cases hk
      | some r =>
        obtain ⟨e1, σ2⟩ := r
        rw [ha] at hk
        have iha := exec_sound hmix hcf c σ1 e1 σ2 ha
        cases e1 with
        | normal => exact iha.of_eq ⟨k, Nat.lt_succ_self k, hk⟩
        | exit id => cases hk; exact iha.of_eq ⟨rfl, rfl⟩
        | ret => cases hk; exact iha.of_eq ⟨rfl, rfl⟩
  | .exit id, σ, e, σ', h => by simp only [exec] at h; cases h; exact RWP.exit ⟨rfl, rfl⟩
  | .ret, σ, e, σ', h => by simp only [exec] at h; cases h; exact RWP.ret ⟨rfl, rfl⟩
  | .fail, σ, e, σ', h => by simp only [exec] at h; cases h
theorem callX_sound (hmix : P.follows .mixedOrders = true) {T : FuncId → Option RFunc} (hT : ∀ f rf, T f = some rf → compFn P f = some rf) {O : CF} (hO : CFok P W O) (N : Nat) : ∀ d, CFok P W (callX W T O N d)
  | 0, f, args, h, v, h', hc => by simp [callX] at hc
  | d + 1, f, args, h, v, h', hc => by
    unfold callX at hc
    cases ho : O f args h with
    | some r => rw [ho] at hc; cases hc; exact hO f args h v h' ho
    | none =>
      rw [ho] at hc
      simp only at hc
      cases hf : T f with
      | none => rw [hf] at hc; cases hc
      | some rf =>
        rw [hf] at hc
        simp only at hc
        cases hl : Nat.ble args.length rf.ntmps with
        | false => simp [hl] at hc
        | true =>
          simp only [hl, cond_true] at hc
          have hcf := callX_sound hmix hT hO N d
          have fin : ∀ (e : Ex) (σ : St), (e = .normal ∨ e = .ret) → exec W (callX W T O N d) N rf.body ⟨envOf 0 args .lf, h⟩ = some (e, σ) →
              (match resVals W σ rf.res with | some vs => some (resOf vs, σ.h) | none => none) = some (v, h') → ACalls P W f args h fun v2 h2 => v2 = v ∧ h2 = h' := by
            intro e σ he hx hr
            refine ACalls_of (hT f rf hf) (Nat.le_of_ble_eq_true hl) ((exec_sound hmix hcf rf.body _ e σ hx).of_eq ?_)
            split at hr
            · rename_i vs hvs
              cases hr
              refine ⟨?_, vs, hvs, rfl, rfl⟩
              rcases he with rfl | rfl
              · exact .inl rfl
              · exact .inr rfl
            · cases hr
          cases hx : exec W (callX W T O N d) N rf.body ⟨envOf 0 args .lf, h⟩ with
          | none => rw [hx] at hc; cases hc
          | some r =>
            obtain ⟨e, σ⟩ := r
            rw [hx] at hc
            cases e with
            | normal => exact fin .normal σ (.inl rfl) hx hc
            | ret => exact fin .ret σ (.inr rfl) hx hc
            | exit id => cases hc
theorem HR.start (W : World) : HR W (fun _ => none) AHeap.empty W :=
  ⟨Below.refl _ _, fun i p h => by (cases h), fun i _ => rfl, fun i p b h => by (cases h), fun i j p q b c h => by (cases h)⟩
theorem ACalls.calls {f : FuncId} {args : List Value} {R : Value → AHeap → Prop} (hc : ACalls P W f args AHeap.empty R) (hp : ∀ v ∈ args, VR (fun _ => none) v v) :
    Calls P f args.toArray W fun e w' => ∃ v v' h' μ', e = .returned v' ∧ VR μ' v v' ∧ HR W μ' h' w' ∧ R v h' :=
  (hc.2 (fun _ => none) args W (HR.start W) ⟨rfl, fun i v hv => ⟨v, hv, hp v (List.mem_of_getElem? hv)⟩⟩).mono fun e w' ⟨v, v', h', μ', h1, h2, h3, _, _, h6⟩ => ⟨v, v', h', μ', h1, h2, h3, h6⟩
end
end Go.Mach
end
section
set_option linter.unusedSimpArgs false
set_option linter.unusedVariables false
namespace Go.Mach
open Go Go.RowKit
section
variable (P : Program) (W : World) (n : Nat)
def WPX : RCode → (Exit → St → Prop) → St → Prop
  | .skip, Q, σ => Q .normal σ
  | .region os, Q, σ => AOps P W os (Q .normal) σ
  | .draws sts, Q, σ => DOps P W sts (Q .normal) σ
  | .seq a b, Q, σ => WPX a (thenS (WPX b Q) Q) σ
  | .cond c a b, Q, σ => ∃ t, opd σ.e c = .bool t ∧ (if t = true then WPX a Q σ else WPX b Q σ)
  | .block id c, Q, σ => WPX c (blockS id Q) σ
  | .loop c, Q, σ => RWP P W n (.loop c) Q σ
  | .exit id, Q, σ => Q (.exit id) σ
  | .ret, Q, σ => Q .ret σ
  | .fail, _, _ => False
end
section
variable {P : Program} {W : World} {n : Nat}
theorem WPX.mono : ∀ (rc : RCode) {Q Q' : Exit → St → Prop} {σ : St}, WPX P W n rc Q σ → (∀ e σ, Q e σ → Q' e σ) → WPX P W n rc Q' σ
  | .skip, Q, Q', σ, h, hq => hq _ _ h
  | .region os, Q, Q', σ, h, hq => by
    unfold WPX at *
    induction os generalizing σ with
    | nil => exact hq _ _ h
    | cons o os ih =>
      simp only [AOps, AOp] at *
      split at h
      · rename_i hw
        simp only [hw, if_true]
        cases hop : o.op with
        | call f args =>
          simp only [hop] at h
          obtain ⟨fid, cap, h1, h2⟩ := h
          exact ⟨fid, cap, h1, h2.mono fun v h' hk => ih _ hk⟩
        | _ =>
          simp only [hop] at h
          obtain ⟨v, h', h1, h2⟩ := h
          exact ⟨v, h', h1, ih _ h2⟩
      · rename_i hw
        simp only [hw]
        exact ih _ h
  | .draws sts, Q, Q', σ, h, hq => by
    unfold WPX at *
    induction sts generalizing σ with
    | nil => exact h.elim
    | cons s ss ih =>
      simp only [DOps] at *
      obtain ⟨σ1, h1, h2, h3, h4, h5⟩ := h
      refine ⟨σ1, h1, h2, h3, h4, ?_⟩
      cases he : s.eff with
      | none => simp only [he] at h5 ⊢; exact hq _ _ h5
      | some o =>
        simp only [he, AOp] at h5 ⊢
        split at h5
        · rename_i hw
          simp only [hw, if_true]
          cases hop : o.op with
          | call f args =>
            simp only [hop] at h5
            obtain ⟨fid, cap, g1, g2⟩ := h5
            exact ⟨fid, cap, g1, g2.mono fun v h' hk => ih _ hk⟩
          | _ =>
            simp only [hop] at h5
            obtain ⟨v, h', g1, g2⟩ := h5
            exact ⟨v, h', g1, ih _ g2⟩
        · rename_i hw
          simp only [hw]
          exact ih _ h5
  | .seq a b, Q, Q', σ, h, hq => by
    unfold WPX at *
    refine WPX.mono a h fun e σ hh => ?_
    cases e <;> simp only [thenS] at *
    · exact WPX.mono b hh hq
    all_goals exact hq _ _ hh
  | .cond c a b, Q, Q', σ, h, hq => by
    unfold WPX at *
    obtain ⟨t, h1, h2⟩ := h
    refine ⟨t, h1, ?_⟩
    split at h2
    · rename_i ht; simp only [ht, if_true]; exact WPX.mono a h2 hq
    · rename_i ht; simp only [ht]; exact WPX.mono b h2 hq
  | .block id c, Q, Q', σ, h, hq => by
    unfold WPX at *
    refine WPX.mono c h fun e σ hh => ?_
    cases e <;> simp only [blockS] at * <;> try exact hq _ _ hh
    split at hh
    · rename_i hi; simp only [hi, if_true]; exact hq _ _ hh
    · rename_i hi; simp only [hi, if_false]; exact hq _ _ hh
  | .loop c, Q, Q', σ, h, hq => by unfold WPX at *; exact h.mono hq
  | .exit id, Q, Q', σ, h, hq => by unfold WPX at *; exact hq _ _ h
  | .ret, Q, Q', σ, h, hq => by unfold WPX at *; exact hq _ _ h
  | .fail, Q, Q', σ, h, hq => h.elim
theorem WPX.sound (hmix : P.follows .mixedOrders = true) : ∀ (rc : RCode) {Q : Exit → St → Prop} {σ : St}, WPX P W n rc Q σ → RWP P W n rc Q σ
  | .skip, Q, σ, h => RWP.skip h
  | .region os, Q, σ, h => RWP.region h
  | .draws sts, Q, σ, h => RWP.draws hmix h
  | .seq a b, Q, σ, h => by
    unfold WPX at h
    refine RWP.seq (RWP.mono (WPX.sound hmix a h) fun e σ hh => ?_)
    cases e <;> simp only [thenS] at *
    · exact WPX.sound hmix b hh
    all_goals exact hh
  | .cond c a b, Q, σ, h => by
    unfold WPX at h
    obtain ⟨t, h1, h2⟩ := h
    refine RWP.cond h1 ?_
    cases t
    · exact WPX.sound hmix b h2
    · exact WPX.sound hmix a h2
  | .block id c, Q, σ, h => by unfold WPX at h; exact RWP.block (WPX.sound hmix c h)
  | .loop c, Q, σ, h => h
  | .exit id, Q, σ, h => RWP.exit h
  | .ret, Q, σ, h => RWP.ret h
  | .fail, Q, σ, h => h.elim
theorem WPX.loop (hmix : P.follows .mixedOrders = true) {x : RCode} {Q : Exit → St → Prop} {σ : St} (I : Nat → St → Prop) (k0 : Nat) (h0 : I k0 σ)
    (round : ∀ k σ, I k σ → WPX P W n x (thenS (fun σ' => ∃ k', k' < k ∧ I k' σ') Q) σ) : WPX P W n (.loop x) Q σ := by
  unfold WPX
  exact RWP.loop I k0 h0 fun k σ hI => WPX.sound hmix x (round k σ hI)
theorem ACalls_ofX (hmix : P.follows .mixedOrders = true) {f : FuncId} {rf : RFunc} (hf : compFn P f = some rf) {args : List Value} (hl : args.length ≤ rf.ntmps) {h : AHeap} {R : Value → AHeap → Prop}
    (hb : WPX P W rf.ntmps rf.body (fun e σ' => (e = .normal ∨ e = .ret) ∧ ∃ vs, resVals W σ' rf.res = some vs ∧ R (resOf vs) σ'.h) ⟨envOf 0 args .lf, h⟩) : ACalls P W f args h R :=
  ACalls_of hf hl (WPX.sound hmix _ hb)
end
end Go.Mach
end
section
set_option linter.unusedSimpArgs false
set_option linter.unusedVariables false
namespace Go.Mach
open Go Go.RowKit
def notCall : ROp → Bool
  | .call _ _ => false
  | _ => true
section
variable {P : Program} {W : World} {n : Nat}
theorem ops_nil {K : St → Prop} {σ : St} (h : K σ) : AOps P W [] K σ := h
theorem ops_do {e : Env} {h h' : AHeap} {d : Option Nat} {op : ROp} {g : Option (Nat × Bool)} {os : List ROper} {K : St → Prop} {v : Value}
    (hw : wantedA e g = true) (hr : rop W (opd e) h op = some (v, h')) (hn : notCall op = true) (hK : AOps P W os K ⟨eput e d v, h'⟩) : AOps P W (⟨d, op, g⟩ :: os) K ⟨e, h⟩ := by
  show AOp P W _ _ _
  unfold AOp
  simp only [hw, if_true]
  cases op <;> first | (cases hn; done) | exact ⟨v, h', hr, hK⟩
theorem ops_do0 {e : Env} {h h' : AHeap} {d : Option Nat} {op : ROp} {os : List ROper} {K : St → Prop} {v : Value}
    (hr : rop W (opd e) h op = some (v, h')) (hn : notCall op = true) (hK : AOps P W os K ⟨eput e d v, h'⟩) : AOps P W (⟨d, op, none⟩ :: os) K ⟨e, h⟩ := ops_do rfl hr hn hK
theorem ops_call {e : Env} {h : AHeap} {d : Option Nat} {f : Operand} {args : List Operand} {g : Option (Nat × Bool)} {os : List ROper} {K : St → Prop} {fid : FuncId} {cap : Array Value} {R : Value → AHeap → Prop}
    (hw : wantedA e g = true) (hf : opd e f = .func (.func fid) #[] cap) (hc : ACalls P W fid (args.map (opd e) ++ cap.toList) h R) (hK : ∀ v h', R v h' → AOps P W os K ⟨eput e d v, h'⟩) : AOps P W (⟨d, .call f args, g⟩ :: os) K ⟨e, h⟩ := by
  show AOp P W _ _ _
  unfold AOp
  simp only [hw, if_true]
  exact ⟨fid, cap, hf, hc.mono hK⟩
theorem x_skip {Q : Exit → St → Prop} {σ : St} (h : Q .normal σ) : WPX P W n .skip Q σ := h
theorem x_region {os : List ROper} {Q : Exit → St → Prop} {σ : St} (h : AOps P W os (Q .normal) σ) : WPX P W n (.region os) Q σ := h
theorem x_draws {sts : List Stage} {Q : Exit → St → Prop} {σ : St} (h : DOps P W sts (Q .normal) σ) : WPX P W n (.draws sts) Q σ := h
theorem x_seq {a b : RCode} {Q : Exit → St → Prop} {σ : St} (h : WPX P W n a (thenS (WPX P W n b Q) Q) σ) : WPX P W n (.seq a b) Q σ := h
theorem x_block {id : Nat} {c : RCode} {Q : Exit → St → Prop} {σ : St} (h : WPX P W n c (blockS id Q) σ) : WPX P W n (.block id c) Q σ := h
theorem x_exit {id : Nat} {Q : Exit → St → Prop} {σ : St} (h : Q (.exit id) σ) : WPX P W n (.exit id) Q σ := h
theorem x_ret {Q : Exit → St → Prop} {σ : St} (h : Q .ret σ) : WPX P W n .ret Q σ := h
theorem t_normal {K : St → Prop} {Q : Exit → St → Prop} {σ : St} (h : K σ) : thenS K Q .normal σ := h
theorem t_exit {id : Nat} {K : St → Prop} {Q : Exit → St → Prop} {σ : St} (h : Q (.exit id) σ) : thenS K Q (.exit id) σ := h
theorem t_ret {K : St → Prop} {Q : Exit → St → Prop} {σ : St} (h : Q .ret σ) : thenS K Q .ret σ := h
theorem b_normal {id : Nat} {Q : Exit → St → Prop} {σ : St} (h : Q .normal σ) : blockS id Q .normal σ := h
theorem b_ret {id : Nat} {Q : Exit → St → Prop} {σ : St} (h : Q .ret σ) : blockS id Q .ret σ := h
theorem b_same {id : Nat} {Q : Exit → St → Prop} {σ : St} (h : Q .normal σ) : blockS id Q (.exit id) σ := by unfold blockS; simp only [if_true]; exact h
theorem b_other {id id' : Nat} {Q : Exit → St → Prop} {σ : St} (hne : Nat.beq id' id = false) (h : Q (.exit id') σ) : blockS id Q (.exit id') σ := by
  have : ¬ id' = id := fun e => by subst e; simp at hne
  unfold blockS; simp only [this, if_false]; exact h
end
theorem aload1_own (W : World) (h : AHeap) (i o q : Nat) : aload1 W h ⟨i, o, some q⟩ = match h.own.get i with | some (.cells c) => c[o]? | _ => none := rfl
theorem one_ne_zero_nat : ¬ (1 : Nat) = 0 := by decide
theorem astore_own (h : AHeap) (i o q : Nat) (vs : List Value) : astore h ⟨i, o, some q⟩ vs = match h.own.get i with | some (.cells c) => bif Nat.ble (o + vs.length) c.length && vs.all oneV then some (h.put i (.cells (splice c o vs))) else none | _ => none := rfl
theorem ble_of_le {a b : Nat} (h : a ≤ b) : Nat.ble a b = true := Nat.ble_eq_true_of_le h
theorem beq_tf : (true == false) = false := rfl
theorem beq_ft : (false == true) = false := rfl
theorem int_beq (a b : Int) : (a == b) = decide (a = b) := by by_cases h : a = b <;> simp [h]
theorem int_bne (a b : Int) : (a != b) = !decide (a = b) := by by_cases h : a = b <;> simp [h]
theorem eget_lf (t : Nat) : eget .lf t = undef := rfl
theorem envOf1 (v : Value) : envOf 0 [v] .lf = eput .lf (some 0) v := rfl
theorem envOf2 (v u : Value) : envOf 0 [v, u] .lf = eput (eput .lf (some 0) v) (some 1) u := rfl
end Go.Mach
end
section
set_option linter.unusedSimpArgs false
set_option linter.unusedVariables false
namespace Go.Mach
open Go Go.RowKit
theorem AHeap.new_next (h : AHeap) (b : ABlk) : (h.new b).next = h.next + 1 := rfl
theorem AHeap.put_next (h : AHeap) (i : Nat) (b : ABlk) : (h.put i b).next = h.next := rfl
theorem AHeap.new_get (h : AHeap) (b : ABlk) (i : Nat) : (h.new b).own.get i = if i = h.next then some b else h.own.get i := by
  unfold AHeap.new; simp only [Tr.get_set]
theorem AHeap.put_get (h : AHeap) (j : Nat) (b : ABlk) (i : Nat) : (h.put j b).own.get i = if i = j then some b else h.own.get i := by
  unfold AHeap.put; simp only [Tr.get_set]
theorem wrap_i64 {x : Int} (h1 : -9223372036854775808 ≤ x) (h2 : x < 9223372036854775808) : IntKind.i64.wrap x = x := by
  have e1 : ((2 : Int) ^ IntKind.i64.bits) = 18446744073709551616 := by decide
  have e2 : ((2 : Int) ^ (IntKind.i64.bits - 1)) = 9223372036854775808 := by decide
  simp only [IntKind.wrap, e1, e2, IntKind.signed, Bool.true_and, decide_eq_true_eq]
  split <;> omega
theorem wrap_i32 {x : Int} (h1 : -2147483648 ≤ x) (h2 : x < 2147483648) : IntKind.i32.wrap x = x := by
  have e1 : ((2 : Int) ^ IntKind.i32.bits) = 4294967296 := by decide
  have e2 : ((2 : Int) ^ (IntKind.i32.bits - 1)) = 2147483648 := by decide
  simp only [IntKind.wrap, e1, e2, IntKind.signed, Bool.true_and, decide_eq_true_eq]
  split <;> omega
structure Keeps (h h' : AHeap) : Prop where
  le : h.next ≤ h'.next
  same : ∀ i, i < h.next → h'.own.get i = h.own.get i
theorem Keeps.refl (h : AHeap) : Keeps h h := ⟨Nat.le_refl _, fun _ _ => rfl⟩
theorem Keeps.trans {a b c : AHeap} (h : Keeps a b) (k : Keeps b c) : Keeps a c := ⟨Nat.le_trans h.le k.le, fun i hi => (k.same i (Nat.lt_of_lt_of_le hi h.le)).trans (h.same i hi)⟩
theorem Keeps.new {a h : AHeap} (k : Keeps a h) (b : ABlk) : Keeps a (h.new b) :=
  ⟨Nat.le_trans k.le (by rw [AHeap.new_next]; omega), fun i hi => by rw [AHeap.new_get, if_neg (by have := k.le; omega)]; exact k.same i hi⟩
theorem Keeps.put {a h : AHeap} (k : Keeps a h) {j : Nat} (hj : a.next ≤ j) (b : ABlk) : Keeps a (h.put j b) :=
  ⟨k.le, fun i hi => by rw [AHeap.put_get, if_neg (by omega)]; exact k.same i hi⟩
def Rd (W : World) (h : AHeap) (a : Addr) (v : Value) : Prop := aload1 W h a = some v ∧ (a.spot ≠ none → a.block < h.next)
theorem Rd.keeps {W : World} {h h' : AHeap} {a : Addr} {v : Value} (hr : Rd W h a v) (k : Keeps h h') : Rd W h' a v := by
  obtain ⟨h1, h2⟩ := hr
  refine ⟨?_, fun hs => Nat.lt_of_lt_of_le (h2 hs) k.le⟩
  unfold aload1 at *
  cases hs : a.spot with
  | none => simp only [hs] at h1 ⊢; exact h1
  | some q =>
    simp only [hs] at h1 ⊢
    rw [k.same _ (h2 (by simp [hs]))]
    exact h1
structure Sl (W : World) (h : AHeap) (esz : Nat) (v : Value) (l : List (List Value)) : Prop where
  is : ∃ a c, v = .slice a l.length c ∧ (∀ b, a = some b → (l = [] ∨ b.spot = none ∨ (b.spot = some 0 ∧ c = esz)) ∧ ∀ i x, l[i]? = some x → x.length = esz ∧ ∀ j u, x[j]? = some u → Rd W h (aadd b (i * esz + j)) u) ∧ (a = none → l = [] ∧ c = 0)
theorem Sl.keeps {W : World} {h h' : AHeap} {esz : Nat} {v : Value} {l : List (List Value)} (hs : Sl W h esz v l) (k : Keeps h h') : Sl W h' esz v l := by
  obtain ⟨a, c, h1, h2, h3⟩ := hs.is
  exact ⟨a, c, h1, fun b hb => ⟨(h2 b hb).1, fun i x hx => ⟨((h2 b hb).2 i x hx).1, fun j u hu => (((h2 b hb).2 i x hx).2 j u hu).keeps k⟩⟩, h3⟩
theorem Sl.len {W : World} {h : AHeap} {esz : Nat} {v : Value} {l : List (List Value)} (hs : Sl W h esz v l) : ∃ a c, v = .slice a l.length c := by
  obtain ⟨a, c, h1, _⟩ := hs.is; exact ⟨a, c, h1⟩
theorem Sl.at {W : World} {h : AHeap} {esz : Nat} {v : Value} {l : List (List Value)} (hs : Sl W h esz v l) {i : Nat} {x : List Value} (hx : l[i]? = some x) :
    ∃ a, idxV esz v (.int .i64 i) = some (.pointer (some a)) ∧ x.length = esz ∧ ∀ j u, x[j]? = some u → Rd W h (aadd a j) u := by
  obtain ⟨a, c, h1, h2, h3⟩ := hs.is
  have hi : i < l.length := (List.getElem?_eq_some_iff.1 hx).1
  cases a with
  | none => rw [(h3 rfl).1] at hi; simp at hi
  | some b =>
    obtain ⟨h4, h5⟩ := h2 b rfl
    obtain ⟨h6, h7⟩ := h5 i x hx
    refine ⟨aadd b (i * esz), ?_, h6, fun j u hu => ?_⟩
    · subst h1
      unfold idxV
      have hc : (b.spot.isNone || Nat.beq c esz) = true := by
        rcases h4 with h | h | ⟨h, h'⟩
        · rw [h] at hi; simp at hi
        · simp [h]
        · subst h'; simp
      simp [hc, hi]
    · have := h7 j u hu
      unfold aadd at *
      simpa [Nat.add_assoc] using this
theorem aloadN_of {W : World} {h : AHeap} : ∀ (x : List Value) (a : Addr), (∀ j u, x[j]? = some u → Rd W h (aadd a j) u) → aloadN W h a x.length = some x
  | [], a, _ => rfl
  | v :: x, a, hr => by
    have h0 := (hr 0 v rfl).1
    have h1 : aloadN W h (aadd a 1) x.length = some x := aloadN_of x (aadd a 1) fun j u hu => by
      have := hr (j + 1) u (by simpa using hu)
      unfold aadd at *
      simpa [Nat.add_assoc, Nat.add_comm 1 j] using this
    have h0' : aload1 W h a = some v := by simpa [aadd] using h0
    simp only [List.length_cons, aloadN, h0', h1]
end Go.Mach
end
