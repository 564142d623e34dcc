/- The abstract machine, part 18: the logic of the machine's code; functions. No condition. -/
import Derived.Test.YtlipmjpapkfaeaaGreatDoorM17
set_option linter.unusedSimpArgs false
set_option linter.unusedVariables false
namespace Go.Mach
open Go Go.RowKit

section
variable {P : Program} {W : World} {n : Nat}

theorem planOk_spec {ops : Array Oper} {ros : List ROper} (hc : compOpers P n ops ops.toList = some ros)
    (hok : planOk ops.toList ros (predsL ops.toList []) ((List.range ros.length).filter fun i => !isEff ops.toList ros (predsL ops.toList []) i) ((List.range ros.length).filter (isEff ops.toList ros (predsL ops.toList []))) = true) :
    PlanOk P n ops ros ((List.range ros.length).filter fun i => !isEff ops.toList ros (predsL ops.toList []) i) ((List.range ros.length).filter (isEff ops.toList ros (predsL ops.toList []))) (predsL ops.toList []) := by
  have hlen : ros.length = ops.size := by rw [(compOpers_spec hc).1]; simp
  generalize hpr : predsL ops.toList [] = pr at *
  unfold planOk at hok
  simp only [Bool.and_eq_true, List.all_eq_true, List.mem_range, Array.length_toList] at hok
  obtain ⟨⟨⟨⟨⟨h1, h2⟩, h3⟩, h4⟩, h5⟩, h6⟩ := hok
  have hmem : ∀ i, i < ops.size → (i ∈ (List.range ros.length).filter (isEff ops.toList ros pr) ↔ isEff ops.toList ros pr i = true) := by
    intro i hi; simp [hlen, hi]
  refine ⟨hc, hpr.symm, ?_, ?_, ?_, List.nodup_range.sublist List.filter_sublist, List.nodup_range.sublist List.filter_sublist, h1, ?_, ?_, ?_, ?_, ?_, ?_⟩
  · intro i hi
    cases he : isEff ops.toList ros pr i with
    | true => exact .inr ⟨(hmem i hi).2 he, by simp [he]⟩
    | false => exact .inl ⟨by simp [hlen, hi, he], by simp [he]⟩
  · intro i hi; simp at hi; omega
  · intro i hi; simp at hi; omega
  · intro i o ho j hj
    have hi : i < ops.size := by
      rcases Nat.lt_or_ge i ops.size with h | h
      · exact h
      · simp [Array.getElem?_eq_none h] at ho
    have := h2 i hi
    simp only [Array.getElem?_toList, ho, List.all_eq_true, decide_eq_true_eq] at this
    exact this j hj
  · intro j o ho t ht i hi r hr hd
    have hj : j < ops.size := by
      rcases Nat.lt_or_ge j ops.size with h | h
      · exact h
      · simp [Array.getElem?_eq_none h] at ho
    have := h3 j hj
    simp only [Array.getElem?_toList, ho, List.all_eq_true] at this
    have := this t ht i hi
    simp only [hr, Option.bind_some, hd, Bool.or_eq_true, bne_self_eq_false, Bool.false_eq_true, false_or, List.contains_iff_mem] at this
    exact this
  · intro i j r q hi hj hr hq hij d hrd hqd
    have := h4 j hj i hi
    simp only [hr, hq, Option.bind_some, hrd, hqd, Bool.or_eq_true, beq_iff_eq, bne_self_eq_false] at this
    rcases this with (h | h) | h
    · exact hij h
    · cases h
    · cases h
  · intro i hi r hr
    have := h5 i hi
    simp only [hr, Option.bind_some] at this
    exact Option.isSome_iff_exists.1 this
  · intro i hi r hr
    rw [List.mem_filter] at hi
    have hi2 := hi.2
    simp only [Bool.not_eq_true'] at hi2
    unfold isEff at hi2
    cases hk : kindOf r.op with
    | some q => exact ⟨q, rfl⟩
    | none =>
      exfalso
      simp only [hr, Option.bind_some, hk] at hi2
      cases hi2
  · intro k e he j hj
    have hk : k < ((List.range ros.length).filter (isEff ops.toList ros pr)).length := by
      rcases Nat.lt_or_ge k ((List.range ros.length).filter (isEff ops.toList ros pr)).length with h | h
      · exact h
      · rw [List.getElem?_eq_none h] at he; cases he
    have := h6 (k + 1) (by omega)
    simp only [List.all_eq_true, Bool.or_eq_true, List.contains_iff_mem] at this
    rcases this j hj with h | h
    · exact .inl h
    · right
      have hgd : ((List.range ros.length).filter (isEff ops.toList ros pr)).getD k 0 = e := by rw [List.getD_eq_getElem?_getD, he]; rfl
      rw [hgd] at h
      exact h

/-- THE LOGIC: whatever the real frame and world that the machine's state describes. -/
def RWP (P : Program) (W : World) (n : Nat) (rc : RCode) (Q : Exit → St → Prop) (σ : St) : Prop :=
  ∀ c, comp P n c = rc → ∀ μ a w, Rel W n μ σ a w → c.wp P (fun e a' w' => ∃ σ' μ', Rel W n μ' σ' a' w' ∧ Ext μ σ.h.next μ' ∧ σ.h.next ≤ σ'.h.next ∧ Q e σ') a w

def thenS (K : St → Prop) (Q : Exit → St → Prop) : Exit → St → Prop
  | .normal, σ => K σ
  | e, σ => Q e σ

def blockS (id : Nat) (Q : Exit → St → Prop) : Exit → St → Prop
  | .exit id', σ => if id' = id then Q .normal σ else Q (.exit id') σ
  | e, σ => Q e σ

theorem RWP.mono {rc : RCode} {Q Q' : Exit → St → Prop} {σ : St} (h : RWP P W n rc Q σ) (hq : ∀ e σ, Q e σ → Q' e σ) : RWP P W n rc Q' σ :=
  fun c hc μ a w hR => wp_mono (h c hc μ a w hR) fun e a' w' ⟨σ', μ', h1, h2, h3, h4⟩ => ⟨σ', μ', h1, h2, h3, hq _ _ h4⟩

theorem comp_noFail {ops : Array Oper} : (∃ sts, compDraws P n ops = .draws sts) ∨ compDraws P n ops = .fail := by
  unfold compDraws
  split
  · exact .inr rfl
  · simp only
    split
    · exact .inl ⟨_, rfl⟩
    · exact .inr rfl

theorem RWP.skip {Q : Exit → St → Prop} {σ : St} (h : Q .normal σ) : RWP P W n .skip Q σ := by
  intro c hc μ a w hR
  cases c with
  | skip => exact wp_skip ⟨σ, μ, hR, Ext.refl _ _, Nat.le_refl _, h⟩
  | region id ops d =>
    cases d with
    | false => simp only [comp] at hc; split at hc <;> cases hc
    | true => simp only [comp] at hc; rcases comp_noFail (P := P) (n := n) (ops := ops) with ⟨s, h⟩ | h <;> rw [h] at hc <;> cases hc
  | cond c x y => simp only [comp] at hc; split at hc <;> cases hc
  | _ => simp only [comp] at hc; cases hc

theorem RWP.exit {id : Nat} {Q : Exit → St → Prop} {σ : St} (h : Q (.exit id) σ) : RWP P W n (.exit id) Q σ := by
  intro c hc μ a w hR
  cases c with
  | exit i => simp only [comp] at hc; cases hc; exact wp_exit ⟨σ, μ, hR, Ext.refl _ _, Nat.le_refl _, h⟩
  | region id ops d =>
    cases d with
    | false => simp only [comp] at hc; split at hc <;> cases hc
    | true => simp only [comp] at hc; rcases comp_noFail (P := P) (n := n) (ops := ops) with ⟨s, h⟩ | h <;> rw [h] at hc <;> cases hc
  | cond c x y => simp only [comp] at hc; split at hc <;> cases hc
  | _ => simp only [comp] at hc; cases hc

theorem RWP.ret {Q : Exit → St → Prop} {σ : St} (h : Q .ret σ) : RWP P W n .ret Q σ := by
  intro c hc μ a w hR
  cases c with
  | ret => exact wp_ret ⟨σ, μ, hR, Ext.refl _ _, Nat.le_refl _, h⟩
  | region id ops d =>
    cases d with
    | false => simp only [comp] at hc; split at hc <;> cases hc
    | true => simp only [comp] at hc; rcases comp_noFail (P := P) (n := n) (ops := ops) with ⟨s, h⟩ | h <;> rw [h] at hc <;> cases hc
  | cond c x y => simp only [comp] at hc; split at hc <;> cases hc
  | _ => simp only [comp] at hc; cases hc

theorem RWP.region {os : List ROper} {Q : Exit → St → Prop} {σ : St} (h : AOps P W os (fun σ' => Q .normal σ') σ) : RWP P W n (.region os) Q σ := by
  intro c hc μ a w hR
  cases c with
  | region id ops d =>
    cases d with
    | false =>
      simp only [comp] at hc
      split at hc
      · rename_i rs hrs
        cases hc
        exact wp_region_list (AOps_sound ops.toList os hrs σ μ a w h hR (fun σ' μ' a' w' hR' he hn hK => ⟨σ', μ', hR', he, hn, hK⟩))
      · cases hc
    | true => simp only [comp] at hc; rcases comp_noFail (P := P) (n := n) (ops := ops) with ⟨s, h⟩ | h <;> rw [h] at hc <;> cases hc
  | cond c x y => simp only [comp] at hc; split at hc <;> cases hc
  | _ => simp only [comp] at hc; cases hc

theorem Rel.drew {μ : PMap} {σ : St} {a : Act} {w : World} (hR : Rel W n μ σ a w) : Rel W n μ σ a w.drew := ⟨hR.hr.drew, hR.er, hR.sz, hR.nd⟩

theorem RWP.draws (hmix : P.follows .mixedOrders = true) {sts : List Stage} {Q : Exit → St → Prop} {σ : St} (h : DOps P W sts (fun σ' => Q .normal σ') σ) : RWP P W n (.draws sts) Q σ := by
  intro c hc μ a w hR
  cases c with
  | region id ops d =>
    cases d with
    | false => simp only [comp] at hc; split at hc <;> cases hc
    | true =>
      simp only [comp] at hc
      unfold compDraws at hc
      split at hc
      · cases hc
      · rename_i ros hros
        simp only at hc
        split at hc
        · rename_i hok
          cases hc
          have hP := planOk_spec hros hok
          generalize hpr : predsL ops.toList [] = pr at *
          generalize heff : (List.range ros.length).filter (isEff ops.toList ros pr) = eff at *
          generalize hne : ((List.range ros.length).filter fun i => !isEff ops.toList ros pr i) = ne at *
          refine wp_region_any hmix ?_
          obtain ⟨s, ss, hst, hsc, hso, hse⟩ := stagesOf_news (ros := ros) (eff := eff) (chk := planChk pr ne eff) (k := 0) (es := eff)
          rw [hst] at h
          obtain ⟨σ1, hs1, hchk, hids, hnd, hcont⟩ := h
          rw [hsc] at hchk hnd
          rw [hso] at hs1 hids
          simp only at hs1 hids
          have hft : ((planChk pr ne eff 0).filter fun _ => true) = planChk pr ne eff 0 := by simp
          rw [hft] at hs1 hids
          have hkinds : ∀ q ∈ (planChk pr ne eff 0).filterMap (ros[·]?), ∃ k, kindOf q.op = some k := by
            intro q hq
            obtain ⟨j, hj, hjr⟩ := mem_filterMap_get hq
            exact hP.neKind j (List.mem_filter.1 hj).1 q hjr
          obtain ⟨hframe, hnx, hghost⟩ := sops_spec hkinds hs1
          have hfalse : ∀ i, (Array.replicate ops.size false).getD i false = false := by
            intro i
            rw [Array.getD_eq_getD_getElem?, Array.getElem?_replicate]
            split <;> rfl
          have hI : DInv W n σ.h.next ops ros ne eff pr (Array.replicate ops.size false) 0 σ1 μ a w.drew := by
            refine ⟨by simp, ?_, ?_, Nat.zero_le _, hghost μ _ hR.hr.drew, ?_, fun j hj q hq => hchk q (List.mem_filterMap.2 ⟨j, hj, hq⟩), hnd, ?_, ?_, hnx, hR.sz, hR.nd⟩
            · intro i o _ hl; rw [hfalse] at hl; cases hl
            · intro m e _; rw [hfalse]; simp
            · intro t ht
              rw [hframe t ?_]
              · exact hR.er t
              · intro q hq e
                obtain ⟨j, hj, hjr⟩ := mem_filterMap_get hq
                have := ht j (List.mem_filter.1 hj).1 q hjr e
                rw [hfalse] at this; cases this
            · intro j hj q hq _ hw hk
              have := hids _ (mem_mkIds hj hq hw hk)
              cases hm : μ (ownId (dval σ1.e q)) with
              | none => rfl
              | some p => have := hR.hr.dom _ p hm; omega
            · intro j hj q hq hw hk
              exact hids _ (mem_mkIds hj hq hw hk)
          refine draws_main hP (K := fun σ' => Q .normal σ') (μ0 := μ) ?_ ops.size _ 0 σ1 μ a _ hI ?_ (fun _ _ => rfl) ?_
          · intro σ' μ' a' w' hR' he hn hK
            exact ⟨σ', μ', hR', he, hn, hK⟩
          · rw [List.drop_zero]
            rcases hse with ⟨h1, h2⟩ | ⟨e, es', h1, h2, h3⟩
            · rw [h2] at hcont; rw [h1]; exact hcont
            · rw [h2] at hcont
              rw [h1]
              unfold DRest
              cases hre : ros[e]? with
              | none => rw [hre] at hcont; simp only [hre]; exact hcont
              | some q => rw [hre, h3] at hcont; simp only [hre]; rw [h1] at hcont; exact hcont
          · exact Nat.le_trans List.countP_le_length (by simp)
        · cases hc
  | cond c x y => simp only [comp] at hc; split at hc <;> cases hc
  | _ => simp only [comp] at hc; cases hc

theorem RWP.seq {x y : RCode} {Q : Exit → St → Prop} {σ : St} (h : RWP P W n x (thenS (RWP P W n y Q) Q) σ) : RWP P W n (.seq x y) Q σ := by
  intro c hc μ a w hR
  cases c with
  | seq c1 c2 =>
    simp only [comp] at hc
    cases hc
    refine wp_seq (wp_mono (h c1 rfl μ a w hR) ?_)
    rintro e a' w' ⟨σ', μ', hR', he, hn, hq⟩
    cases e with
    | normal =>
      refine wp_mono (hq c2 rfl μ' a' w' hR') ?_
      rintro e2 a2 w2 ⟨σ2, μ2, hR2, he2, hn2, hq2⟩
      exact ⟨σ2, μ2, hR2, he.trans he2 hn, Nat.le_trans hn hn2, hq2⟩
    | _ => exact ⟨σ', μ', hR', he, hn, hq⟩
  | region id ops d =>
    cases d with
    | false => simp only [comp] at hc; split at hc <;> cases hc
    | true => simp only [comp] at hc; rcases comp_noFail (P := P) (n := n) (ops := ops) with ⟨s, h⟩ | h <;> rw [h] at hc <;> cases hc
  | cond c x y => simp only [comp] at hc; split at hc <;> cases hc
  | _ => simp only [comp] at hc; cases hc

theorem RWP.cond {c : Operand} {x y : RCode} {Q : Exit → St → Prop} {σ : St} {t : Bool} (hc : opd σ.e c = .bool t) (h : if t then RWP P W n x Q σ else RWP P W n y Q σ) : RWP P W n (.cond c x y) Q σ := by
  intro c' hc' μ a w hR
  cases c' with
  | cond q c1 c2 =>
    simp only [comp] at hc'
    split at hc'
    · rename_i hok
      cases hc'
      have hv : VR μ (opd σ.e c) (a.eval c) := opd_rel hok (fun t _ => hR.er t)
      rw [hc] at hv
      refine wp_cond hv.bool ?_
      cases t with
      | true => exact h c1 rfl μ a w hR
      | false => exact h c2 rfl μ a w hR
    · cases hc'
  | region id ops d =>
    cases d with
    | false => simp only [comp] at hc'; split at hc' <;> cases hc'
    | true => simp only [comp] at hc'; rcases comp_noFail (P := P) (n := n) (ops := ops) with ⟨s, h⟩ | h <;> rw [h] at hc' <;> cases hc'
  | _ => simp only [comp] at hc'; cases hc'

theorem RWP.block {id : Nat} {x : RCode} {Q : Exit → St → Prop} {σ : St} (h : RWP P W n x (blockS id Q) σ) : RWP P W n (.block id x) Q σ := by
  intro c hc μ a w hR
  cases c with
  | block i c1 =>
    simp only [comp] at hc
    cases hc
    refine wp_block (wp_mono (h c1 rfl μ a w hR) ?_)
    rintro e a' w' ⟨σ', μ', hR', he, hn, hq⟩
    cases e with
    | exit i =>
      unfold Exit.inBlock
      unfold blockS at hq
      simp only at hq ⊢
      split
      · rename_i e; rw [if_pos e] at hq; exact ⟨σ', μ', hR', he, hn, hq⟩
      · rename_i e; rw [if_neg e] at hq; exact ⟨σ', μ', hR', he, hn, hq⟩
    | _ => exact ⟨σ', μ', hR', he, hn, hq⟩
  | region id ops d =>
    cases d with
    | false => simp only [comp] at hc; split at hc <;> cases hc
    | true => simp only [comp] at hc; rcases comp_noFail (P := P) (n := n) (ops := ops) with ⟨s, h⟩ | h <;> rw [h] at hc <;> cases hc
  | cond c x y => simp only [comp] at hc; split at hc <;> cases hc
  | _ => simp only [comp] at hc; cases hc

/-- A loop: an invariant that bears a number, which every round lowers. -/
theorem RWP.loop {x : RCode} {Q : Exit → St → Prop} {σ : St} (I : Nat → St → Prop) (k0 : Nat) (h0 : I k0 σ) (round : ∀ k σ, I k σ → RWP P W n x (thenS (fun σ' => ∃ k', k' < k ∧ I k' σ') Q) σ) : RWP P W n (.loop x) Q σ := by
  intro c hc μ a w hR
  cases c with
  | loop c1 =>
    simp only [comp] at hc
    cases hc
    refine wp_loop_ghost (fun k a w => ∃ σ' μ', Rel W n μ' σ' a w ∧ Ext μ σ.h.next μ' ∧ σ.h.next ≤ σ'.h.next ∧ I k σ') k0 ⟨σ, μ, hR, Ext.refl _ _, Nat.le_refl _, h0⟩ ?_
    rintro k a' w' ⟨σ', μ', hR', he, hn, hI⟩
    refine wp_mono (round k σ' hI c1 rfl μ' a' w' hR') ?_
    rintro e a2 w2 ⟨σ2, μ2, hR2, he2, hn2, hq2⟩
    cases e with
    | normal =>
      obtain ⟨k', hk', hI'⟩ := hq2
      exact ⟨k', hk', σ2, μ2, hR2, he.trans he2 hn, Nat.le_trans hn hn2, hI'⟩
    | _ => exact ⟨σ2, μ2, hR2, he.trans he2 hn, Nat.le_trans hn hn2, hq2⟩
  | region id ops d =>
    cases d with
    | false => simp only [comp] at hc; split at hc <;> cases hc
    | true => simp only [comp] at hc; rcases comp_noFail (P := P) (n := n) (ops := ops) with ⟨s, h⟩ | h <;> rw [h] at hc <;> cases hc
  | cond c x y => simp only [comp] at hc; split at hc <;> cases hc
  | _ => simp only [comp] at hc; cases hc

/-! ## Functions -/
theorem envOf_get : ∀ (vs : List Value) (i : Nat) (e : Env) (t : Nat), eget (envOf i vs e) t = if i ≤ t ∧ t < i + vs.length then vs.getD (t - i) undef else eget e t
  | [], i, e, t => by simp [envOf]; intro h1 h2; omega
  | v :: vs, i, e, t => by
    rw [envOf, envOf_get vs (i + 1) (e.set i v) t]
    simp only [List.length_cons]
    by_cases h1 : i = t
    · subst h1
      rw [if_neg (by omega), if_pos (by omega)]
      simp [eget]
    · have hs : eget (e.set i v) t = eget e t := by simp [eget, Tr.get_set, Ne.symm h1]
      by_cases h2 : i + 1 ≤ t ∧ t < i + 1 + vs.length
      · rw [if_pos h2, if_pos (by omega)]
        rw [show t - i = (t - (i + 1)) + 1 by omega]
        simp
      · rw [if_neg h2, if_neg (by omega), hs]

def resF (tmps : Array Value) : ResultVar → Sem Value
  | .tmp t => pure (tmps.getD t undef)
  | .cell x t => do loadVar t (← asAddr (tmps.getD x undef))

theorem res_run {μ : PMap} {σ : St} {a : Act} {w : World} (hR : Rel W n μ σ a w) : ∀ {l : List ResultVar} {rs : List RRes} {vs : List Value}, compRes P l = some rs → resVals W σ rs = some vs →
    ∃ vs', (l.mapM (resF a.tmps)).run P w = .ok vs' w ∧ VRs μ vs vs'
  | [], rs, vs, hc, hr => by
    simp [compRes] at hc; subst hc
    simp [resVals] at hr; subst hr
    exact ⟨[], by simp, VRs.nil⟩
  | .tmp t :: l, rs, vs, hc, hr => by
    simp only [compRes] at hc
    obtain ⟨rs', h1, rfl⟩ := some_map hc
    simp only [resVals] at hr
    split at hr
    · rename_i vs0 h2
      cases hr
      obtain ⟨vs', h3, h4⟩ := res_run hR h1 h2
      refine ⟨a.tmps.getD t undef :: vs', ?_, VRs.cons (hR.er t) h4⟩
      simp only [List.mapM_cons, resF, Sem.run_bind, Sem.run_pure, Result.andThen_ok, h3]
    · cases hr
  | .cell x t :: l, rs, vs, hc, hr => by
    simp only [compRes] at hc
    split at hc
    · rename_i r hagg h1
      cases hc
      simp only [resVals] at hr
      split at hr
      · rename_i ad vs0 hp h2
        split at hr
        · rename_i v hv
          cases hr
          obtain ⟨vs', h3, h4⟩ := res_run hR h1 h2
          have hpx := hR.er x
          rw [hp] at hpx
          obtain ⟨a', he, har⟩ := hpx.ptr_AR
          obtain ⟨v', hc', hv', _⟩ := aload1_sim hR.hr har hv
          refine ⟨v' :: vs', ?_, VRs.cons hv' h4⟩
          have hload : (loadVar t a').run P w = .ok v' w := by simp [loadVar, aggT_run hagg, hc']
          have hasA : (asAddr (a.tmps.getD x undef)).run P w = .ok a' w := by rw [he]; rfl
          simp only [List.mapM_cons, resF, Sem.run_bind, hasA, Sem.run_pure, Result.andThen_ok, hload, h3]
        · cases hr
      · cases hr
    · rename_i r hagg h1
      obtain ⟨k, hk, rfl⟩ := some_map hc
      simp only [resVals] at hr
      split at hr
      · rename_i ad vs0 hp h2
        split at hr
        · rename_i v hv
          cases hr
          obtain ⟨vs', h3, h4⟩ := res_run hR h1 h2
          have hpx := hR.er x
          rw [hp] at hpx
          obtain ⟨a', he, har⟩ := hpx.ptr_AR
          obtain ⟨l', hrs, hlen, _, hcs⟩ := aloadN_sim hR.hr k har hv
          have hload := run_loadCells_list (P := P) w a' l' hcs
          rw [← hrs.1, hlen] at hload
          refine ⟨.agg l'.toArray :: vs', ?_, VRs.cons hrs.agg h4⟩
          have hload2 : (loadVar t a').run P w = .ok (.agg l'.toArray) w := by simp [loadVar, aggT_run hagg, sizeT_run hk, hload]
          have hasA : (asAddr (a.tmps.getD x undef)).run P w = .ok a' w := by rw [he]; rfl
          simp only [List.mapM_cons, resF, Sem.run_bind, hasA, Sem.run_pure, Result.andThen_ok, hload2, h3]
        · cases hr
      · cases hr
    · cases hc

/-- A FUNCTION's CONTRACT, from the machine's code. -/
theorem ACalls_of {f : FuncId} {rf : RFunc} (hf : compFn P f = some rf) {args : List Value} (hl : args.length ≤ rf.ntmps) {h : AHeap} {R : Value → AHeap → Prop}
    (hb : RWP P W rf.ntmps rf.body (fun e σ' => (e = .normal ∨ e = .ret) ∧ ∃ vs, resVals W σ' rf.res = some vs ∧ R (resOf vs) σ'.h) ⟨envOf 0 args .lf, h⟩) : ACalls P W f args h R := by
  unfold compFn at hf
  cases hfn : P.funcs[f]? with
  | none => simp [hfn] at hf
  | some fn =>
    simp only [hfn] at hf
    cases hbody : fn.body with
    | none => simp [hbody] at hf
    | some c =>
      simp only [hbody] at hf
      cases hres : compRes P fn.results.toList with
      | none => simp [hres] at hf
      | some rs =>
        simp only [hres] at hf
        split at hf
        · cases hf
        · rename_i hname
          cases hf
          simp only at hl hb
          refine ⟨⟨fn, hfn, by simpa using hname, by rw [hbody]; rfl⟩, ?_⟩
          intro μ cargs w H hv
          have hlen : cargs.length ≤ fn.ntmps := by rw [← hv.1]; exact hl
          have hsz : (cargs.toArray ++ Array.replicate (fn.ntmps - cargs.toArray.size) undef).size = fn.ntmps := by simp; omega
          have hR : Rel W fn.ntmps μ ⟨envOf 0 args .lf, h⟩ { tmps := cargs.toArray ++ Array.replicate (fn.ntmps - cargs.toArray.size) undef, defers := [] } w := by
            refine ⟨H, ?_, hsz, rfl⟩
            intro t
            rw [envOf_get]
            simp only [Array.getD_eq_getD_getElem?, Array.getElem?_append, List.size_toArray, Nat.zero_le, true_and, Nat.zero_add, Nat.sub_zero]
            by_cases ht : t < args.length
            · rw [if_pos ht, if_pos (by rw [← hv.1]; exact ht)]
              obtain ⟨v', h1, h2⟩ := hv.2 t args[t] (by simp [ht])
              simp [List.getD_eq_getElem?_getD, ht, h1, h2]
            · rw [if_neg ht, if_neg (by rw [← hv.1]; exact ht), Array.getElem?_replicate]
              have : eget (Tr.lf : Env) t = undef := rfl
              rw [this]
              split <;> exact VR.undef
          refine calls_of_wp hfn hbody (wp_mono (hb c rfl μ _ w hR) ?_)
          rintro e a' w' ⟨σ', μ', hR', he, hn, hen, vs, hvs, hRv⟩
          obtain ⟨vs', hrun, hvr⟩ := res_run hR' hres hvs
          have hresults : (results fn a'.tmps).run P w' = .ok (resOf vs') w' := by
            unfold results
            rw [Sem.run_bind, Array.mapM_eq_mapM_toList, Sem.run_map]
            show (((Sem.run P (List.mapM (resF a'.tmps) fn.results.toList) w').andThen _).andThen _) = _
            rw [hrun, Result.andThen_ok, Result.andThen_ok, Sem.run_pure]
            congr 1
            unfold resOf
            match vs' with
            | [] => rfl
            | [v] => rfl
            | _ :: _ :: _ => rfl
          have hvres : VR μ' (resOf vs) (resOf vs') := by
            cases vs with
            | nil =>
              have : vs' = [] := List.eq_nil_of_length_eq_zero (by have := hvr.1; simpa using this.symm)
              subst this
              exact VRs.nil.tuple
            | cons x l =>
              cases vs' with
              | nil => have := hvr.1; simp at this
              | cons y l' =>
                cases l with
                | nil =>
                  have : l' = [] := List.eq_nil_of_length_eq_zero (by have := hvr.1; simpa using this.symm)
                  subst this
                  obtain ⟨z, hz, hzr⟩ := hvr.2 0 x rfl
                  simp at hz; subst hz
                  exact hzr
                | cons x2 l2 =>
                  cases l' with
                  | nil => have := hvr.1; simp at this
                  | cons y2 l2' => exact hvr.tuple
          have post : a'.defers = [] ∧ ∃ v, (results fn a'.tmps).run P w' = .ok v w' ∧ (∃ v2 v' h' μ', Ending.returned v = .returned v' ∧ VR μ' v2 v' ∧ HR W μ' h' w' ∧ Ext μ h.next μ' ∧ h.next ≤ h'.next ∧ R v2 h') :=
            ⟨hR'.nd, _, hresults, resOf vs, resOf vs', σ'.h, μ', rfl, hvres, hR'.hr, he, hn, hRv⟩
          rcases hen with rfl | rfl
          · exact post
          · exact post

end
end Go.Mach
