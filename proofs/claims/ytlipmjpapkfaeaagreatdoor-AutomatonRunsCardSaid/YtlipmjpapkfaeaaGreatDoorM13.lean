/- The abstract machine, part 13: one operation, and operations in the order of the text. No condition. -/
import Derived.Test.YtlipmjpapkfaeaaGreatDoorM12
set_option linter.unusedSimpArgs false
set_option linter.unusedVariables false
namespace Go.Mach
open Go Go.RowKit

/-- The real frame and world are as the machine's state says. -/
structure Rel (W : World) (n : Nat) (μ : PMap) (σ : St) (a : Act) (w : World) : Prop where
  hr : HR W μ σ.h w
  er : ∀ t, VR μ (eget σ.e t) (a.tmps.getD t undef)
  sz : a.tmps.size = n
  nd : a.defers = []

/-- A function that a call enters. -/
def callable (P : Program) (f : FuncId) : Prop := ∃ fn, P.funcs[f]? = some fn ∧ (fn.name == "runtime.NumGoroutine") = false ∧ fn.body.isNone = false

/-- WHAT A CALL DOES, for the machine: whatever the real world is that the abstract heap describes. -/
def ACalls (P : Program) (W : World) (f : FuncId) (args : List Value) (h : AHeap) (R : Value → AHeap → Prop) : Prop :=
  callable P f ∧ ∀ μ (cargs : List Value) w, HR W μ h w → VRs μ args cargs →
    Calls P f cargs.toArray w fun e w' => ∃ v v' h' μ', e = .returned v' ∧ VR μ' v v' ∧ HR W μ' h' w' ∧ Ext μ h.next μ' ∧ h.next ≤ h'.next ∧ R v h'

theorem ACalls.mono {P : Program} {W : World} {f : FuncId} {args : List Value} {h : AHeap} {R R' : Value → AHeap → Prop} (hc : ACalls P W f args h R) (hr : ∀ v h', R v h' → R' v h') : ACalls P W f args h R' :=
  ⟨hc.1, fun μ cargs w H hv => (hc.2 μ cargs w H hv).mono fun e w' ⟨v, v', h', μ', h1, h2, h3, h4, h5, h6⟩ => ⟨v, v', h', μ', h1, h2, h3, h4, h5, hr _ _ h6⟩⟩

section
variable {P : Program} {W : World} {n : Nat}

/-- One operation, in the machine: a call by what is known of it, anything else by 'rop'. -/
def AOp (P : Program) (W : World) (o : ROper) (K : St → Prop) (σ : St) : Prop :=
  if wantedA σ.e o.guard then
    match o.op with
    | .call f args => ∃ fid cap, opd σ.e f = .func (.func fid) #[] cap ∧ ACalls P W fid (args.map (opd σ.e) ++ cap.toList) σ.h fun v h' => K ⟨eput σ.e o.dst v, h'⟩
    | op => ∃ v h', rop W (opd σ.e) σ.h op = some (v, h') ∧ K ⟨eput σ.e o.dst v, h'⟩
  else K ⟨eput σ.e o.dst undef, σ.h⟩

def AOps (P : Program) (W : World) : List ROper → (St → Prop) → St → Prop
  | [], K => K
  | o :: os, K => AOp P W o (AOps P W os K)

theorem getD_set (tmps : Array Value) (d t : Nat) (v : Value) (hd : d < tmps.size) : (tmps.setIfInBounds d v).getD t undef = if t = d then v else tmps.getD t undef := by
  simp only [Array.getD_eq_getD_getElem?, Array.getElem?_setIfInBounds]
  by_cases h : d = t
  · subst h; simp [hd]
  · have : t ≠ d := fun e => h e.symm
    simp [h, this]

theorem eget_eput (e : Env) (d : Option Nat) (v : Value) (t : Nat) : eget (eput e d v) t = if d = some t then v else eget e t := by
  unfold eput eget
  cases d with
  | none => simp
  | some d =>
    simp only [Tr.get_set]
    by_cases h : t = d
    · subst h; simp
    · have : ¬ (some d = some t) := fun e => h (Option.some.inj e).symm
      simp [h, this]

theorem put_getD (a : Act) (d : Option Nat) (v : Value) (t : Nat) (hd : ∀ k, d = some k → k < a.tmps.size) : (a.put d v).tmps.getD t undef = if d = some t then v else a.tmps.getD t undef := by
  cases d with
  | none => simp [Act.put]
  | some d =>
    simp only [Act.put]
    rw [getD_set _ _ _ _ (hd d rfl)]
    by_cases h : t = d
    · subst h; simp
    · have : ¬ (some d = some t) := fun e => h (Option.some.inj e).symm
      simp [h, this]

theorem put_size (a : Act) (d : Option Nat) (v : Value) : (a.put d v).tmps.size = a.tmps.size := by cases d <;> simp [Act.put]
theorem put_nd (a : Act) (d : Option Nat) (v : Value) : (a.put d v).defers = a.defers := by cases d <;> rfl

theorem Rel.put {μ μ' : PMap} {σ : St} {a : Act} {w w' : World} (hR : Rel W n μ σ a w) {d : Option Nat} (hd : ∀ k, d = some k → k < n) {v v' : Value} {h' : AHeap} (hv : VR μ' v v') (H' : HR W μ' h' w')
    (he : Ext μ σ.h.next μ') : Rel W n μ' ⟨eput σ.e d v, h'⟩ (a.put d v') w' := by
  refine ⟨H', ?_, by rw [put_size]; exact hR.sz, by rw [put_nd]; exact hR.nd⟩
  intro t
  rw [eget_eput, put_getD a d v' t (fun k hk => by rw [hR.sz]; exact hd k hk)]
  split
  · exact hv
  · exact (hR.er t).ext he hR.hr.dom

theorem VR.notBool {μ : PMap} {v v' : Value} (hv : VR μ v v') (hn : ∀ b, v ≠ .bool b) : ∀ b, v' ≠ .bool b := by
  intro b hb
  subst hb
  cases hv with
  | plain _ => exact hn b rfl

/-- Which operations are carried out: the same. -/
theorem wanted_eq {μ : PMap} {e : Env} {tmps : Array Value} {ops : Array Oper} {o : Oper} {g : Option (Nat × Bool)}
    (hg : (o.guard = none ∧ g = none) ∨ ∃ j b d, o.guard = some (j, b) ∧ (ops[j]?).bind (·.dst) = some d ∧ g = some (d, b) ∧ VR μ (eget e d) (tmps.getD d undef)) :
    Region.wanted o (yielded ops tmps) = wantedA e g := by
  rcases hg with ⟨h1, rfl⟩ | ⟨j, b, d, h1, h2, rfl, h3⟩
  · simp [Region.wanted, h1, wantedA]
  · have hy : yielded ops tmps j = match eget e d with | .bool c => some c | _ => none := by
      unfold yielded
      rw [h2]
      simp only [Option.bind_some]
      cases he : eget e d with
      | bool c =>
        rw [he] at h3
        have := h3.bool
        rw [Array.getD_eq_getD_getElem?] at this
        cases ht : tmps[d]? with
        | none => rw [ht] at this; simp [undef] at this
        | some x => rw [ht] at this; simp at this; subst this; rfl
      | _ =>
        have hnb := h3.notBool (by rw [he]; intro b hb; cases hb)
        rw [Array.getD_eq_getD_getElem?] at hnb
        cases ht : tmps[d]? with
        | none => rfl
        | some x =>
          rw [ht] at hnb
          simp only [Option.getD_some] at hnb
          cases x <;> first | rfl | exact absurd rfl (hnb _)
    simp only [Region.wanted, h1, hy, wantedA]
    cases eget e d <;> first | rfl | (rename_i c; cases c <;> cases b <;> rfl)

theorem opd_rel {μ : PMap} {e : Env} {a : Act} {x : Operand} (hc : okOpd x = true) (ht : ∀ t, x = .tmp t → VR μ (eget e t) (a.tmps.getD t undef)) : VR μ (opd e x) (a.eval x) := by
  cases x with
  | tmp t => exact ht t rfl
  | const v => exact VR.closed hc
  | global g => exact .plain rfl
  | func f => exact VRs.func (xs := []) (ys := []) VRs.nil

theorem compOp_spec {op : Op} {r : ROp} (h : compOp P op = some r) : compRaw P op = some r ∧ ∀ x ∈ op.operands.toList, okOpd x = true := by
  unfold compOp at h
  split at h
  · rename_i hc; exact ⟨h, fun x hx => List.all_eq_true.1 hc x hx⟩
  · cases h

/-- What is known of one operation's compiled form. -/
theorem compOper_spec {ops : Array Oper} {o : Oper} {r : ROper} (h : compOper P n ops o = some r) :
    (∀ k, o.dst = some k → k < n) ∧ r.dst = o.dst ∧ compOp P o.op = some r.op ∧
    ((o.guard = none ∧ r.guard = none) ∨ ∃ j b d, o.guard = some (j, b) ∧ (ops[j]?).bind (·.dst) = some d ∧ r.guard = some (d, b)) := by
  unfold compOper at h
  split at h
  · rename_i hd
    have hd' : ∀ k, o.dst = some k → k < n := by
      intro k hk; rw [hk] at hd; exact Nat.le_of_ble_eq_true hd
    cases hc : compOp P o.op with
    | none => simp [hc] at h
    | some q =>
      simp only [hc] at h
      cases hg : o.guard with
      | none => simp only [hg] at h; cases h; exact ⟨hd', rfl, rfl, .inl ⟨rfl, rfl⟩⟩
      | some jb =>
        obtain ⟨j, b⟩ := jb
        simp only [hg] at h
        cases hj : (ops[j]?).bind (·.dst) with
        | none => simp [hj] at h
        | some d => simp only [hj] at h; cases h; exact ⟨hd', rfl, rfl, .inr ⟨j, b, d, rfl, hj, rfl⟩⟩
  · cases h

theorem callFunc_run {f : FuncId} (hc : callable P f) (args : Array Value) (w : World) : (callFunc f args).run P w = .ok (.enter f args) w := by
  obtain ⟨fn, h1, h2, h3⟩ := hc
  simp only [callFunc, Sem.run_bind, run_program, Result.andThen_ok, h1, h2, h3, Bool.false_eq_true, if_false, Sem.run_pure]

/-- ONE OPERATION: from the machine's to the model's. The operands' relation is asked, and the guard's. -/
theorem AOp_sound {ops : Array Oper} {o : Oper} {r : ROper} (hcomp : compOper P n ops o = some r) {K : St → Prop} {σ : St} (hA : AOp P W r K σ) {μ : PMap} {a : Act} {w : World} (H : HR W μ σ.h w)
    (hlook : ∀ t, Operand.tmp t ∈ o.op.operands.toList → VR μ (eget σ.e t) (a.tmps.getD t undef)) (hguard : ∀ d b, r.guard = some (d, b) → VR μ (eget σ.e d) (a.tmps.getD d undef))
    {K' : Act → World → Prop} {Q : Exit → Act → World → Prop}
    (hk : ∀ μ' v v' h' w', VR μ' v v' → HR W μ' h' w' → Ext μ σ.h.next μ' → σ.h.next ≤ h'.next → K ⟨eput σ.e r.dst v, h'⟩ → K' (a.put o.dst v') w') :
    if Region.wanted o (yielded ops a.tmps) then o.wp P a w K' Q else K' (a.put o.dst undef) w := by
  obtain ⟨hd, hdst, hop, hg⟩ := compOper_spec hcomp
  obtain ⟨hraw, hok⟩ := compOp_spec hop
  have hw : Region.wanted o (yielded ops a.tmps) = wantedA σ.e r.guard := by
    refine wanted_eq (μ := μ) ?_
    rcases hg with ⟨h1, h2⟩ | ⟨j, b, d, h1, h2, h3⟩
    · exact .inl ⟨h1, h2⟩
    · exact .inr ⟨j, b, d, h1, h2, h3, hguard d b h3⟩
  rw [hw]
  unfold AOp at hA
  cases hwa : wantedA σ.e r.guard with
  | false =>
    simp only [hwa, Bool.false_eq_true, if_false] at hA ⊢
    exact hk μ undef undef σ.h w VR.undef H (Ext.refl _ _) (Nat.le_refl _) hA
  | true =>
    simp only [hwa, if_true] at hA ⊢
    have hρ : ∀ x ∈ o.op.operands.toList, VR μ (opd σ.e x) (a.eval x) := fun x hx => opd_rel (hok x hx) (fun t e => hlook t (e ▸ hx))
    unfold Oper.wp
    have other : (∃ v h', rop W (opd σ.e) σ.h r.op = some (v, h') ∧ K ⟨eput σ.e r.dst v, h'⟩) → o.upon P a K' Q ((execOp a.eval o).run P w) := by
      rintro ⟨v, h', hr, hK⟩
      obtain ⟨nx, v', w', μ', hrun, hnx, hv, H', he, hn⟩ := rop_sim hraw H hρ hr
      rw [hrun]
      rcases hnx with rfl | ⟨rfl, rfl⟩
      · exact hk μ' v v' h' w' hv H' he hn hK
      · exact hk μ' v undef h' w' hv H' he hn hK
    cases hrop : r.op with
    | call f args =>
      rw [hrop] at hA hraw
      obtain ⟨fid, cap, hf, hcall⟩ := hA
      -- the operation is a call of a value
      have hcallop : ∃ c : Call, o.op = .call c ∧ c.callee = .value f ∧ c.args.toList = args := by
        unfold compRaw at hraw
        split at hraw <;> try (first | (cases hraw; done) | (simp at hraw; done))
        all_goals (try (repeat' (split at hraw)) <;> try (first | (cases hraw; done) | (simp at hraw; done) | (obtain ⟨_, _, hh⟩ := some_map hraw; cases hh; done)))
        rename_i c hc _ f' hcal
        cases hraw
        exact ⟨c, hc, hcal, rfl⟩
      obtain ⟨c, hc, hcal, hcargs⟩ := hcallop
      have hfm : VR μ (opd σ.e f) (a.eval f) := hρ f (by rw [hc]; simp [Op.operands, Call.operands, hcal])
      rw [hf] at hfm
      obtain ⟨_, ys, hfe, hys⟩ := hfm.func_inv
      have hargs : VRs μ (args.map (opd σ.e)) (args.map a.eval) := VRs.map fun x hx => hρ x (by rw [hc]; simp only [Op.operands, Call.operands, Array.toList_append, List.mem_append]; right; rw [hcargs]; exact hx)
      have hC := hcall.2 μ (args.map a.eval ++ ys.toList) w H (hargs.append hys)
      have hmap : c.args.map a.eval = (args.map a.eval).toArray := Array.ext' (by simp [hcargs])
      have hrun : (execOp a.eval o).run P w = .ok (.enter fid (args.map a.eval ++ ys.toList).toArray) w := by
        unfold execOp
        rw [hc]
        simp only [resolve, hcal, hfe, Deferred.ofValue, Sem.run_bind, Sem.run_pure, Result.andThen_ok, invoke, hmap]
        rw [callFunc_run hcall.1]
        congr 2
        exact Array.ext' (by simp)
      rw [hrun]
      show Calls P fid _ w _
      refine hC.mono ?_
      rintro e w' ⟨v, v', h', μ', rfl, hv, H', he, hn, hK⟩
      exact hk μ' v v' h' w' hv H' he hn hK
    | _ =>
      rw [hrop] at hA
      exact other (by rw [hrop]; exact hA)

theorem AOps_sound {ops : Array Oper} {K : St → Prop} {Q : Exit → Act → World → Prop} : ∀ (l : List Oper) (rs : List ROper), compOpers P n ops l = some rs →
    ∀ (σ : St) (μ : PMap) (a : Act) (w : World), AOps P W rs K σ → Rel W n μ σ a w →
    (∀ σ' μ' a' w', Rel W n μ' σ' a' w' → Ext μ σ.h.next μ' → σ.h.next ≤ σ'.h.next → K σ' → Q .normal a' w') → wpList P ops Q l a w
  | [], rs, hc, σ, μ, a, w, hA, hR, hQ => by
    simp [compOpers] at hc; subst hc
    exact hQ σ μ a w hR (Ext.refl _ _) (Nat.le_refl _) hA
  | o :: l, rs, hc, σ, μ, a, w, hA, hR, hQ => by
    unfold compOpers at hc
    cases h1 : compOper P n ops o with
    | none => simp [h1] at hc
    | some r =>
      cases h2 : compOpers P n ops l with
      | none => simp [h1, h2] at hc
      | some rs' =>
        simp [h1, h2] at hc; subst hc
        obtain ⟨hd, hdst, _, _⟩ := compOper_spec h1
        refine wpList_step fun K2 hK2 => ?_
        refine AOp_sound h1 (K := AOps P W rs' K) hA hR.hr (fun t _ => hR.er t) (fun d b _ => hR.er d) ?_
        intro μ' v v' h' w' hv H' he hn hA'
        refine hK2 _ _ ?_
        have hR' : Rel W n μ' ⟨eput σ.e r.dst v, h'⟩ (a.put o.dst v') w' := by rw [hdst]; exact hR.put hd hv H' he
        exact AOps_sound l rs' h2 _ μ' _ w' hA' hR' (fun σ'' μ'' a'' w'' hR'' he' hn' hK => hQ σ'' μ'' a'' w'' hR'' (he.trans he' hn) (Nat.le_trans hn hn') hK)

end
end Go.Mach
