/- The abstract machine, part 23: a stage of a region that draws its order, whose operations only read: as in the text's order. No condition. -/
import Derived.Test.YtlipmjpapkfaeaaGreatDoorX1
set_option linter.unusedSimpArgs false
set_option linter.unusedVariables false
namespace Go.Mach
open Go Go.RowKit

/-- What an operation that only reads looks at. -/
def ropOps : ROp → List Operand
  | .mov x | .load1 x | .loadN x _ | .nilChk x | .un _ x | .conv _ x | .encRune x | .toStr x | .bytesStr x | .addOff x _ | .part1 x _ | .partN x _ _ | .extract x _ | .lenSl x | .lenStr x | .lenMap x => [x]
  | .pick c a b => [c, a, b]
  | .build _ ps => ps.map (·.2.2)
  | .bin _ _ x y | .min2 x y | .max2 x y => [x, y]
  | .mkFn _ cap => cap
  | .slcStr x lo hi | .slc _ x lo hi => x :: (lo.toList ++ hi.toList)
  | .idxA _ x i | .idxArr _ _ x i | .idxStr x i => [x, i]
  | .lookup _ _ x k _ => [x, k]
  | _ => []

theorem fillL_congr {ρ ρ' : Operand → Value} : ∀ (ps : List (Nat × Nat × Operand)) (z : List Value), (∀ x ∈ ps.map (·.2.2), ρ x = ρ' x) → fillL ρ z ps = fillL ρ' z ps
  | [], z, _ => rfl
  | (off, size, x) :: ps, z, h => by
    have hx := h x (by simp)
    simp only [fillL, hx]
    cases hb : (Nat.beq (celsL (ρ' x)).length size && Nat.ble (off + size) z.length) with
    | false => simp
    | true => simp only [cond_true]; exact fillL_congr ps _ fun y hy => h y (by simp only [List.map_cons, List.mem_cons]; exact .inr hy)

theorem optmap_congr {ρ ρ' : Operand → Value} {o : Option Operand} (h : ∀ x ∈ o.toList, ρ x = ρ' x) : o.map ρ = o.map ρ' := by
  cases o with
  | none => rfl
  | some x => simp [h x (by simp)]

theorem rop_congr {W : World} {ρ ρ' : Operand → Value} {h : AHeap} {r : ROp} (hk : kindOf r = some 0) (hx : ∀ x ∈ ropOps r, ρ x = ρ' x) : rop W ρ h r = rop W ρ' h r := by
  cases r <;> first | (simp only [kindOf] at hk; cases hk; done) | skip
  case build z ps => simp only [rop, fillL_congr ps z hx]
  case mkFn fn cap =>
    have hm : List.map ρ cap = List.map ρ' cap := List.map_congr_left hx
    simp only [rop, hm]
  case slcStr x lo hi =>
    have h1 := hx x (by simp [ropOps]); have h2 := optmap_congr (o := lo) fun y hy => hx y (List.mem_cons_of_mem _ (List.mem_append_left _ hy)); have h3 := optmap_congr (o := hi) fun y hy => hx y (List.mem_cons_of_mem _ (List.mem_append_right _ hy))
    simp only [rop, h1, h2, h3]
  case slc esz x lo hi =>
    have h1 := hx x (by simp [ropOps]); have h2 := optmap_congr (o := lo) fun y hy => hx y (List.mem_cons_of_mem _ (List.mem_append_left _ hy)); have h3 := optmap_congr (o := hi) fun y hy => hx y (List.mem_cons_of_mem _ (List.mem_append_right _ hy))
    simp only [rop, h1, h2, h3]
  case pick c a b => simp only [rop, hx c (by simp [ropOps]), hx a (by simp [ropOps]), hx b (by simp [ropOps])]
  case bin op e x y => simp only [rop, hx x (by simp [ropOps]), hx y (by simp [ropOps])]
  case min2 x y => simp only [rop, hx x (by simp [ropOps]), hx y (by simp [ropOps])]
  case max2 x y => simp only [rop, hx x (by simp [ropOps]), hx y (by simp [ropOps])]
  case idxA esz x y => simp only [rop, hx x (by simp [ropOps]), hx y (by simp [ropOps])]
  case idxArr len esz x y => simp only [rop, hx x (by simp [ropOps]), hx y (by simp [ropOps])]
  case idxStr x y => simp only [rop, hx x (by simp [ropOps]), hx y (by simp [ropOps])]
  case lookup e z x y ok => simp only [rop, hx x (by simp [ropOps]), hx y (by simp [ropOps])]
  all_goals (rename_i x; first | (simp only [rop, hx _ (List.mem_singleton.2 rfl)]; done) | skip)
  all_goals (rename_i x _; simp only [rop, hx _ (List.mem_singleton.2 rfl)])

def tmpsOf : List Operand → List Nat
  | [] => []
  | .tmp t :: l => t :: tmpsOf l
  | _ :: l => tmpsOf l

def looksOf (o : ROper) : List Nat := (match o.guard with | some (d, _) => [d] | none => []) ++ tmpsOf (ropOps o.op)

/-- Each slot is written once, and what looks at it comes behind; nothing but reading. -/
def ssaOk : List ROper → Bool
  | [] => true
  | o :: os => (match kindOf o.op with | some 0 => true | _ => false) &&
      (match o.dst with
       | some d => !(looksOf o).contains d && os.all fun q => match q.dst with | some d' => !Nat.beq d' d && !(looksOf o).contains d' | none => true
       | none => false) && ssaOk os

section
variable {P : Program} {W : World}

theorem kind_ne {o : ROper} (h : (match kindOf o.op with | some 0 => true | _ => false) = true) : kindOf o.op = some 0 := by
  split at h
  · assumption
  · cases h

/-- What was not written is as it was. -/
theorem AOps_sops : ∀ (os : List ROper) {K : St → Prop} {σ : St}, ssaOk os = true → AOps P W os K σ → ∃ σ1, sops W os σ = some σ1 ∧ K σ1 ∧ σ1.h = σ.h ∧ (∀ t, (∀ o ∈ os, o.dst ≠ some t) → eget σ1.e t = eget σ.e t) ∧ ∀ o ∈ os, Chk W σ1 o
  | [], K, σ, _, h => ⟨σ, rfl, h, rfl, fun _ _ => rfl, fun o ho => by cases ho⟩
  | o :: os, K, σ, hs, h => by
    unfold ssaOk at hs
    simp only [Bool.and_eq_true] at hs
    obtain ⟨⟨hk, hd⟩, hrest⟩ := hs
    have hk := kind_ne hk
    cases hdst : o.dst with
    | none => rw [hdst] at hd; cases hd
    | some d =>
      rw [hdst] at hd
      simp only [Bool.and_eq_true, Bool.not_eq_true', List.all_eq_true] at hd
      obtain ⟨hdl, hrl⟩ := hd
      have hne : ∀ q ∈ os, q.dst ≠ some d := fun q hq e => by
        have := hrl q hq; rw [e] at this; simp at this
      have hlk : ∀ t ∈ looksOf o, ∀ q ∈ os, q.dst ≠ some t := fun t ht q hq e => by
        have := hrl q hq; rw [e] at this
        simp only [Bool.and_eq_true, Bool.not_eq_true'] at this
        have h2 := this.2
        rw [Bool.eq_false_iff] at h2
        exact h2 (List.contains_iff_mem.2 ht)
      have hdl' : d ∉ looksOf o := fun hm => by rw [List.contains_iff_mem.2 hm] at hdl; cases hdl
      have guardEq : ∀ σ1 : St, (∀ t ∈ looksOf o, eget σ1.e t = eget σ.e t) → wantedA σ1.e o.guard = wantedA σ.e o.guard := fun σ1 hh => by
        unfold wantedA
        cases hg : o.guard with
        | none => rfl
        | some p => obtain ⟨d0, b⟩ := p; simp only [hh d0 (by simp [looksOf, hg])]
      have opEq : ∀ σ1 : St, (∀ t ∈ looksOf o, eget σ1.e t = eget σ.e t) → rop W (opd σ1.e) σ.h o.op = rop W (opd σ.e) σ.h o.op := fun σ1 hh => by
        refine rop_congr hk fun x hx => ?_
        cases x with
        | tmp t =>
          refine hh t ?_
          unfold looksOf
          refine List.mem_append_right _ ?_
          have : ∀ l : List Operand, Operand.tmp t ∈ l → t ∈ tmpsOf l := by
            intro l
            induction l with
            | nil => intro h; cases h
            | cons y l ih =>
              intro h
              rcases List.mem_cons.1 h with rfl | h
              · simp [tmpsOf]
              · have := ih h
                cases y <;> simp [tmpsOf, this]
          exact this _ hx
        | _ => rfl
      have fin : ∀ v, sops W (o :: os) σ = sops W os ⟨eput σ.e o.dst v, σ.h⟩ → AOps P W os K ⟨eput σ.e o.dst v, σ.h⟩ →
          ((wantedA σ.e o.guard = true ∧ rop W (opd σ.e) σ.h o.op = some (v, σ.h)) ∨ (wantedA σ.e o.guard = false ∧ v = undef)) →
          ∃ σ1, sops W (o :: os) σ = some σ1 ∧ K σ1 ∧ σ1.h = σ.h ∧ (∀ t, (∀ q ∈ o :: os, q.dst ≠ some t) → eget σ1.e t = eget σ.e t) ∧ ∀ q ∈ o :: os, Chk W σ1 q := by
        intro v hs hA hv
        obtain ⟨σ1, g1, g2, g3, g4, g5⟩ := AOps_sops os hrest hA
        have hlook : ∀ t ∈ looksOf o, eget σ1.e t = eget σ.e t := fun t ht => by
          rw [g4 t (hlk t ht)]
          show eget (eput σ.e o.dst v) t = _
          rw [eget_eput, hdst, if_neg]
          intro e; cases e; exact hdl' ht
        have hdv : eget σ1.e d = v := by
          rw [g4 d hne]
          show eget (eput σ.e o.dst v) d = _
          rw [eget_eput, hdst, if_pos rfl]
        refine ⟨σ1, hs.trans g1, g2, g3, fun t ht => ?_, fun q hq => ?_⟩
        · rw [g4 t fun q hq => ht q (List.mem_cons_of_mem _ hq)]
          show eget (eput σ.e o.dst v) t = _
          rw [eget_eput, if_neg (ht o (by simp))]
        · rcases List.mem_cons.1 hq with rfl | hq
          · unfold Chk
            rw [guardEq σ1 hlook, hk, show dval σ1.e q = v by unfold dval; rw [hdst]; exact hdv]
            rcases hv with ⟨h1, h2⟩ | ⟨h1, h2⟩
            · rw [h1]; simp only [if_true]; rw [g3]; show rop W (opd σ1.e) σ.h q.op = some (v, σ.h); rw [opEq σ1 hlook, h2]
            · rw [h1]; simp only [Bool.false_eq_true, if_false]; exact h2
          · exact g5 q hq
      have h' : AOp P W o (AOps P W os K) σ := h
      unfold AOp at h'
      cases hw : wantedA σ.e o.guard with
      | false =>
        rw [hw] at h'
        simp only [Bool.false_eq_true, if_false] at h'
        exact fin undef (by simp [sops, hw]) h' (.inr ⟨hw, rfl⟩)
      | true =>
        rw [hw] at h'
        simp only [if_true] at h'
        have h2 : ∃ v h1, rop W (opd σ.e) σ.h o.op = some (v, h1) ∧ AOps P W os K ⟨eput σ.e o.dst v, h1⟩ := by
          cases hop : o.op <;> rw [hop] at h' hk <;> first | (cases hk; done) | exact h'
        obtain ⟨v, h1, hr, hA⟩ := h2
        have := kind0_heap hk hr
        subst this
        exact fin v (by simp [sops, hw, hr]) hA (.inl ⟨hw, hr⟩)

theorem mkIds_pure : ∀ (os : List ROper) (e : Env), ssaOk os = true → mkIds e os = []
  | [], e, _ => rfl
  | o :: os, e, hs => by
    unfold ssaOk at hs
    simp only [Bool.and_eq_true] at hs
    have hk := kind_ne hs.1.1
    simp [mkIds, hk, mkIds_pure os e hs.2]

/-- A region that draws its order and only reads: as in the text's order. -/
theorem d_pure {ops : List ROper} {K : St → Prop} {σ : St} (hs : ssaOk ops = true) (h : AOps P W ops K σ) : DOps P W [⟨ops, ops, none⟩] K σ := by
  obtain ⟨σ1, g1, g2, g3, g4, g5⟩ := AOps_sops ops hs h
  exact ⟨σ1, g1, g5, (by rw [mkIds_pure _ _ hs]; intro i hi; cases hi), (by rw [mkIds_pure _ _ hs]; exact List.nodup_nil), g2⟩

/-- The same, an effect behind it. -/
theorem d_eff {ops : List ROper} {o : ROper} {ss : List Stage} {K : St → Prop} {σ : St} (hs : ssaOk ops = true) (h : AOps P W ops (AOp P W o (DOps P W ss K)) σ) : DOps P W (⟨ops, ops, some o⟩ :: ss) K σ := by
  obtain ⟨σ1, g1, g2, g3, g4, g5⟩ := AOps_sops ops hs h
  exact ⟨σ1, g1, g5, (by rw [mkIds_pure _ _ hs]; intro i hi; cases hi), (by rw [mkIds_pure _ _ hs]; exact List.nodup_nil), g2⟩

/-- A later stage: what was done before is looked at again. -/
theorem d_next {ops chk : List ROper} {eff : Option ROper} {ss : List Stage} {K : St → Prop} {σ : St} (hs : ssaOk ops = true) (hc : ssaOk chk = true)
    (h : AOps P W ops (fun σ1 => (∀ o ∈ chk, Chk W σ1 o) ∧ match eff with | none => K σ1 | some o => AOp P W o (DOps P W ss K) σ1) σ) : DOps P W (⟨ops, chk, eff⟩ :: ss) K σ := by
  obtain ⟨σ1, g1, ⟨g2, g3⟩, _, _, _⟩ := AOps_sops ops hs h
  refine ⟨σ1, g1, g2, (by rw [mkIds_pure _ _ hs]; intro i hi; cases hi), (by rw [mkIds_pure _ _ hc]; exact List.nodup_nil), g3⟩

theorem aop_call {e : Env} {h : AHeap} {d : Option Nat} {f : Operand} {args : List Operand} {g : Option (Nat × Bool)} {K : St → Prop} {fid : FuncId} {cap : Array Value} {R : Value → AHeap → Prop}
    (hw : wantedA e g = true) (hf : opd e f = .func (.func fid) #[] cap) (hc : ACalls P W fid (args.map (opd e) ++ cap.toList) h R) (hK : ∀ v h', R v h' → K ⟨eput e d v, h'⟩) : AOp P W ⟨d, .call f args, g⟩ K ⟨e, h⟩ := by
  unfold AOp
  simp only [hw, if_true]
  exact ⟨fid, cap, hf, hc.mono hK⟩
end
end Go.Mach
