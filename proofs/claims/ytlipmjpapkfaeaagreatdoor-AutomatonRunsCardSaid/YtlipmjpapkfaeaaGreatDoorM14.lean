/- The abstract machine, part 14: a region that draws the order of its operations. No condition. -/
import Derived.Test.YtlipmjpapkfaeaaGreatDoorM13
set_option linter.unusedSimpArgs false
set_option linter.unusedVariables false
namespace Go.Mach
open Go Go.RowKit

section
variable {P : Program} {W : World} {n : Nat}

/-- A region that draws its order, in the machine: stage by stage; what may be done later is looked at again. -/
def DOps (P : Program) (W : World) : List Stage → (St → Prop) → St → Prop
  | [], _, _ => False
  | s :: ss, K, σ => ∃ σ1, sops W s.ops σ = some σ1 ∧ (∀ o ∈ s.chk, Chk W σ1 o) ∧ (∀ i ∈ mkIds σ1.e s.ops, σ.h.next ≤ i) ∧ (mkIds σ1.e s.chk).Nodup ∧
      (match s.eff with
       | none => K σ1
       | some o => AOp P W o (DOps P W ss K) σ1)

/-! ### what makes a block, and what makes none -/
theorem kind0_heap {ρ : Operand → Value} {h h' : AHeap} {r : ROp} {v : Value} (hk : kindOf r = some 0) (hr : rop W ρ h r = some (v, h')) : h' = h := by
  cases r <;> simp [kindOf] at hk <;> simp only [rop] at hr
  all_goals first
    | (cases hr; rfl)
    | (obtain ⟨u, _, he⟩ := some_map hr; cases he; rfl)
    | ((repeat' (split at hr)) <;> first | (cases hr; done) | (cases hr; rfl) | (obtain ⟨u, _, he⟩ := some_map hr; cases he; rfl) | skip)
  all_goals (rw [Bool.cond_eq_ite] at hr; split at hr <;> first | (cases hr; done) | (cases hr; rfl))

theorem kind1_make {ρ : Operand → Value} {h h' : AHeap} {r : ROp} {v : Value} {q : Nat} (hk : kindOf r = some (q + 1)) (hr : rop W ρ h r = some (v, h')) : ∃ l, h' = h.new (.cells l) := by
  cases r <;> simp [kindOf] at hk <;> simp only [rop] at hr
  · cases hr; exact ⟨_, rfl⟩
  · rw [Bool.cond_eq_ite] at hr; split at hr <;> cases hr; exact ⟨_, rfl⟩
  · split at hr
    · rw [Bool.cond_eq_ite] at hr; split at hr <;> cases hr; exact ⟨_, rfl⟩
    · cases hr

/-- A block that only the machine knows of changes nothing. -/
theorem HR.ghost {μ : PMap} {h : AHeap} {w : World} (H : HR W μ h w) (b : ABlk) : HR W μ (h.new b) w := by
  refine ⟨H.below, fun i p hp => by have := H.dom i p hp; simp only [AHeap.new]; omega, ?_, ?_, ?_⟩
  · intro i hi
    simp only [AHeap.new] at hi ⊢
    rw [Tr.get_set_ne _ _ _ _ (by omega)]
    exact H.fresh i (by omega)
  · intro i p c hp hc
    have := H.dom i p hp
    simp only [AHeap.new] at hc
    rw [Tr.get_set_ne _ _ _ _ (by omega)] at hc
    exact H.rep i p c hp hc
  · intro i j p q b' c hp hq hb hc hl hl' hpq
    have h1 := H.dom i p hp
    have h2 := H.dom j q hq
    simp only [AHeap.new] at hb hc
    rw [Tr.get_set_ne _ _ _ _ (by omega)] at hb hc
    exact H.inj i j p q b' c hp hq hb hc hl hl' hpq

/-- The operations of a stage: the slots that they write apart, the frame is as it was; the heap has grown by blocks alone. -/
theorem sops_spec : ∀ {os : List ROper} {σ σ1 : St}, (∀ o ∈ os, ∃ q, kindOf o.op = some q) → sops W os σ = some σ1 →
    (∀ t, (∀ o ∈ os, o.dst ≠ some t) → eget σ1.e t = eget σ.e t) ∧ σ.h.next ≤ σ1.h.next ∧ (∀ μ w, HR W μ σ.h w → HR W μ σ1.h w)
  | [], σ, σ1, _, h => by simp [sops] at h; subst h; exact ⟨fun _ _ => rfl, Nat.le_refl _, fun _ _ h => h⟩
  | o :: os, σ, σ1, hk, h => by
    unfold sops at h
    have hk' : ∀ o ∈ os, ∃ q, kindOf o.op = some q := fun o ho => hk o (by simp [ho])
    rw [Bool.cond_eq_ite] at h
    split at h
    · split at h
      · rename_i v h' hr
        obtain ⟨h1, h2, h3⟩ := sops_spec hk' h
        obtain ⟨q, hq⟩ := hk o (by simp)
        have hh : σ.h.next ≤ h'.next ∧ ∀ μ w, HR W μ σ.h w → HR W μ h' w := by
          cases q with
          | zero => have := kind0_heap hq hr; subst this; exact ⟨Nat.le_refl _, fun _ _ h => h⟩
          | succ q => obtain ⟨l, rfl⟩ := kind1_make hq hr; exact ⟨by simp [AHeap.new], fun _ _ h => h.ghost _⟩
        refine ⟨fun t ht => ?_, Nat.le_trans hh.1 h2, fun μ w H => h3 μ w (hh.2 μ w H)⟩
        rw [h1 t (fun o ho => ht o (by simp [ho])), eget_eput, if_neg (ht o (by simp))]
      · cases h
    · obtain ⟨h1, h2, h3⟩ := sops_spec hk' h
      refine ⟨fun t ht => ?_, h2, h3⟩
      rw [h1 t (fun o ho => ht o (by simp [ho])), eget_eput, if_neg (ht o (by simp))]

/-- A block that the machine has made already, and the world makes now. -/
theorem HR.allocAt {μ : PMap} {h : AHeap} {w : World} (H : HR W μ h w) {i : Nat} (hi : i < h.next) (hμ : μ i = none) {l l' : List Value} (hg : h.own.get i = some (.cells l)) (hl : VRs μ l l') (h1 : ∀ v ∈ l, v.oneCell' = true) (e esz : Nat) :
    HR W (μ.upd i ⟨w.heap.size, 0, l'.length, esz⟩) h (w.alloc (.cells l'.toArray e)) := by
  have hm : ∀ j p, μ j = some p → (μ.upd i ⟨w.heap.size, 0, l'.length, esz⟩) j = some p := by
    intro j p hp
    have : j ≠ i := by rintro rfl; rw [hμ] at hp; cases hp
    rw [PMap.upd_ne μ _ this]; exact hp
  refine ⟨H.below.alloc H.below.size _, ?_, H.fresh, ?_, ?_⟩
  · intro j p hp
    by_cases e' : j = i
    · omega
    · rw [PMap.upd_ne μ _ e'] at hp; exact H.dom j p hp
  · intro j p b hp hb
    by_cases e' : j = i
    · subst e'
      rw [PMap.upd_self] at hp; cases hp
      rw [hg] at hb; cases hb
      refine ⟨H.below.size, l'.toArray, e, heap_alloc_new w _, by simp, by have := hl.1; simp; omega, ?_⟩
      intro k v hv
      obtain ⟨v', h2, h3⟩ := hl.2 k v hv
      have h4 := h1 v (List.mem_of_getElem? hv)
      exact ⟨h4, v', by simpa using h2, by rw [h3.oneCell]; exact h4, h3.mono hm⟩
    · rw [PMap.upd_ne μ _ e'] at hp
      have hr := H.rep j p b hp hb
      exact hr.mono hm (fun hl => by have := hr.lt hl; exact heap_alloc_old w _ p.blk this)
  · intro j k p q b c hp hq hb hc hl hl' hpq
    by_cases e1 : j = i
    · by_cases e2 : k = i
      · omega
      · exfalso
        subst e1
        rw [PMap.upd_self] at hp; cases hp
        rw [PMap.upd_ne μ _ e2] at hq
        have := (H.rep k q c hq hc).lt hl'
        simp only at hpq; omega
    · rw [PMap.upd_ne μ _ e1] at hp
      by_cases e2 : k = i
      · exfalso
        subst e2
        rw [PMap.upd_self] at hq; cases hq
        have := (H.rep j p b hp hb).lt hl
        simp only at hpq; omega
      · rw [PMap.upd_ne μ _ e2] at hq
        exact H.inj j k p q b c hp hq hb hc hl hl' hpq

/-- The block-making operations, run late. -/
theorem make_run {o : Oper} {r : ROp} {q : Nat} (hc : compRaw P o.op = some r) (hk : kindOf r = some (q + 1)) {μ : PMap} {h : AHeap} {w : World} (H : HR W μ h w) {ρ ρ' : Operand → Value}
    (hρ : ∀ x ∈ o.op.operands.toList, VR μ (ρ x) (ρ' x)) {l : List Value} (hm : mkOf ρ r = some l) {i : Nat} (hi : i < h.next) (hμ : μ i = none) (hg : h.own.get i = some (.cells l)) :
    ∃ v' w' μ', (execOp ρ' o).run P w = .ok (.value v') w' ∧ VR μ' (mkVal i r) v' ∧ HR W μ' h w' ∧ (∀ j, j ≠ i → μ' j = μ j) ∧ (∀ j p, μ j = some p → μ' j = some p) := by
  have fin : ∀ (l' : List Value) (e esz : Nat) (v' : Value), VRs μ l l' → (∀ v ∈ l, v.oneCell' = true) → (execOp ρ' o).run P w = .ok (.value v') (w.alloc (.cells l'.toArray e)) →
      VR (μ.upd i ⟨w.heap.size, 0, l'.length, esz⟩) (mkVal i r) v' →
      ∃ v' w' μ', (execOp ρ' o).run P w = .ok (.value v') w' ∧ VR μ' (mkVal i r) v' ∧ HR W μ' h w' ∧ (∀ j, j ≠ i → μ' j = μ j) ∧ (∀ j p, μ j = some p → μ' j = some p) := by
    intro l' e esz v' h1 h2 h3 h4
    refine ⟨v', _, _, h3, h4, H.allocAt hi hμ hg h1 h2 e esz, fun j hj => PMap.upd_ne μ _ hj, ?_⟩
    intro j p hp
    have : j ≠ i := by rintro rfl; rw [hμ] at hp; cases hp
    rw [PMap.upd_ne μ _ this]; exact hp
  -- the run at the heap as it is, with the block's number the next one
  cases hop : o.op with
  | alloc e =>
    simp only [hop, compRaw] at hc
    obtain ⟨z, hz, rfl⟩ := some_map hc
    simp only [mkOf] at hm; cases hm
    obtain ⟨u, k, h1, h2, h3, h4, h5⟩ := zerosT_spec hz
    have hu : u.cells = l.toArray := Array.ext' (by rw [cells_toList, h3])
    refine fin l e 0 (.pointer (some ⟨w.heap.size, 0, none⟩)) (VR.plains h5) (plain_all_one h5) ?_ VR.newP
    unfold execOp
    rw [hop]
    simp [Instr.alloc, zeroT_run h1, newVar, newRow, hu]
  | box e x =>
    simp only [hop, compRaw] at hc hρ; cases hc
    simp only [mkOf] at hm
    rw [Bool.cond_eq_ite] at hm
    split at hm
    · rename_i hb
      cases hm
      have hx := hρ x (by simp [Op.operands])
      have hu : (ρ' x).cells = (celsL (ρ' x)).toArray := Array.ext' (by rw [cells_toList])
      refine fin (celsL (ρ' x)) e 0 (.pointer (some ⟨w.heap.size, 0, none⟩)) hx.cels (fun v hv => by rw [← oneV_eq]; exact List.all_eq_true.1 hb v hv) ?_ VR.newP
      unfold execOp
      rw [hop]
      simp [Instr.box, newVar, newRow, hu]
    · cases hm
  | buildSlice t m ps =>
    simp only [hop, compRaw] at hc hρ
    have hv : ∀ p ∈ ps.toList, VR μ (ρ p.2) (ρ' p.2) := fun p hp => hρ p.2 (by simp only [Op.operands, List.mem_map]; exact ⟨p, hp, rfl⟩)
    split at hc
    · rename_i e ht
      split at hc
      · rename_i z hz
        split at hc
        · rename_i hn
          cases hc
          simp only [mkOf] at hm
          split at hm
          · rename_i l0 hl0
            rw [Bool.cond_eq_ite] at hm
            split at hm
            · rename_i hb
              cases hm
              -- through the lemma on the machine's own run
              have hrop : rop W ρ h (.buildSl (repL z m) (elemParts z.length ps.toList) m z.length) = some (oS h.next 0 m z.length, h.new (.cells l)) := by simp only [rop, hl0, hb, cond_true]
              obtain ⟨u, k, h1, h2, h3, h4, h5⟩ := zerosT_spec hz
              subst h4
              obtain ⟨e1, e2⟩ := elemParts_spec z.length ps.toList
              obtain ⟨l', g1, g2, g3⟩ := fill_run (fun i => some (i * z.length, z.length)) ps.toList _ (repL z m) (repL z m) l e1 e2 hv (VR.plains (repL_plain h5 m)) hl0
              have hlen : l'.length = m * z.length := by rw [← g2.1, g3, repL_length]
              have hu : u.cells = z.toArray := Array.ext' (by rw [cells_toList, h3])
              have hps : (ps.map fun (i, x) => (i, ρ' x)).toList = ps.toList.map fun p => (p.1, ρ' p.2) := by simp
              have hn' : ¬ (m * z.length > 2 ^ 24) := by omega
              refine fin l' e z.length (.slice (some ⟨w.heap.size, 0, none⟩) m m) g2 (fun v hv => by rw [← oneV_eq]; exact List.all_eq_true.1 hb v hv) ?_ (VR.newS (Nat.le_refl m) (by omega))
              unfold execOp
              rw [hop]
              by_cases h0 : m * z.length = 0
              · have hr0 : (Array.range (m * z.length)).map (fun i => (#[] : Array Value)[i % (#[] : Array Value).size]!) = (repL z m).toArray := by
                  rw [h0]; apply Array.ext'
                  have : repL z m = [] := List.eq_nil_of_length_eq_zero (by rw [repL_length]; exact h0)
                  simp [this]
                rw [h0] at hr0 hn'
                simp only [Instr.buildSlice, Sem.run_bind, run_underlying ht, Result.andThen_ok, sizeT_run h2, h0, hn', if_false, if_true, Sem.run_pure, hr0, hps, g1, newRow, run_newObj]
                rfl
              · simp only [Instr.buildSlice, Sem.run_bind, run_underlying ht, Result.andThen_ok, sizeT_run h2, h0, hn', if_false, zeroT_run h1, Sem.run_pure, hu, zeros_eq, hps, g1, newRow, run_newObj]
                rfl
            · cases hm
          · cases hm
        · cases hc
      · cases hc
    · cases hc
  | makeMap t r' =>
    exfalso
    cases r' with
    | none => simp only [hop, compRaw] at hc; cases hc; simp [kindOf] at hk
    | some x => simp [hop, compRaw] at hc
  | slice t x lo hi mx =>
    exfalso
    cases mx with
    | some x => simp [hop, compRaw] at hc
    | none =>
      simp only [hop, compRaw] at hc
      (repeat' (split at hc)) <;> first
        | (cases hc; done)
        | (cases hc; simp [kindOf] at hk; done)
  | next x b =>
    exfalso
    cases b with
    | false => simp [hop, compRaw] at hc
    | true => simp only [hop, compRaw] at hc; cases hc; simp [kindOf] at hk
  | _ =>
    exfalso
    simp only [hop, compRaw] at hc
    (repeat' (split at hc)) <;> first
      | (cases hc; done)
      | (cases hc; simp [kindOf] at hk; done)
      | (obtain ⟨_, _, he⟩ := some_map hc; cases he; simp [kindOf] at hk; done)

end
end Go.Mach
