/- The abstract machine, part 19: what it runs is true of the model. No condition. -/
import Derived.Test.YtlipmjpapkfaeaaGreatDoorM18
set_option linter.unusedSimpArgs false
set_option linter.unusedVariables false
namespace Go.Mach
open Go Go.RowKit

theorem bytes_eq {a b : ByteArray} (h : (a.data.toList == b.data.toList) = true) : a = b := by
  have : a.data.toList = b.data.toList := by simpa using h
  cases a; cases b
  congr 1
  exact Array.ext' this

theorem veq_veqs_sound : ∀ n, (∀ v w, veq n v w = true → v = w) ∧ (∀ xs ys, veqs n xs ys = true → xs = ys)
  | 0 => ⟨fun v w h => by simp [veq] at h, fun xs ys h => by simp [veqs] at h⟩
  | n + 1 => by
    obtain ⟨ih1, ih2⟩ := veq_veqs_sound n
    have arr : ∀ {xs ys : Array Value}, veqs n xs.toList ys.toList = true → xs = ys := fun h => Array.ext' (ih2 _ _ h)
    constructor
    · intro v w h
      unfold veq at h
      split at h <;> try (first | (cases h; done) | rfl)
      · congr 1; simpa using h
      · simp only [Bool.and_eq_true, decide_eq_true_eq, beq_iff_eq] at h; obtain ⟨rfl, rfl⟩ := h; rfl
      · congr 1; exact bytes_eq h
      · simp only [decide_eq_true_eq] at h; rw [h]
      · simp only [Bool.and_eq_true, Tr.nbeq, decide_eq_true_eq] at h; obtain ⟨rfl, rfl⟩ := h; rfl
      · simp only [Bool.and_eq_true, Tr.nbeq, decide_eq_true_eq] at h; obtain ⟨⟨rfl, rfl⟩, rfl⟩ := h; rfl
      · simp only [Tr.nbeq, decide_eq_true_eq] at h; rw [h]
      · simp only [Bool.and_eq_true, Tr.nbeq, decide_eq_true_eq] at h
        obtain ⟨⟨rfl, h2⟩, h3⟩ := h
        rw [arr h2, arr h3]
      · rw [arr h]
      · rw [arr h]
    · intro xs ys h
      unfold veqs at h
      split at h
      · rfl
      · simp only [Bool.and_eq_true] at h
        rw [ih1 _ _ h.1, ih2 _ _ h.2]
      · cases h

theorem veq_sound {n : Nat} {v w : Value} (h : veq n v w = true) : v = w := (veq_veqs_sound n).1 v w h
theorem veqs_sound {n : Nat} {v w : List Value} (h : veqs n v w = true) : v = w := (veq_veqs_sound n).2 v w h

section
variable {P : Program} {W : World} {n : Nat}

theorem chkB_sound {σ : St} {o : ROper} (h : chkB W σ o = true) : Chk W σ o := by
  unfold chkB at h
  unfold Chk
  cases hw : wantedA σ.e o.guard with
  | false =>
    simp only [hw, cond_false] at h
    simp only [Bool.false_eq_true, if_false]
    exact veq_sound h
  | true =>
    simp only [hw, cond_true] at h
    simp only [if_true]
    cases hk : kindOf o.op with
    | none => rw [hk] at h; cases h
    | some q =>
      cases q with
      | zero =>
        simp only [hk] at h ⊢
        split at h
        · rename_i v h' hr
          rw [hr, kind0_heap hk hr, veq_sound h]
        · cases h
      | succ q =>
        simp only [hk] at h ⊢
        split at h
        · rename_i l l' hm hg
          simp only [Bool.and_eq_true] at h
          obtain ⟨⟨h1, h2⟩, h3⟩ := h
          have := veqs_sound h3
          subst this
          exact ⟨l', hm, veq_sound h1, Nat.le_of_ble_eq_true h2, hg⟩
        · cases h

def Ex.toExit : Ex → Exit
  | .normal => .normal
  | .exit id => .exit id
  | .ret => .ret

def CFok (P : Program) (W : World) (cf : CF) : Prop := ∀ f args h v h', cf f args h = some (v, h') → ACalls P W f args h fun v2 h2 => v2 = v ∧ h2 = h'

theorem xop_sound {cf : CF} (hcf : CFok P W cf) {o : ROper} {σ σ' : St} (h : xop W cf o σ = some σ') : AOp P W o (fun σ2 => σ2 = σ') σ := by
  unfold xop at h
  unfold AOp
  cases hw : wantedA σ.e o.guard with
  | false => simp only [hw, cond_false] at h; cases h; simp
  | true =>
    simp only [hw, cond_true] at h
    simp only [if_true]
    cases hop : o.op with
    | call f args =>
      simp only [hop] at h ⊢
      split at h
      · rename_i fid fs cap hf
        cases he : fs.toList.isEmpty with
        | false => simp [he] at h
        | true =>
          simp only [he, cond_true] at h
          split at h
          · rename_i v h' hc
            cases h
            have : fs = #[] := Array.ext' (by simpa using he)
            subst this
            exact ⟨fid, cap, hf, (hcf _ _ _ _ _ hc).mono fun v2 h2 ⟨e1, e2⟩ => by rw [e1, e2]⟩
          · cases h
      · cases h
    | _ =>
      simp only [hop] at h ⊢
      split at h
      · rename_i v h' hr
        cases h
        exact ⟨v, h', hr, rfl⟩
      · cases h

theorem AOp.mono {o : ROper} {K K' : St → Prop} {σ : St} (h : AOp P W o K σ) (hk : ∀ σ, K σ → K' σ) : AOp P W o K' σ := by
  unfold AOp at h ⊢
  split
  · rename_i hw
    rw [if_pos hw] at h
    cases hop : o.op with
    | call f args =>
      simp only [hop] at h ⊢
      obtain ⟨fid, cap, h1, h2⟩ := h
      exact ⟨fid, cap, h1, h2.mono fun _ _ => hk _⟩
    | _ =>
      simp only [hop] at h ⊢
      obtain ⟨v, h', h1, h2⟩ := h
      exact ⟨v, h', h1, hk _ h2⟩
  · rename_i hw
    rw [if_neg hw] at h
    exact hk _ h

theorem xops_sound {cf : CF} (hcf : CFok P W cf) : ∀ {os : List ROper} {σ σ' : St}, xops W cf os σ = some σ' → AOps P W os (fun σ2 => σ2 = σ') σ
  | [], σ, σ', h => by simp [xops] at h; exact h
  | o :: os, σ, σ', h => by
    unfold xops at h
    split at h
    · rename_i σ1 h1
      exact (xop_sound hcf h1).mono fun σ2 e => by rw [e]; exact xops_sound hcf h
    · cases h

theorem allGe_sound {n : Nat} : ∀ {l : List Nat}, allGe n l = true → ∀ i ∈ l, n ≤ i
  | [], _, i, h => by simp at h
  | j :: l, h, i, hi => by
    simp only [allGe, Bool.and_eq_true, Nat.ble_eq] at h
    rcases List.mem_cons.1 hi with rfl | hi
    · exact h.1
    · exact allGe_sound h.2 i hi

theorem distinct_sound : ∀ {l : List Nat}, distinct l = true → l.Nodup
  | [], _ => List.nodup_nil
  | j :: l, h => by
    simp only [distinct, Bool.and_eq_true, Bool.not_eq_true'] at h
    rw [List.nodup_cons]
    refine ⟨fun hm => ?_, distinct_sound h.2⟩
    rw [List.contains_iff_mem.2 hm] at h
    cases h.1

theorem xdraws_sound {cf : CF} (hcf : CFok P W cf) : ∀ {sts : List Stage} {σ σ' : St}, xdraws W cf sts σ = some σ' → DOps P W sts (fun σ2 => σ2 = σ') σ
  | [], σ, σ', h => by simp [xdraws] at h
  | s :: ss, σ, σ', h => by
    unfold xdraws at h
    split at h
    · rename_i σ1 h1
      cases hc : (s.chk.all (chkB W σ1) && allGe σ.h.next (mkIds σ1.e s.ops) && distinct (mkIds σ1.e s.chk)) with
      | false => simp [hc] at h
      | true =>
        simp only [hc, cond_true] at h
        simp only [Bool.and_eq_true, List.all_eq_true] at hc
        obtain ⟨⟨c1, c2⟩, c3⟩ := hc
        refine ⟨σ1, h1, fun o ho => chkB_sound (c1 o ho), allGe_sound c2, distinct_sound c3, ?_⟩
        cases he : s.eff with
        | none => simp only [he] at h ⊢; cases h; rfl
        | some o =>
          simp only [he] at h ⊢
          split at h
          · rename_i σ2 h2
            exact (xop_sound hcf h2).mono fun σ3 e => by rw [e]; exact xdraws_sound hcf h
          · cases h
    · cases h

theorem RWP.of_eq {rc : RCode} {Q : Exit → St → Prop} {σ σ' : St} {e : Exit} (h : RWP P W n rc (fun e2 σ2 => e2 = e ∧ σ2 = σ') σ) (hq : Q e σ') : RWP P W n rc Q σ :=
  h.mono fun e2 σ2 ⟨h1, h2⟩ => by rw [h1, h2]; exact hq

theorem exec_sound (hmix : P.follows .mixedOrders = true) {cf : CF} (hcf : CFok P W cf) {N : Nat} : ∀ (rc : RCode) (σ : St) (e : Ex) (σ' : St), exec W cf N rc σ = some (e, σ') →
    RWP P W n rc (fun e2 σ2 => e2 = e.toExit ∧ σ2 = σ') σ
  | .skip, σ, e, σ', h => by simp only [exec] at h; cases h; exact RWP.skip ⟨rfl, rfl⟩
  | .region os, σ, e, σ', h => by
    simp only [exec] at h
    split at h
    · rename_i σ1 h1
      cases h
      have := xops_sound hcf h1
      refine RWP.region ?_
      have key : ∀ (os : List ROper) (K K' : St → Prop) (σ : St), (∀ σ, K σ → K' σ) → AOps P W os K σ → AOps P W os K' σ := by
        intro os
        induction os with
        | nil => intro K K' σ hk h; exact hk _ h
        | cons o os ih => intro K K' σ hk h; exact AOp.mono h fun σ hσ => ih K K' σ hk hσ
      exact key os _ _ σ (fun σ e => ⟨rfl, e⟩) this
    · cases h
  | .draws sts, σ, e, σ', h => by
    simp only [exec] at h
    split at h
    · rename_i σ1 h1
      cases h
      have := xdraws_sound hcf h1
      refine RWP.draws hmix ?_
      have key : ∀ (ss : List Stage) (K K' : St → Prop) (σ : St), (∀ σ, K σ → K' σ) → DOps P W ss K σ → DOps P W ss K' σ := by
        intro ss
        induction ss with
        | nil => intro K K' σ hk h; exact h
        | cons s ss ih =>
          intro K K' σ hk ⟨σ1, h1, h2, h3, h4, h5⟩
          refine ⟨σ1, h1, h2, h3, h4, ?_⟩
          cases he : s.eff with
          | none => simp only [he] at h5 ⊢; exact hk _ h5
          | some o => simp only [he] at h5 ⊢; exact AOp.mono h5 fun σ hσ => ih K K' σ hk hσ
      exact key sts _ _ σ (fun σ e => ⟨rfl, e⟩) this
    · cases h
  | .seq a b, σ, e, σ', h => by
    simp only [exec] at h
    refine RWP.seq ?_
    cases ha : exec W cf N a σ with
    | none => rw [ha] at h; cases h
    | some r =>
      obtain ⟨e1, σ1⟩ := r
      rw [ha] at h
      have iha := exec_sound hmix hcf a σ e1 σ1 ha
      cases e1 with
      | normal => exact iha.of_eq (exec_sound hmix hcf b σ1 e σ' h)
      | exit id => cases h; exact iha.of_eq ⟨rfl, rfl⟩
      | ret => cases h; exact iha.of_eq ⟨rfl, rfl⟩
  | .cond c a b, σ, e, σ', h => by
    simp only [exec] at h
    split at h
    · rename_i t ht
      refine RWP.cond ht ?_
      cases t with
      | true => simp only [cond_true] at h; simp only [if_true]; exact exec_sound hmix hcf a σ e σ' h
      | false => simp only [cond_false] at h; simp only [Bool.false_eq_true, if_false]; exact exec_sound hmix hcf b σ e σ' h
    · cases h
  | .block id c, σ, e, σ', h => by
    simp only [exec] at h
    refine RWP.block ?_
    cases ha : exec W cf N c σ with
    | none => rw [ha] at h; cases h
    | some r =>
      obtain ⟨e1, σ1⟩ := r
      rw [ha] at h
      have iha := exec_sound hmix hcf c σ e1 σ1 ha
      cases e1 with
      | normal => cases h; exact iha.of_eq ⟨rfl, rfl⟩
      | exit id' =>
        simp only at h
        refine iha.of_eq ?_
        show (if id' = id then _ else _)
        rw [Bool.cond_eq_ite, Tr.nbeq] at h
        by_cases he : id' = id
        · simp only [he, decide_true, if_true] at h ⊢
          cases h; exact ⟨rfl, rfl⟩
        · simp only [he, decide_false, Bool.false_eq_true, if_false] at h ⊢
          cases h; exact ⟨rfl, rfl⟩
      | ret => cases h; exact iha.of_eq ⟨rfl, rfl⟩
  | .loop c, σ, e, σ', h => by
    simp only [exec] at h
    refine RWP.loop (fun k σ1 => iter (exec W cf N c) k σ1 = some (e, σ')) N h ?_
    intro k σ1 hk
    cases k with
    | zero => simp [iter] at hk
    | succ k =>
      unfold iter at hk
      cases ha : exec W cf N c σ1 with
      | none => rw [ha] at hk; cases hk
      | some r =>
        obtain ⟨e1, σ2⟩ := r
        rw [ha] at hk
        have iha := exec_sound hmix hcf c σ1 e1 σ2 ha
        cases e1 with
        | normal => exact iha.of_eq ⟨k, Nat.lt_succ_self k, hk⟩
        | exit id => cases hk; exact iha.of_eq ⟨rfl, rfl⟩
        | ret => cases hk; exact iha.of_eq ⟨rfl, rfl⟩
  | .exit id, σ, e, σ', h => by simp only [exec] at h; cases h; exact RWP.exit ⟨rfl, rfl⟩
  | .ret, σ, e, σ', h => by simp only [exec] at h; cases h; exact RWP.ret ⟨rfl, rfl⟩
  | .fail, σ, e, σ', h => by simp only [exec] at h; cases h

/-- A RUN OF THE MACHINE IS A CONTRACT. -/
theorem callX_sound (hmix : P.follows .mixedOrders = true) {T : FuncId → Option RFunc} (hT : ∀ f rf, T f = some rf → compFn P f = some rf) {O : CF} (hO : CFok P W O) (N : Nat) : ∀ d, CFok P W (callX W T O N d)
  | 0, f, args, h, v, h', hc => by simp [callX] at hc
  | d + 1, f, args, h, v, h', hc => by
    unfold callX at hc
    cases ho : O f args h with
    | some r => rw [ho] at hc; cases hc; exact hO f args h v h' ho
    | none =>
      rw [ho] at hc
      simp only at hc
      cases hf : T f with
      | none => rw [hf] at hc; cases hc
      | some rf =>
        rw [hf] at hc
        simp only at hc
        cases hl : Nat.ble args.length rf.ntmps with
        | false => simp [hl] at hc
        | true =>
          simp only [hl, cond_true] at hc
          have hcf := callX_sound hmix hT hO N d
          have fin : ∀ (e : Ex) (σ : St), (e = .normal ∨ e = .ret) → exec W (callX W T O N d) N rf.body ⟨envOf 0 args .lf, h⟩ = some (e, σ) →
              (match resVals W σ rf.res with | some vs => some (resOf vs, σ.h) | none => none) = some (v, h') → ACalls P W f args h fun v2 h2 => v2 = v ∧ h2 = h' := by
            intro e σ he hx hr
            refine ACalls_of (hT f rf hf) (Nat.le_of_ble_eq_true hl) ((exec_sound hmix hcf rf.body _ e σ hx).of_eq ?_)
            split at hr
            · rename_i vs hvs
              cases hr
              refine ⟨?_, vs, hvs, rfl, rfl⟩
              rcases he with rfl | rfl
              · exact .inl rfl
              · exact .inr rfl
            · cases hr
          cases hx : exec W (callX W T O N d) N rf.body ⟨envOf 0 args .lf, h⟩ with
          | none => rw [hx] at hc; cases hc
          | some r =>
            obtain ⟨e, σ⟩ := r
            rw [hx] at hc
            cases e with
            | normal => exact fin .normal σ (.inl rfl) hx hc
            | ret => exact fin .ret σ (.inr rfl) hx hc
            | exit id => cases hc

theorem HR.start (W : World) : HR W (fun _ => none) AHeap.empty W :=
  ⟨Below.refl _ _, fun i p h => by (cases h), fun i _ => rfl, fun i p b h => by (cases h), fun i j p q b c h => by (cases h)⟩

/-- From the machine to the model: a call whose arguments are plain. -/
theorem ACalls.calls {f : FuncId} {args : List Value} {R : Value → AHeap → Prop} (hc : ACalls P W f args AHeap.empty R) (hp : ∀ v ∈ args, VR (fun _ => none) v v) :
    Calls P f args.toArray W fun e w' => ∃ v v' h' μ', e = .returned v' ∧ VR μ' v v' ∧ HR W μ' h' w' ∧ R v h' :=
  (hc.2 (fun _ => none) args W (HR.start W) ⟨rfl, fun i v hv => ⟨v, hv, hp v (List.mem_of_getElem? hv)⟩⟩).mono fun e w' ⟨v, v', h', μ', h1, h2, h3, _, _, h6⟩ => ⟨v, v', h', μ', h1, h2, h3, h6⟩

end
end Go.Mach
