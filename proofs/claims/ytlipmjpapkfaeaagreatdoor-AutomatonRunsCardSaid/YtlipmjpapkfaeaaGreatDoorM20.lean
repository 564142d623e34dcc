/- The abstract machine, part 20: the code's precondition as a formula (for straight code), loops by their rule. No condition. -/
import Derived.Test.YtlipmjpapkfaeaaGreatDoorM19
set_option linter.unusedSimpArgs false
set_option linter.unusedVariables false
namespace Go.Mach
open Go Go.RowKit

section
variable (P : Program) (W : World) (n : Nat)

/-- What must hold for the code to end in Q; a loop stays as it is. -/
def WPX : RCode → (Exit → St → Prop) → St → Prop
  | .skip, Q, σ => Q .normal σ
  | .region os, Q, σ => AOps P W os (Q .normal) σ
  | .draws sts, Q, σ => DOps P W sts (Q .normal) σ
  | .seq a b, Q, σ => WPX a (thenS (WPX b Q) Q) σ
  | .cond c a b, Q, σ => ∃ t, opd σ.e c = .bool t ∧ (if t = true then WPX a Q σ else WPX b Q σ)
  | .block id c, Q, σ => WPX c (blockS id Q) σ
  | .loop c, Q, σ => RWP P W n (.loop c) Q σ
  | .exit id, Q, σ => Q (.exit id) σ
  | .ret, Q, σ => Q .ret σ
  | .fail, _, _ => False
end

section
variable {P : Program} {W : World} {n : Nat}

theorem WPX.mono : ∀ (rc : RCode) {Q Q' : Exit → St → Prop} {σ : St}, WPX P W n rc Q σ → (∀ e σ, Q e σ → Q' e σ) → WPX P W n rc Q' σ
  | .skip, Q, Q', σ, h, hq => hq _ _ h
  | .region os, Q, Q', σ, h, hq => by
    unfold WPX at *
    induction os generalizing σ with
    | nil => exact hq _ _ h
    | cons o os ih =>
      simp only [AOps, AOp] at *
      split at h
      · rename_i hw
        simp only [hw, if_true]
        cases hop : o.op with
        | call f args =>
          simp only [hop] at h
          obtain ⟨fid, cap, h1, h2⟩ := h
          exact ⟨fid, cap, h1, h2.mono fun v h' hk => ih _ hk⟩
        | _ =>
          simp only [hop] at h
          obtain ⟨v, h', h1, h2⟩ := h
          exact ⟨v, h', h1, ih _ h2⟩
      · rename_i hw
        simp only [hw]
        exact ih _ h
  | .draws sts, Q, Q', σ, h, hq => by
    unfold WPX at *
    induction sts generalizing σ with
    | nil => exact h.elim
    | cons s ss ih =>
      simp only [DOps] at *
      obtain ⟨σ1, h1, h2, h3, h4, h5⟩ := h
      refine ⟨σ1, h1, h2, h3, h4, ?_⟩
      cases he : s.eff with
      | none => simp only [he] at h5 ⊢; exact hq _ _ h5
      | some o =>
        simp only [he, AOp] at h5 ⊢
        split at h5
        · rename_i hw
          simp only [hw, if_true]
          cases hop : o.op with
          | call f args =>
            simp only [hop] at h5
            obtain ⟨fid, cap, g1, g2⟩ := h5
            exact ⟨fid, cap, g1, g2.mono fun v h' hk => ih _ hk⟩
          | _ =>
            simp only [hop] at h5
            obtain ⟨v, h', g1, g2⟩ := h5
            exact ⟨v, h', g1, ih _ g2⟩
        · rename_i hw
          simp only [hw]
          exact ih _ h5
  | .seq a b, Q, Q', σ, h, hq => by
    unfold WPX at *
    refine WPX.mono a h fun e σ hh => ?_
    cases e <;> simp only [thenS] at *
    · exact WPX.mono b hh hq
    all_goals exact hq _ _ hh
  | .cond c a b, Q, Q', σ, h, hq => by
    unfold WPX at *
    obtain ⟨t, h1, h2⟩ := h
    refine ⟨t, h1, ?_⟩
    split at h2
    · rename_i ht; simp only [ht, if_true]; exact WPX.mono a h2 hq
    · rename_i ht; simp only [ht]; exact WPX.mono b h2 hq
  | .block id c, Q, Q', σ, h, hq => by
    unfold WPX at *
    refine WPX.mono c h fun e σ hh => ?_
    cases e <;> simp only [blockS] at * <;> try exact hq _ _ hh
    split at hh
    · rename_i hi; simp only [hi, if_true]; exact hq _ _ hh
    · rename_i hi; simp only [hi, if_false]; exact hq _ _ hh
  | .loop c, Q, Q', σ, h, hq => by unfold WPX at *; exact h.mono hq
  | .exit id, Q, Q', σ, h, hq => by unfold WPX at *; exact hq _ _ h
  | .ret, Q, Q', σ, h, hq => by unfold WPX at *; exact hq _ _ h
  | .fail, Q, Q', σ, h, hq => h.elim

theorem WPX.sound (hmix : P.follows .mixedOrders = true) : ∀ (rc : RCode) {Q : Exit → St → Prop} {σ : St}, WPX P W n rc Q σ → RWP P W n rc Q σ
  | .skip, Q, σ, h => RWP.skip h
  | .region os, Q, σ, h => RWP.region h
  | .draws sts, Q, σ, h => RWP.draws hmix h
  | .seq a b, Q, σ, h => by
    unfold WPX at h
    refine RWP.seq (RWP.mono (WPX.sound hmix a h) fun e σ hh => ?_)
    cases e <;> simp only [thenS] at *
    · exact WPX.sound hmix b hh
    all_goals exact hh
  | .cond c a b, Q, σ, h => by
    unfold WPX at h
    obtain ⟨t, h1, h2⟩ := h
    refine RWP.cond h1 ?_
    cases t
    · exact WPX.sound hmix b h2
    · exact WPX.sound hmix a h2
  | .block id c, Q, σ, h => by unfold WPX at h; exact RWP.block (WPX.sound hmix c h)
  | .loop c, Q, σ, h => h
  | .exit id, Q, σ, h => RWP.exit h
  | .ret, Q, σ, h => RWP.ret h
  | .fail, Q, σ, h => h.elim

/-- A loop, its round as a formula. -/
theorem WPX.loop (hmix : P.follows .mixedOrders = true) {x : RCode} {Q : Exit → St → Prop} {σ : St} (I : Nat → St → Prop) (k0 : Nat) (h0 : I k0 σ)
    (round : ∀ k σ, I k σ → WPX P W n x (thenS (fun σ' => ∃ k', k' < k ∧ I k' σ') Q) σ) : WPX P W n (.loop x) Q σ := by
  unfold WPX
  exact RWP.loop I k0 h0 fun k σ hI => WPX.sound hmix x (round k σ hI)

theorem ACalls_ofX (hmix : P.follows .mixedOrders = true) {f : FuncId} {rf : RFunc} (hf : compFn P f = some rf) {args : List Value} (hl : args.length ≤ rf.ntmps) {h : AHeap} {R : Value → AHeap → Prop}
    (hb : WPX P W rf.ntmps rf.body (fun e σ' => (e = .normal ∨ e = .ret) ∧ ∃ vs, resVals W σ' rf.res = some vs ∧ R (resOf vs) σ'.h) ⟨envOf 0 args .lf, h⟩) : ACalls P W f args h R :=
  ACalls_of hf hl (WPX.sound hmix _ hb)
end
end Go.Mach
