/- corporalaw20.AutomatonMinimizes: for every input that the row admits the call returns true and the argument reads as before: the row's statement, and its card. Condition: the listed tables hold what the text lays (the card ties them). -/
import Derived.Test.YtlipmjpapkfaeaaGreatDoorZD8
import Derived.Test.YtlipmjpapkfaeaaGreatDoorZD41
import Derived.Test.YtlipmjpapkfaeaaGreatDoorTie
import Derived.Test.YtlipmjpapkfaeaaGreatDoorCards
set_option linter.unusedSimpArgs false
set_option linter.unusedVariables false
namespace Go.Proofs.YtlipmjpapkfaeaaGreatDoor.Row.Minimizes
open Go Go.Mach Go.RowKit Go.ChangeShapes Go.WideShapes Go.ChangeAt Go.Proofs

abbrev wit : Array Value := #[.agg #[.slice none 0 0, .slice none 0 0]]

theorem contract (H : Type) (enc : TypeId × Value → H) (W : World) (args : Array Value) (ds gs : List (DataW H)) (before : List MemPlace)
    (hW : DataW.Whole enc Tryz.prog Tryz.f5.params.toList Rows.automatonMinimizesSpec.vars false W args.toList ds gs before) :
    Calls Tryz.prog 5 args W fun e W' => ∃ v, e = .returned v ∧ Rows.automatonMinimizesSpec.post enc Tryz.prog Tryz.f5 false true false false W args v W' := by
  have hW' := hW
  obtain ⟨p, q, hA0, hV, rfl, hfz, hnd⟩ := hW
  have hA : DataW.TrodAll enc Tryz.prog W 0 (fun _ => true) true Tryz.f5.params.toList args.toList ds p := hA0
  rw [Tryz.params5] at hA
  obtain ⟨v0, vs0, d0, ds0, p0, q0, hargs, rfl, rfl, h0, r0⟩ := trodAll_cons hA
  obtain ⟨rfl, rfl, rfl⟩ := trodAll_nil r0
  obtain rfl : args = #[v0] := by cases args; simp_all
  obtain ⟨rfl, rfl⟩ := trodVars_none hV
  obtain ⟨v', A, vf, va, vs, hv, hA'⟩ := open_aut (fun _ => rfl) autT h0
  refine ((Fn.f5_ok W AHeap.empty v' A vf va vs (hA' _)).true (.cons (hv _) .nil)).mono fun e W' ⟨he, hb⟩ => ?_
  subst he
  refine ⟨_, rfl, post_true laidOut (fun t ht => ?_) rfl rfl Tryz.underlying4 hW' rfl rfl rfl hb⟩
  rw [Tryz.params5] at ht
  obtain rfl : t = 25 := by simpa using ht
  exact ⟨by kernel_rfl, of_decide_eq_true (by kernel_rfl)⟩

theorem laid_met (os : Os) : laidMet Tryz.prog Rows.automatonMinimizesRow.laid ((laidWorld os).forCall (fun _ _ => 0) ⟨#[], wit, []⟩).memory :=
  laidMet_of_run' 8 (by kernel_rfl) (by kernel_rfl)
theorem reads (os : Os) {H : Type} (enc : TypeId × Value → H) : ∃ places, DataW.whole enc Tryz.prog ((laidWorld os).forCall (fun _ _ => 0) ⟨#[], wit, []⟩).memory Tryz.f5.params.toList Rows.automatonMinimizesSpec.vars false wit.toList 8 = some ([.agg [.nil, .nil]], [], places) :=
  ⟨[], by kernel_rfl⟩

set_option maxRecDepth 100000 in
theorem lifted (os : Os) (started : os.Started) (H : Type) (enc : TypeId × Value → H) (F : Stop.Interp) :
    ReturnsInHanded {} Tryz.checked os 5 .any ((OpenSpec.ofChange Rows.automatonMinimizesSpec).preRow enc Tryz.prog Tryz.f5 Rows.automatonMinimizesRow.domain false Rows.automatonMinimizesRow.laid) (((OpenSpec.ofChange Rows.automatonMinimizesSpec).at F).post enc Tryz.prog Tryz.f5 false true false false) := by
  obtain ⟨places, hx⟩ := reads os enc
  refine returnsInHanded_of_row (C := Tryz.checked) (s := OpenSpec.ofChange Rows.automatonMinimizesSpec) own started (by kernel_rfl) Tryz.func5
    (witness_row_at (enc := enc) (C := Tryz.checked) false (laidWorld os) wit rfl (by kernel_rfl) (by kernel_rfl) (by kernel_rfl)
      (OpenSpec.preRow_of_cond 8 hx (by kernel_rfl) (fun k hk => by cases hk) (by kernel_rfl) (laid_met os))) ?_
  intro W base args ds gs before hval hW _ _ _ hL _ _
  exact contract H enc W args ds gs before hW

theorem said : Rows.AutomatonMinimizesSaid :=
  OpenClaim.holds_of_cond 5 Tryz.f5 rfl rfl rfl rfl rfl rfl rfl ⟨rfl, rfl, rfl, rfl, rfl⟩ rfl rfl rfl rfl rfl (by kernel_rfl) Tryz.func5 (by kernel_rfl)
    (of_decide_eq_true (by kernel_rfl)) (by unfold Func.isWrapper; first | (rw [if_pos (by decide +kernel)]; kernel_rfl) | (rw [if_neg (by decide +kernel)]; exact ⟨rfl, rfl⟩))
    (fun os started H enc _ F => by rw [OpenClaim.pre_eq_preRow]; exact lifted os started H enc F)

theorem plain (f : FuncId) (fn : Func) (hf : Tryz.pinned.checked.prog.funcNamed "corpora/corporalaw20.AutomatonMinimizes" = some f) (hfn : Tryz.pinned.checked.prog.funcs[f]? = some fn) :
    false = Tryz.pinned.checked.prog.looks [] ∧ ∀ (j : Nat) t, fn.params[j]? = some t → Tryz.pinned.checked.prog.wantsStandIn t = false := by
  obtain rfl : f = 5 := Option.some.inj ((show Tryz.prog.funcNamed "corpora/corporalaw20.AutomatonMinimizes" = some 5 by kernel_rfl).symm.trans hf) |>.symm
  obtain rfl : fn = Tryz.f5 := (Option.some.inj (Tryz.func5.symm.trans hfn)).symm
  refine ⟨by kernel_rfl, fun j t ht => ?_⟩
  rw [Tryz.params5] at ht
  obtain rfl : t = 25 := by simpa using Array.mem_of_getElem? ht
  exact (show Tryz.prog.wantsStandIn 25 = false by kernel_rfl)
end Go.Proofs.YtlipmjpapkfaeaaGreatDoor.Row.Minimizes

namespace Go.Proofs.YtlipmjpapkfaeaaGreatDoor
open Go Go.RowKit
/-- The card. -/
theorem automatonMinimizes_card : Rows.AutomatonMinimizesCardSaid :=
  Claim7.holds_tied_plain_at .later [] _ _ _ _ Row.Minimizes.said (fun _ h => by cases h) (by kernel_rfl) (fun _ h => by cases h) automatonMinimizes_row_tie rfl ⟨rfl, rfl⟩ (by kernel_rfl) rfl Row.Minimizes.plain (by kernel_rfl)
#print axioms automatonMinimizes_card
end Go.Proofs.YtlipmjpapkfaeaaGreatDoor
