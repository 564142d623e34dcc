/- corporalaw20.AutomatonKeeps: for every input that the row admits the call returns true and the arguments read as before: the row's statement, and its card. Condition: the listed tables hold what the text lays (the card ties them). -/
import Derived.Test.YtlipmjpapkfaeaaGreatDoorZC8
import Derived.Test.YtlipmjpapkfaeaaGreatDoorZC38
import Derived.Test.YtlipmjpapkfaeaaGreatDoorTie
import Derived.Test.YtlipmjpapkfaeaaGreatDoorCards
import Derived.ChangeMaps5
set_option linter.unusedSimpArgs false
set_option linter.unusedVariables false
namespace Go.Proofs.YtlipmjpapkfaeaaGreatDoor.Row.Keeps
open Go Go.Mach Go.RowKit Go.ChangeShapes Go.WideShapes Go.ChangeAt Go.Proofs

abbrev wit : Array Value := #[.agg #[.slice none 0 0, .slice none 0 0], .string ⟨#[]⟩]

set_option maxRecDepth 100000 in
theorem contract (H : Type) (enc : TypeId × Value → H) (W : World) (base : Nat) (args : Array Value) (ds gs : List (DataW H)) (before : List MemPlace)
    (hval : ∀ (j : Nat) t v, Tryz.f8.params[j]? = some t → args[j]? = some v → Value.okWide Tryz.prog W .any base t v)
    (hW : DataW.Whole enc Tryz.prog Tryz.f8.params.toList Rows.automatonKeepsSpec.vars false W args.toList ds gs before) :
    Calls Tryz.prog 8 args W fun e W' => ∃ v, e = .returned v ∧ Rows.automatonKeepsSpec.post enc Tryz.prog Tryz.f8 false true false false W args v W' := by
  have hW' := hW
  obtain ⟨p, q, hA0, hV, rfl, hfz, hnd⟩ := hW
  have hA : DataW.TrodAll enc Tryz.prog W 0 (fun _ => true) true Tryz.f8.params.toList args.toList ds p := hA0
  rw [Tryz.params8] at hA hval
  obtain ⟨v0, vs0, d0, ds0, p0, q0, hargs, rfl, rfl, h0, r0⟩ := trodAll_cons hA
  obtain ⟨v1, vs1, d1, ds1, p1, q1, hargs1, rfl, rfl, h1, r1⟩ := trodAll_cons r0
  obtain ⟨rfl, rfl, rfl⟩ := trodAll_nil r1
  subst hargs1
  obtain rfl : args = #[v0, v1] := by cases args; simp_all
  obtain ⟨rfl, rfl⟩ := trodVars_none hV
  obtain ⟨v', A, vf, va, vs, hv, hA'⟩ := open_aut (fun _ => rfl) autT h0
  obtain ⟨s, rfl⟩ := okWide_string Tryz.underlying9 (hval 1 9 v1 rfl rfl)
  refine ((Fn.f8_ok W AHeap.empty v' A vf va vs s (hA' _)).true (.cons (hv _) (.cons (.plain rfl) .nil))).mono fun e W' ⟨he, hb⟩ => ?_
  subst he
  refine ⟨_, rfl, post_true laidOut (fun t ht => ?_) rfl rfl Tryz.underlying4 hW' rfl rfl rfl hb⟩
  rw [Tryz.params8] at ht
  obtain rfl | rfl : t = 25 ∨ t = 9 := by simpa using ht
  · exact ⟨by kernel_rfl, of_decide_eq_true (by kernel_rfl)⟩
  · exact ⟨by kernel_rfl, of_decide_eq_true (by kernel_rfl)⟩

theorem laid_met (os : Os) : laidMet Tryz.prog Rows.automatonKeepsRow.laid ((laidWorld os).forCall (fun _ _ => 0) ⟨#[], wit, []⟩).memory :=
  laidMet_of_run' 8 (by kernel_rfl) (by kernel_rfl)
theorem reads (os : Os) {H : Type} (enc : TypeId × Value → H) : ∃ places, DataW.whole enc Tryz.prog ((laidWorld os).forCall (fun _ _ => 0) ⟨#[], wit, []⟩).memory Tryz.f8.params.toList Rows.automatonKeepsSpec.vars false wit.toList 8 = some ([.agg [.nil, .nil], .lit (.string [])], [], places) :=
  ⟨[], by kernel_rfl⟩

set_option maxRecDepth 100000 in
theorem lifted (os : Os) (started : os.Started) (H : Type) (enc : TypeId × Value → H) (F : Stop.Interp) :
    ReturnsInHanded {} Tryz.checked os 8 .any ((OpenSpec.ofChange Rows.automatonKeepsSpec).preRow enc Tryz.prog Tryz.f8 Rows.automatonKeepsRow.domain false Rows.automatonKeepsRow.laid) (((OpenSpec.ofChange Rows.automatonKeepsSpec).at F).post enc Tryz.prog Tryz.f8 false true false false) := by
  obtain ⟨places, hx⟩ := reads os enc
  refine returnsInHanded_of_row (C := Tryz.checked) (s := OpenSpec.ofChange Rows.automatonKeepsSpec) own started (by kernel_rfl) Tryz.func8
    (witness_row_at (enc := enc) (C := Tryz.checked) false (laidWorld os) wit rfl (by kernel_rfl) (by kernel_rfl) (by kernel_rfl)
      (OpenSpec.preRow_of_cond 8 hx (by kernel_rfl) (fun k hk => by cases hk) (by kernel_rfl) (laid_met os))) ?_
  intro W base args ds gs before hval hW _ _ _ hL _ _
  exact contract H enc W base args ds gs before hval hW

theorem said : Rows.AutomatonKeepsSaid :=
  OpenClaim.holds_of_cond 8 Tryz.f8 rfl rfl rfl rfl rfl rfl rfl ⟨rfl, rfl, rfl, rfl, rfl⟩ rfl rfl rfl rfl rfl (by kernel_rfl) Tryz.func8 (by kernel_rfl)
    (of_decide_eq_true (by kernel_rfl)) (by unfold Func.isWrapper; first | (rw [if_pos (by decide +kernel)]; kernel_rfl) | (rw [if_neg (by decide +kernel)]; exact ⟨rfl, rfl⟩))
    (fun os started H enc _ F => by rw [OpenClaim.pre_eq_preRow]; exact lifted os started H enc F)

theorem plain (f : FuncId) (fn : Func) (hf : Tryz.pinned.checked.prog.funcNamed "corpora/corporalaw20.AutomatonKeeps" = some f) (hfn : Tryz.pinned.checked.prog.funcs[f]? = some fn) :
    false = Tryz.pinned.checked.prog.looks [] ∧ ∀ (j : Nat) t, fn.params[j]? = some t → Tryz.pinned.checked.prog.wantsStandIn t = false := by
  obtain rfl : f = 8 := Option.some.inj ((show Tryz.prog.funcNamed "corpora/corporalaw20.AutomatonKeeps" = some 8 by kernel_rfl).symm.trans hf) |>.symm
  obtain rfl : fn = Tryz.f8 := (Option.some.inj (Tryz.func8.symm.trans hfn)).symm
  refine ⟨by kernel_rfl, fun j t ht => ?_⟩
  rw [Tryz.params8] at ht
  obtain rfl | rfl : t = 25 ∨ t = 9 := by simpa using Array.mem_of_getElem? ht
  · exact (show Tryz.prog.wantsStandIn 25 = false by kernel_rfl)
  · exact (show Tryz.prog.wantsStandIn 9 = false by kernel_rfl)
end Go.Proofs.YtlipmjpapkfaeaaGreatDoor.Row.Keeps

namespace Go.Proofs.YtlipmjpapkfaeaaGreatDoor
open Go Go.RowKit
/-- The card. -/
theorem automatonKeeps_card : Rows.AutomatonKeepsCardSaid :=
  Claim7.holds_tied_plain_at .later [] _ _ _ _ Row.Keeps.said (fun _ h => by cases h) (by kernel_rfl) (fun _ h => by cases h) automatonKeeps_row_tie rfl ⟨rfl, rfl⟩ (by kernel_rfl) rfl Row.Keeps.plain (by kernel_rfl)
#print axioms automatonKeeps_card
end Go.Proofs.YtlipmjpapkfaeaaGreatDoor
