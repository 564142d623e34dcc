/- What every statement of this seat needs: the postcondition 'true, the arguments as before' from a call that wrote nothing old; the types of automata; a world for the witness. No condition. -/
import Derived.Test.YtlipmjpapkfaeaaGreatDoorG2
import Derived.Test.YtlipmjpapkfaeaaGreatDoorRows
import Derived.ProofKit
import Derived.OpenShut
import Derived.Carry
import Derived.Deep.DeepHandedRow
import Derived.Lib.LaidTab
import Derived.LaidLaws
set_option linter.unusedSimpArgs false
set_option linter.unusedVariables false
namespace Go.Mach
open Go Go.RowKit Go.ChangeShapes
theorem ACalls.calls' {P : Program} {W : World} {f : FuncId} {args cargs : List Value} {R : Value → AHeap → Prop} (hc : ACalls P W f args AHeap.empty R) (hv : VRs (fun _ => none) args cargs) :
    Calls P f cargs.toArray W fun e w' => ∃ v v' h' μ', e = .returned v' ∧ VR μ' v v' ∧ HR W μ' h' w' ∧ R v h' :=
  (hc.2 (fun _ => none) cargs W (HR.start W) hv).mono fun e w' ⟨v, v', h', μ', h1, h2, h3, _, _, h6⟩ => ⟨v, v', h', μ', h1, h2, h3, h6⟩

theorem ACalls.true {P : Program} {W : World} {f : FuncId} {args cargs : List Value} (hc : ACalls P W f args AHeap.empty fun r _ => r = .bool true) (hv : VRs (fun _ => none) args cargs) :
    Calls P f cargs.toArray W fun e w' => e = .returned (.bool true) ∧ Below W.heap.size W w' :=
  (hc.calls' hv).mono fun e w' ⟨v, v', h', μ', h1, h2, h3, h4⟩ => by
    subst h4; subst h1
    exact ⟨by rw [VR.plain_inv rfl h2], h3.below⟩

theorem trodAll_below {H : Type} {enc : TypeId × Value → H} {P : Program} {W W' : World} (hl : laidOutB P = true) (hb : Below W.heap.size W W') : ∀ (ts : List TypeId) (vs : List Value) (ds : List (DataW H)) (ps : List MemPlace),
    (∀ t ∈ ts, P.readableRec t = true ∧ t < P.types.size) → DataW.TrodAll enc P W 0 (fun _ => true) true ts vs ds ps → (∀ x ∈ ps, x.block < W.heap.size) →
    DataW.TrodAll enc P W' 0 (fun b => decide (b < W.heap.size)) true ts vs ds ps
  | [], [], [], ps, _, h, _ => h
  | t :: ts, v :: vs, d :: ds, ps, ht, h, hlt => by
    obtain ⟨p, q, h1, h2, rfl⟩ := h
    refine ⟨p, q, Below.trod hl (ht t (by simp)).1 (ht t (by simp)).2 h1 hb fun x hx => hlt x (by simp [hx]), trodAll_below hl hb ts vs ds q (fun t' h' => ht t' (by simp [h'])) h2 fun x hx => hlt x (by simp [hx]), rfl⟩
  | [], [], _ :: _, ps, _, h, _ => h.elim
  | [], _ :: _, _, ps, _, h, _ => h.elim
  | _ :: _, [], _, ps, _, h, _ => h.elim
  | _ :: _, _ :: _, [], ps, _, h, _ => h.elim

/-- 'True, and the arguments as before.' -/
theorem post_true {H : Type} {enc : TypeId × Value → H} {P : Program} {f : Func} {s : ChangeSpec} {W W' : World} {args : Array Value} {ds gs : List (DataW H)} {before : List MemPlace} {tb : TypeId} (hl : laidOutB P = true)
    (hr : ∀ t ∈ f.params.toList, P.readableRec t = true ∧ t < P.types.size) (hv0 : s.vars = []) (hrt : f.resultTypes = #[tb]) (hub : P.underlying tb = some .bool)
    (hW : DataW.Whole enc P f.params.toList s.vars false W args.toList ds gs before) (h1 : (s.fn H (ds ++ gs)).results = [.lit (.bool true)]) (h2 : (s.fn H (ds ++ gs)).args = ds) (h3 : (s.fn H (ds ++ gs)).vars = [])
    (hb : Below W.heap.size W W') : s.post enc P f false true false false W args (.bool true) W' := by
  have hW' := hW
  obtain ⟨p, q, hA, hV, rfl, hfz, hnd⟩ := hW
  refine ⟨ds, gs, p ++ q, [], p, [], hW', ?_, ?_, ?_, hb.frame _, fun h => by cases h⟩
  · rw [h1, hrt]
    exact trodAll_cons_mk (shut_bool hub _) trodAll_mk0
  · rw [h2]
    exact trodAll_below hl hb _ _ _ _ hr hA fun x hx => hW'.lt x (by simp [hx])
  · rw [h3, hv0]
    rfl
end Go.Mach

namespace Go.Proofs.YtlipmjpapkfaeaaGreatDoor.Row
open Go Go.Mach Go.RowKit Go.ChangeShapes Go.WideShapes Go.Proofs

theorem own : ownKnob Tryz.prog.godebug = none := by kernel_rfl
theorem laidOut : laidOutB Tryz.prog = true := by kernel_rfl

theorem autT : AutT Tryz.prog 25 22 4 23 39 38 21 3 where
  uA := ⟨_, Tryz.underlying25, _, _, rfl, rfl, rfl, rfl, rfl, rfl⟩
  cA := by kernel_rfl
  uF := Tryz.underlying22
  cF := by kernel_rfl
  uB := Tryz.underlying4
  cB := by kernel_rfl
  uL := Tryz.underlying23
  cL := by kernel_rfl
  uR := Tryz.underlying39
  cR := by kernel_rfl
  uX := ⟨_, Tryz.underlying38, _, _, _, rfl, rfl, rfl, rfl, rfl, rfl, rfl, rfl, rfl⟩
  cX := by kernel_rfl
  u32 := Tryz.underlying21
  c32 := by kernel_rfl
  u64 := Tryz.underlying3
  c64 := by kernel_rfl

/-- The numbers of a flat datum, as cells. -/
def litV : DataW Unit → Value
  | .lit (.int k n) => .int k n
  | _ => .nilFunc
def aggL : DataW Unit → List (DataW Unit)
  | .agg l => l
  | _ => []
def firstV : List Value := (aggL Go.Pinned.utf8First).map litV
def acceptV : List Value := (aggL (Rows.laid_unicode_utf8_acceptRanges (H := Unit))).flatMap fun d => (aggL d).map litV

def layCells (l : List Value) : Obj → Obj
  | .cells _ t frozen => .cells l.toArray t frozen
  | o => o

/-- A world for the witness: the settled one, both tables laid. -/
noncomputable def laidWorld (os : Os) : World :=
  { World.holding Tryz.prog os ⟨#[], #[], []⟩ with heap := (((World.holding Tryz.prog os ⟨#[], #[], []⟩).heap.modify 0 (layCells firstV)).modify 1 (layCells acceptV)) }
end Go.Proofs.YtlipmjpapkfaeaaGreatDoor.Row
