/- 'awake' (F18) answers true, in every world, and changes nothing that was there. No condition.
Merged from 1 texts. -/
import Derived.Test.YtlipmjpapkfaeaaGreatDoorZD24
section
set_option maxRecDepth 100000
namespace Go.Proofs.YtlipmjpapkfaeaaGreatDoor.Orc
open Go Go.RowKit Go.Mach Go.Proofs
def TabOk (P : Program) : Nat → List (Option RFunc) → Prop
  | _, [] => True
  | i, none :: t => TabOk P (i + 1) t
  | i, some r :: t => compFn P i = some r ∧ TabOk P (i + 1) t
theorem TabOk.get {P : Program} : ∀ (l : List (Option RFunc)) (i k : Nat) (r : RFunc), TabOk P i l → l[k]? = some (some r) → compFn P (i + k) = some r
  | [], i, k, r, _, h => by simp at h
  | none :: t, i, 0, r, _, h => by simp at h
  | none :: t, i, k + 1, r, ht, h => by
    have := TabOk.get t (i + 1) k r ht (by simpa using h)
    rwa [show i + 1 + k = i + (k + 1) by omega] at this
  | some r0 :: t, i, 0, r, ht, h => by
    simp at h; subst h; exact ht.1
  | some r0 :: t, i, k + 1, r, ht, h => by
    have := TabOk.get t (i + 1) k r ht.2 (by simpa using h)
    rwa [show i + 1 + k = i + (k + 1) by omega] at this
open Fn in
theorem tabOk : TabOk Tryz.prog 0 Fn.tab := by
  unfold Fn.tab
  simp only [TabOk]
  exact ⟨c16, c18, c19, c21, c24, c26, c29, c33, c39, c41, c44, c45, c49, c53, c54, c55, c56, c57, c58, c59, c60, c61, c62, c63, c70, c74, c75, c76, c78, c79, c80, c81, c82, c83, c84, c85, c94, c95, c96, c97, c98, c99, c100, c101, c104, c105, c106, c107, c109, c110, c112, c113, c118, c119, c120, c121, c122, c123, c124, c125, c127, c133, c137, c138, c146, c147, c150, c157, trivial⟩
theorem hT : ∀ f rf, Fn.T f = some rf → compFn Tryz.prog f = some rf := by
  intro f rf h
  unfold Fn.T at h
  cases hl : Fn.tab[f]? with
  | none => rw [hl] at h; cases h
  | some o =>
    rw [hl] at h
    have ho : o = some rf := h
    subst ho
    have := TabOk.get Fn.tab 0 f rf tabOk hl
    rwa [Nat.zero_add] at this
def isT : Option (Value × AHeap) → Bool
  | some (.bool true, _) => true
  | _ => false
theorem awake_run (W : World) : isT (callX W Fn.T orc 1000 60 18 [] AHeap.empty) = true := by kernel_rfl
theorem isT_spec {r : Option (Value × AHeap)} (h : isT r = true) : ∃ h', r = some (.bool true, h') := by
  unfold isT at h
  split at h
  · exact ⟨_, rfl⟩
  · cases h
theorem awake_in (w : World) : Calls Tryz.prog 18 #[] w fun e w' => e = .returned (.bool true) ∧ Below w.heap.size w w' := by
  obtain ⟨h', hr⟩ := isT_spec (awake_run w)
  have hc := callX_sound Fn.hmix hT (orc_ok w) 1000 60 18 [] AHeap.empty _ _ hr
  refine (ACalls.calls hc (by simp)).mono ?_
  rintro e w' ⟨v, v', h2, μ', rfl, hv, hH, rfl, _⟩
  exact ⟨by rw [VR.plain_inv rfl hv], hH.below⟩
theorem awake_ok (W : World) (h : AHeap) : ACalls Tryz.prog W 18 [] h fun v h' => v = .bool true ∧ h' = h :=
  ACalls.of_pure ⟨_, Tryz.func18, by kernel_rfl, by kernel_rfl⟩ (by simp) (fun μ => .plain rfl) awake_in
end Go.Proofs.YtlipmjpapkfaeaaGreatDoor.Orc
end
