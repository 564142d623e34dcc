/- The oracles: codepoint.Valid, codepoint.At, strings.ContainsRune as functions of the abstract machine. No condition.
Merged from 1 texts. -/
import Derived.Test.YtlipmjpapkfaeaaGreatDoorZD22
import Derived.Test.YtlipmjpapkfaeaaGreatDoorZD23
import Derived.Test.YtlipmjpapkfaeaaGreatDoorZD11
section
set_option linter.unusedSimpArgs false
set_option linter.unusedVariables false
namespace Go.Mach
open Go Go.RowKit
theorem BR.later {W : World} {μ : PMap} {p : Place} {w w' : World} {b : ABlk} (h : BR W μ p w b) (hb : Below w.heap.size w w') : BR W μ p w' b := by
  cases b with
  | dead => trivial
  | cells c =>
    have hl := BR.lt h rfl
    obtain ⟨h0, cs, e, h1, h2⟩ := h
    exact ⟨h0, cs, e, (hb.block _ hl).trans h1, h2⟩
  | map es =>
    have hl := BR.lt h rfl
    obtain ⟨h0, ents, clock, h1, h2⟩ := h
    exact ⟨h0, ents, clock, (hb.block _ hl).trans h1, h2⟩
  | iter s pos =>
    have hl := BR.lt h rfl
    exact ⟨h.1, (hb.block _ hl).trans h.2.1, h.2.2⟩
theorem HR.later {W : World} {μ : PMap} {h : AHeap} {w w' : World} (H : HR W μ h w) (hb : Below w.heap.size w w') : HR W μ h w' :=
  ⟨H.below.trans (hb.mono H.below.size), H.dom, H.fresh, fun i p b hi hg => (H.rep i p b hi hg).later hb, H.inj⟩
theorem ACalls.of_pure {P : Program} {W : World} {f : FuncId} {args : List Value} {h : AHeap} {v : Value} (hc : callable P f) (hp : ∀ v ∈ args, plainV v = true) (hv : ∀ μ, VR μ v v)
    (hcall : ∀ w, Calls P f args.toArray w fun e w' => e = .returned v ∧ Below w.heap.size w w') : ACalls P W f args h fun v2 h2 => v2 = v ∧ h2 = h := by
  refine ⟨hc, fun μ cargs w H hvs => ?_⟩
  have he : cargs = args := by
    apply List.ext_getElem?
    intro i
    rcases Nat.lt_or_ge i args.length with hi | hi
    · obtain ⟨v', h1, h2⟩ := hvs.2 i args[i] (by simp [hi])
      rw [h1, List.getElem?_eq_getElem hi]
      have hpl := hp args[i] (List.getElem_mem hi)
      rw [VR.plain_inv hpl h2]
    · rw [List.getElem?_eq_none hi, List.getElem?_eq_none (by rw [← hvs.1]; exact hi)]
  subst he
  exact (hcall w).mono fun e w' ⟨h1, h2⟩ => ⟨v, v, h, μ, h1, hv μ, H.later h2, Ext.refl _ _, Nat.le_refl _, rfl, rfl⟩
end Go.Mach
namespace Go.Proofs.YtlipmjpapkfaeaaGreatDoor.Orc
open Go Go.RowKit Go.Mach Go.Proofs
def orc : CF := fun f args h =>
  if f == 40 then (match args with
    | [.string s] => if s.size < 4611686018427387904 then some (.bool (validB s), h) else none
    | _ => none)
  else if f == 69 then (match args with
    | [.string s, .int .i64 i] => if s.size < 4611686018427387904 ∧ 0 ≤ i ∧ i < 4611686018427387904 then some (atU s i.toNat, h) else none
    | _ => none)
  else if f == 149 then (match args with
    | [.string s, .int .i32 r] => if 0 ≤ r ∧ r < 128 then some (.bool (decide (0 ≤ Lib.indexByte s.data.toList r.toNat.toUInt8)), h) else none
    | _ => none)
  else none
theorem vr_atU (μ : PMap) (s : ByteArray) (i : Nat) : VR μ (atU s i) (atU s i) := by
  unfold atU
  split
  · refine .tuple rfl fun k hk => ?_
    have : k = 0 ∨ k = 1 ∨ k = 2 ∨ k = 3 := by simp at hk; omega
    rcases this with rfl | rfl | rfl | rfl <;> exact .plain rfl
  · refine .tuple rfl fun k hk => ?_
    have : k = 0 ∨ k = 1 ∨ k = 2 ∨ k = 3 := by simp at hk; omega
    rcases this with rfl | rfl | rfl | rfl <;> exact .plain rfl
theorem orc_ok (W : World) : CFok Tryz.prog W orc := by
  intro f args h v h' hc
  unfold orc at hc
  split at hc
  · rename_i hf
    obtain rfl : f = 40 := by simpa using hf
    split at hc
    · rename_i s
      split at hc
      · rename_i hs
        cases hc
        exact ACalls.of_pure ⟨_, Tryz.func40, by kernel_rfl, by kernel_rfl⟩ (by simp [plainV]) (fun μ => .plain rfl) (fun w => valid_in s hs w)
      · cases hc
    · cases hc
  · split at hc
    · rename_i hf
      obtain rfl : f = 69 := by simpa using hf
      split at hc
      · rename_i s i
        split at hc
        · rename_i hs
          cases hc
          obtain ⟨hs, h0, h1⟩ := hs
          have hi : ((i.toNat : Nat) : Int) = i := Int.toNat_of_nonneg h0
          refine ACalls.of_pure ⟨_, Tryz.func69, by kernel_rfl, by kernel_rfl⟩ (by simp [plainV]) (fun μ => vr_atU μ s _) (fun w => ?_)
          have := at_in s hs i.toNat (by omega) w
          rw [hi] at this
          exact this
        · cases hc
      · cases hc
    · split at hc
      · rename_i hf
        obtain rfl : f = 149 := by simpa using hf
        split at hc
        · rename_i s r
          split at hc
          · rename_i hs
            cases hc
            exact ACalls.of_pure ⟨_, Tryz.func149, by kernel_rfl, by kernel_rfl⟩ (by simp [plainV]) (fun μ => .plain rfl) (fun w => (containsRune s r w hs.1 hs.2).mono fun e w' ⟨h1, h2⟩ => ⟨h1, by rw [h2]; exact Below.refl _ _⟩)
          · cases hc
        · cases hc
      · cases hc
end Go.Proofs.YtlipmjpapkfaeaaGreatDoor.Orc
end
