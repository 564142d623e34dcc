/- What running an automaton answers: in plain Lean. No condition.
Merged from 1 texts. -/
import Derived.Test.YtlipmjpapkfaeaaGreatDoorZD13
import Derived.Test.YtlipmjpapkfaeaaGreatDoorZD24
section
set_option linter.unusedSimpArgs false
set_option linter.unusedVariables false
namespace Go.Proofs.YtlipmjpapkfaeaaGreatDoor.Fn
open Go Go.Mach Go.RowKit Go.Proofs Go.Proofs.YtlipmjpapkfaeaaGreatDoor.Orc
def rest (s : ByteArray) (pos : Nat) : List Nat := (decs s s.size pos).map (·.1)
theorem validate_zero {A : Aut} (h : validate A = 0) : A.fin.length ≤ 256 ∧ A.fin.length ≠ 0 ∧ A.arcs.length = A.fin.length ∧ chkAll A.fin.length A.arcs = none := by
  unfold validate at h
  split at h
  · omega
  · split at h
    · omega
    · rename_i h1 h2
      refine ⟨by omega, by omega, by omega, ?_⟩
      cases hc : chkAll A.fin.length A.arcs with
      | none => rfl
      | some c =>
        rw [hc] at h
        simp at h
        subst h
        exfalso
        have nz : ∀ (n : Nat) (l : List Arc3) (p : Option Arc3), chkFrom n p l ≠ some 0 := by
          intro n l
          induction l with
          | nil => intro p; simp [chkFrom]
          | cons x l ih =>
            intro p
            unfold chkFrom
            split
            · simp
            · cases p with
              | none => exact ih _
              | some q => simp only; split; · simp
                          · split; · simp
                            · exact ih _
        have nza : ∀ (n : Nat) (ls : List (List Arc3)), chkAll n ls ≠ some 0 := by
          intro n ls
          induction ls with
          | nil => simp [chkAll]
          | cons l ls ih =>
            unfold chkAll
            cases hl : chkFrom n none l with
            | some c => simp only; intro e; cases e; exact nz _ _ _ hl
            | none => exact ih
        exact nza _ _ hc
theorem chkAll_each {n : Nat} : ∀ {ls : List (List Arc3)}, chkAll n ls = none → ∀ l ∈ ls, chkFrom n none l = none
  | [], _, l, h => by simp at h
  | x :: ls, hc, l, h => by
    unfold chkAll at hc
    cases hx : chkFrom n none x with
    | some c => rw [hx] at hc; cases hc
    | none =>
      rw [hx] at hc
      rcases List.mem_cons.1 h with rfl | h
      · exact hx
      · exact chkAll_each hc l h
theorem chkFrom_state {n : Nat} : ∀ {l : List Arc3} {p : Option Arc3}, chkFrom n p l = none → ∀ x ∈ l, badArc n x = false
  | [], p, _, x, h => by simp at h
  | y :: l, p, hc, x, h => by
    unfold chkFrom at hc
    split at hc
    · cases hc
    · rename_i hb
      have hrec : chkFrom n (some y) l = none := by
        cases p with
        | none => exact hc
        | some q => simp only at hc; split at hc; · cases hc
                    · split at hc; · cases hc
                      · exact hc
      rcases List.mem_cons.1 h with rfl | h
      · simpa using hb
      · exact chkFrom_state hrec x h
theorem nextA_range {n : Nat} {l : List Arc3} (h : chkFrom n none l = none) (c : Int) : nextA l c = -1 ∨ (0 ≤ nextA l c ∧ nextA l c < n) := by
  unfold nextA
  cases hf : l.find? (fun x => decide (x.1 ≤ c) && decide (c ≤ x.2.1)) with
  | none => exact .inl rfl
  | some x =>
    have := chkFrom_state h x (List.mem_of_find?_eq_some hf)
    simp [badArc] at this
    right; simp only; omega
end Go.Proofs.YtlipmjpapkfaeaaGreatDoor.Fn
end
