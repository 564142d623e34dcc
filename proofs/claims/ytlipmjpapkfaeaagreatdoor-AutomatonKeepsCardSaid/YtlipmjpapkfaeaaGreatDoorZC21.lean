/- What running an automaton answers: in plain Lean. No condition.
Merged from 1 texts. -/
import Derived.Test.YtlipmjpapkfaeaaGreatDoorZC12
import Derived.Test.YtlipmjpapkfaeaaGreatDoorZC20
section
set_option linter.unusedSimpArgs false
set_option linter.unusedVariables false
namespace Go.Proofs.YtlipmjpapkfaeaaGreatDoor.Fn
open Go Go.Mach Go.RowKit Go.Proofs Go.Proofs.YtlipmjpapkfaeaaGreatDoor.Orc

/-- The code points from a place on. -/
def rest (s : ByteArray) (pos : Nat) : List Nat := (decs s s.size pos).map (·.1)

theorem decs_fuel (s : ByteArray) : ∀ (k pos : Nat), s.size ≤ k + pos → decs s (k + 1) pos = decs s k pos
  | 0, pos, h => by rw [decs_stop (by omega), decs_stop (by omega)]
  | k + 1, pos, h => by
    by_cases hp : pos < s.size
    · have hw := width_pos s pos hp
      have := decs_fuel s k (pos + (Utf8.decode s pos).2) (by omega)
      conv => lhs; unfold decs
      conv => rhs; unfold decs
      simp only [hp, if_true, this]
    · rw [decs_stop hp, decs_stop hp]

theorem decs_cons {s : ByteArray} {pos : Nat} (hp : pos < s.size) : decs s s.size pos = ((Utf8.decode s pos).1, pos) :: decs s s.size (pos + (Utf8.decode s pos).2) := by
  have hw := width_pos s pos hp
  rw [← decs_fuel s s.size pos (by omega)]
  conv => lhs; unfold decs
  simp only [hp, if_true]

theorem rest_end {s : ByteArray} {pos : Nat} (h : ¬ pos < s.size) : rest s pos = [] := by unfold rest; rw [decs_stop h]; rfl
theorem rest_cons {s : ByteArray} {pos c w : Nat} (hp : pos < s.size) (hd : Utf8.decode s pos = (c, w)) : rest s pos = c :: rest s (pos + w) := by
  unfold rest; rw [decs_cons hp, hd]; rfl

/-- The state behind the code points. -/
def goA (A : Aut) : Int → List Nat → Int
  | q, [] => q
  | q, c :: cs => goA A (if q < 0 then -1 else nextA (A.arcs.getD q.toNat []) c) cs

def acceptA (A : Aut) (s : ByteArray) : Bool := decide (0 ≤ goA A 0 (rest s 0)) && A.fin.getD (goA A 0 (rest s 0)).toNat false
def runA (A : Aut) (s : ByteArray) : Bool := decide (validate A = 0) && validB s && acceptA A s

theorem goA_dead (A : Aut) : ∀ (cs : List Nat) {q : Int}, q < 0 → goA A q cs < 0
  | [], q, h => h
  | c :: cs, q, h => by unfold goA; rw [if_pos h]; exact goA_dead A cs (by omega)

theorem validate_zero {A : Aut} (h : validate A = 0) : A.fin.length ≤ 256 ∧ A.fin.length ≠ 0 ∧ A.arcs.length = A.fin.length ∧ chkAll A.fin.length A.arcs = none := by
  unfold validate at h
  split at h
  · omega
  · split at h
    · omega
    · rename_i h1 h2
      refine ⟨by omega, by omega, by omega, ?_⟩
      cases hc : chkAll A.fin.length A.arcs with
      | none => rfl
      | some c =>
        rw [hc] at h
        simp at h
        subst h
        exfalso
        have nz : ∀ (n : Nat) (l : List Arc3) (p : Option Arc3), chkFrom n p l ≠ some 0 := by
          intro n l
          induction l with
          | nil => intro p; simp [chkFrom]
          | cons x l ih =>
            intro p
            unfold chkFrom
            split
            · simp
            · cases p with
              | none => exact ih _
              | some q => simp only; split; · simp
                          · split; · simp
                            · exact ih _
        have nza : ∀ (n : Nat) (ls : List (List Arc3)), chkAll n ls ≠ some 0 := by
          intro n ls
          induction ls with
          | nil => simp [chkAll]
          | cons l ls ih =>
            unfold chkAll
            cases hl : chkFrom n none l with
            | some c => simp only; intro e; cases e; exact nz _ _ _ hl
            | none => exact ih
        exact nza _ _ hc

theorem chkAll_each {n : Nat} : ∀ {ls : List (List Arc3)}, chkAll n ls = none → ∀ l ∈ ls, chkFrom n none l = none
  | [], _, l, h => by simp at h
  | x :: ls, hc, l, h => by
    unfold chkAll at hc
    cases hx : chkFrom n none x with
    | some c => rw [hx] at hc; cases hc
    | none =>
      rw [hx] at hc
      rcases List.mem_cons.1 h with rfl | h
      · exact hx
      · exact chkAll_each hc l h

theorem chkFrom_state {n : Nat} : ∀ {l : List Arc3} {p : Option Arc3}, chkFrom n p l = none → ∀ x ∈ l, badArc n x = false
  | [], p, _, x, h => by simp at h
  | y :: l, p, hc, x, h => by
    unfold chkFrom at hc
    split at hc
    · cases hc
    · rename_i hb
      have hrec : chkFrom n (some y) l = none := by
        cases p with
        | none => exact hc
        | some q => simp only at hc; split at hc; · cases hc
                    · split at hc; · cases hc
                      · exact hc
      rcases List.mem_cons.1 h with rfl | h
      · simpa using hb
      · exact chkFrom_state hrec x h

theorem nextA_range {n : Nat} {l : List Arc3} (h : chkFrom n none l = none) (c : Int) : nextA l c = -1 ∨ (0 ≤ nextA l c ∧ nextA l c < n) := by
  unfold nextA
  cases hf : l.find? (fun x => decide (x.1 ≤ c) && decide (c ≤ x.2.1)) with
  | none => exact .inl rfl
  | some x =>
    have := chkFrom_state h x (List.mem_of_find?_eq_some hf)
    simp [badArc] at this
    right; simp only; omega
end Go.Proofs.YtlipmjpapkfaeaaGreatDoor.Fn
end
