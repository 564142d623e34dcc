/- An automaton as data; what 'validate' answers; an automaton in memory. No condition. -/
import Derived.Test.YtlipmjpapkfaeaaGreatDoorH1
import Derived.Test.YtlipmjpapkfaeaaGreatDoorX2
set_option linter.unusedSimpArgs false
set_option linter.unusedVariables false
namespace Go.Mach
open Go Go.RowKit

abbrev Arc3 := Int × Int × Int
structure Aut where
  fin : List Bool
  arcs : List (List Arc3)

def badArc (n : Nat) (x : Arc3) : Bool := decide (x.1 < 0) || decide (x.1 > x.2.1) || decide (x.2.1 > 1114111) || decide (x.2.2 < 0) || decide (x.2.2 ≥ n)
def chkFrom (n : Nat) : Option Arc3 → List Arc3 → Option Int
  | _, [] => none
  | p, x :: r => if badArc n x then some 8 else
    match p with
    | some q => if x.1 ≤ q.2.1 then some 6 else if x.1 = IntKind.i32.wrap (q.2.1 + 1) ∧ x.2.2 = q.2.2 then some 6 else chkFrom n (some x) r
    | none => chkFrom n (some x) r
def chkAll (n : Nat) : List (List Arc3) → Option Int
  | [] => none
  | l :: ls => match chkFrom n none l with
    | some c => some c
    | none => chkAll n ls
def validate (A : Aut) : Int :=
  if A.fin.length > 256 then 2 else if A.fin.length = 0 ∨ A.arcs.length ≠ A.fin.length then 15 else (chkAll A.fin.length A.arcs).getD 0

def arcV (a : Arc3) : List Value := [.int .i32 a.1, .int .i32 a.2.1, .int .i64 a.2.2]

/-- The value reads as the automaton. -/
structure AutoV (W : World) (h : AHeap) (v : Value) (A : Aut) (vf va : Value) (vs : List Value) : Prop where
  v : v = .agg #[vf, va]
  f : Sl W h 1 vf (A.fin.map fun b => [.bool b])
  a : Sl W h 1 va (vs.map fun x => [x])
  l : vs.length = A.arcs.length
  e : ∀ (i : Nat) (x : Value) (l : List Arc3), vs[i]? = some x → A.arcs[i]? = some l → Sl W h 3 x (l.map arcV)

theorem AutoV.keeps {W : World} {h h' : AHeap} {v : Value} {A : Aut} {vf va : Value} {vs : List Value} (ha : AutoV W h v A vf va vs) (k : Keeps h h') : AutoV W h' v A vf va vs :=
  ⟨ha.v, ha.f.keeps k, ha.a.keeps k, ha.l, fun i x l hx hl => (ha.e i x l hx hl).keeps k⟩

theorem chkFrom_append (n : Nat) : ∀ (l r : List Arc3) (p : Option Arc3), chkFrom n p (l ++ r) = match chkFrom n p l with | some c => some c | none => chkFrom n (match l.getLast? with | some q => some q | none => p) r
  | [], r, p => by simp [chkFrom]
  | x :: l, r, p => by
    have ih := chkFrom_append n l r (some x)
    have hl : (match (x :: l).getLast? with | some q => some q | none => p) = (match l.getLast? with | some q => some q | none => some x) := by
      cases l with
      | nil => rfl
      | cons y l => simp [List.getLast?_cons_cons]; cases h : (y :: l).getLast? with
        | none => simp at h
        | some z => rfl
    simp only [List.cons_append, chkFrom, hl]
    split
    · rfl
    · cases p with
      | none => simpa using ih
      | some q =>
        simp only
        split
        · rfl
        · split
          · rfl
          · simpa using ih

theorem chkAll_append (n : Nat) : ∀ (l r : List (List Arc3)), chkAll n (l ++ r) = match chkAll n l with | some c => some c | none => chkAll n r
  | [], r => rfl
  | x :: l, r => by
    simp only [List.cons_append, chkAll]
    cases chkFrom n none x with
    | some c => rfl
    | none => exact chkAll_append n l r

theorem chkAll_hit {n : Nat} {arcs : List (List Arc3)} {i : Nat} {l : List Arc3} {c : Int} (hi : arcs[i]? = some l) (h1 : chkAll n (arcs.take i) = none) (h2 : chkFrom n none l = some c) : chkAll n arcs = some c := by
  have hlt := (List.getElem?_eq_some_iff.1 hi).1
  have hs : arcs = arcs.take i ++ l :: arcs.drop (i + 1) := by
    rw [← (List.getElem?_eq_some_iff.1 hi).2, List.getElem_cons_drop, List.take_append_drop]
  rw [hs, chkAll_append, h1]
  simp only [chkAll, h2]
theorem chkAll_next {n : Nat} {arcs : List (List Arc3)} {i : Nat} {l : List Arc3} (hi : arcs[i]? = some l) (h1 : chkAll n (arcs.take i) = none) (h2 : chkFrom n none l = none) : chkAll n (arcs.take (i + 1)) = none := by
  rw [List.take_add_one, hi, chkAll_append, h1]
  simp [chkAll, h2]
def prevArc (l : List Arc3) (j : Nat) : Option Arc3 := if j = 0 then none else l[j - 1]?
theorem getLast_take {l : List Arc3} {j : Nat} (hj : j ≤ l.length) : (match (l.take j).getLast? with | some q => some q | none => none) = prevArc l j := by
  have h : (l.take j).getLast? = prevArc l j := by
    unfold prevArc
    rw [List.getLast?_take]
    by_cases h0 : j = 0
    · simp [h0]
    · simp only [h0, if_false]
      rw [List.getElem?_eq_getElem (show j - 1 < l.length by omega)]
      rfl
  rw [h]
  cases prevArc l j <;> rfl
theorem chkFrom_hit {n : Nat} {l : List Arc3} {j : Nat} {x : Arc3} (hx : l[j]? = some x) (h : chkFrom n none (l.take j) = none) : chkFrom n none l = chkFrom n (prevArc l j) (x :: l.drop (j + 1)) := by
  have hlt := (List.getElem?_eq_some_iff.1 hx).1
  have hs : l = l.take j ++ x :: l.drop (j + 1) := by
    rw [← (List.getElem?_eq_some_iff.1 hx).2, List.getElem_cons_drop, List.take_append_drop]
  conv => lhs; rw [hs]
  rw [chkFrom_append, h]
  simp only [getLast_take (Nat.le_of_lt hlt)]
theorem chkFrom_next {n : Nat} {l : List Arc3} {j : Nat} {x : Arc3} (hx : l[j]? = some x) (h : chkFrom n none (l.take j) = none) : chkFrom n none (l.take (j + 1)) = chkFrom n (prevArc l j) [x] := by
  have hlt := (List.getElem?_eq_some_iff.1 hx).1
  rw [List.take_add_one, hx, chkFrom_append, h]
  simp only [getLast_take (Nat.le_of_lt hlt), Option.toList_some]
end Go.Mach
