/- Short words for the parts of resolved functions. No condition.
Merged from 1 texts. -/
import Derived.Test.YtlipmjpapkfaeaaGreatDoorZD5
section
namespace Go.Proofs.YtlipmjpapkfaeaaGreatDoor.Rc
open Go Go.Mach
def t (n : Nat) : Operand := .tmp n
def u (d : Nat) (op : ROp) : ROper := ⟨some d, op, none⟩
def v (op : ROp) : ROper := ⟨none, op, none⟩
def o (d x : Nat) : ROper := ⟨some d, .mov (.tmp x), none⟩
def i (d : Nat) (n : Int) : ROper := ⟨some d, .mov (.const (.int .i64 n)), none⟩
def p (d x : Nat) : ROper := ⟨some d, .load1 (.tmp x), none⟩
def q (d x n : Nat) : ROper := ⟨some d, .addOff (.tmp x) n, none⟩
def s (d e x y : Nat) : ROper := ⟨some d, .idxA e (.tmp x) (.tmp y), none⟩
def b (d : Nat) (op : BinOp) (x y : Nat) : ROper := ⟨some d, .bin op (.sc .i) (.tmp x) (.tmp y), none⟩
def k (d : Nat) (op : BinOp) (x : Nat) (n : Int) : ROper := ⟨some d, .bin op (.sc .i) (.tmp x) (.const (.int .i64 n)), none⟩
def g (c : Nat) (w : Bool) : ROper → ROper
  | ⟨d, op, _⟩ => ⟨d, op, some (c, w)⟩
def S (ops : List ROper) (eff : Option ROper) : Stage := ⟨ops, ops, eff⟩
def D (chk : List ROper) (eff : Option ROper) : Stage := ⟨[], chk, eff⟩
end Go.Proofs.YtlipmjpapkfaeaaGreatDoor.Rc
end
