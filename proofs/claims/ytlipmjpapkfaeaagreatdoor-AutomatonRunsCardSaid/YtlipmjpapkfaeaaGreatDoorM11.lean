/- The abstract machine, part 11: code, calls, and the logic over the abstract state. No condition. -/
import Derived.Test.YtlipmjpapkfaeaaGreatDoorM10
import Derived.Deep.LoopGhost
set_option linter.unusedSimpArgs false
set_option linter.unusedVariables false
namespace Go.Mach
open Go Go.RowKit

abbrev Env := Tr Value
def eget (e : Env) (t : Nat) : Value := (e.get t).getD undef
def eput (e : Env) (d : Option Nat) (v : Value) : Env := match d with
  | some d => e.set d v
  | none => e

structure St where
  e : Env
  h : AHeap

def opd (e : Env) : Operand → Value
  | .tmp t => eget e t
  | .const v => v
  | .global g => .pointer (some ⟨g, 0, none⟩)
  | .func f => .func (.func f) #[] #[]

def wantedA (e : Env) : Option (Nat × Bool) → Bool
  | none => true
  | some (d, b) => match eget e d with
    | .bool c => c == b
    | _ => false

/-- A stage of a region that draws its order: what is done, what is looked at again, the effect that ends it. -/
structure Stage where
  ops : List ROper
  chk : List ROper
  eff : Option ROper

inductive RCode where
  | skip
  | region (ops : List ROper)
  | draws (sts : List Stage)
  | seq (a b : RCode)
  | cond (c : Operand) (a b : RCode)
  | block (id : Nat) (c : RCode)
  | loop (c : RCode)
  | exit (id : Nat)
  | ret
  | fail

inductive RRes where
  | tmp (t : Nat)
  | one (t : Nat)
  | many (t n : Nat)

structure RFunc where
  ntmps : Nat
  body : RCode
  res : List RRes

/-! ## Compiling -/
def dstOk (n : Nat) : Option Nat → Bool
  | some d => Nat.blt d n
  | none => true

def compOper (P : Program) (n : Nat) (ops : Array Oper) (o : Oper) : Option ROper :=
  if dstOk n o.dst then
    match compOp P o.op with
    | some r => match o.guard with
      | none => some ⟨o.dst, r, none⟩
      | some (j, b) => match (ops[j]?).bind (·.dst) with
        | some d => some ⟨o.dst, r, some (d, b)⟩
        | none => none
    | none => none
  else none

def compOpers (P : Program) (n : Nat) (ops : Array Oper) : List Oper → Option (List ROper)
  | [] => some []
  | o :: os => match compOper P n ops o, compOpers P n ops os with
    | some r, some rs => some (r :: rs)
    | _, _ => none

/-- Operations that neither call nor change what is there. 0: they make nothing; 1: they make one block. -/
def kindOf : ROp → Option Nat
  | .mov _ | .pick _ _ _ | .build _ _ | .load1 _ | .loadN _ _ | .nilChk _ | .bin _ _ _ _ | .un _ _ | .conv _ _ | .encRune _ | .toStr _ | .bytesStr _ | .mkFn _ _
  | .slcStr _ _ _ | .slc _ _ _ _ | .addOff _ _ | .part1 _ _ | .partN _ _ _ | .idxA _ _ _ | .idxArr _ _ _ _ | .idxStr _ _ | .lookup _ _ _ _ _ | .extract _ _ | .lenSl _ | .lenStr _ | .lenMap _
  | .min2 _ _ | .max2 _ _ => some 0
  | .newv _ | .box _ | .buildSl _ _ _ _ => some 1
  | _ => none

def directsO (o : Oper) : List Nat := (o.after.toList.filter (Region.binds .any)).map (·.on)

/-- For each operation in turn, what comes before it in every order. -/
def predsL : List Oper → List (List Nat) → List (List Nat)
  | [], acc => acc
  | o :: os, acc => predsL os (acc ++ [(directsO o ++ (directsO o).flatMap fun j => acc.getD j []).eraseDups])

def looksR (ros : List ROper) (i : Nat) (o : Op) : List Nat :=
  (o.operands.toList.filterMap fun | .tmp t => some t | _ => none) ++ (match (ros[i]?).bind (·.guard) with | some (d, _) => [d] | none => [])

/-- The plan of a region that draws its order. -/
structure Plan where
  eff : List Nat
  chks : List (List Nat)
  news : List (List Nat)

def planChk (pr : List (List Nat)) (ne eff : List Nat) (k : Nat) : List Nat :=
  ne.filter fun j => decide ((eff.filter fun e => (pr.getD j []).contains e).length ≤ k) && (eff.take k).all fun e => !((pr.getD e []).contains j)

/-- What is done in the chain: what calls or changes memory; a block that is made in a fixed place of the chain; what writes a slot that another operation may read before. -/
def isEff (ops : List Oper) (ros : List ROper) (pr : List (List Nat)) (i : Nat) : Bool :=
  let kind := fun j => ((ros[j]?).bind fun o => kindOf o.op)
  match kind i with
  | none => true
  | some q => (q != 0 && (List.range ros.length).all fun j => j == i || kind j == some 0 || (pr.getD i []).contains j || (pr.getD j []).contains i) ||
      (match (ros[i]?).bind (·.dst) with
       | some d => (List.range ros.length).any fun j => j != i && !(pr.getD j []).contains i && (match ops[j]? with | some o => (looksR ros j o.op).contains d | none => false)
       | none => true)

def stagesOf (ros : List ROper) (eff : List Nat) (chk : Nat → List Nat) : Nat → List Nat → List Stage
  | k, [] => [⟨((chk k).filter fun j => match k with | 0 => true | k' + 1 => !(chk k').contains j).filterMap (ros[·]?), (chk k).filterMap (ros[·]?), none⟩]
  | k, e :: es => ⟨((chk k).filter fun j => match k with | 0 => true | k' + 1 => !(chk k').contains j).filterMap (ros[·]?), (chk k).filterMap (ros[·]?), ros[e]?⟩ :: stagesOf ros eff chk (k + 1) es

def chainOk (pr : List (List Nat)) : List Nat → Bool
  | a :: b :: l => (pr.getD b []).contains a && chainOk pr (b :: l)
  | _ => true

def planOk (ops : List Oper) (ros : List ROper) (pr : List (List Nat)) (ne eff : List Nat) : Bool :=
  let N := ops.length
  chainOk pr eff &&
  ((List.range N).all fun i => match ops[i]? with
    | some o => (directsO o).all fun j => decide (j < i)
    | none => true) &&
  ((List.range N).all fun j => match ops[j]? with
    | some o => (looksR ros j o.op).all fun t => ne.all fun i => ((ros[i]?).bind (·.dst)) != some t || (pr.getD j []).contains i
    | none => true) &&
  ((List.range N).all fun j => (List.range N).all fun i => i == j || ((ros[i]?).bind (·.dst)) == none || ((ros[i]?).bind (·.dst)) != ((ros[j]?).bind (·.dst))) &&
  (ne.all fun j => ((ros[j]?).bind (·.dst)).isSome) &&
  ((List.range (eff.length + 1)).all fun k => match k with
    | 0 => true
    | k' + 1 => (planChk pr ne eff (k' + 1)).all fun j => (planChk pr ne eff k').contains j || (pr.getD j []).contains (eff.getD k' 0))

def compDraws (P : Program) (n : Nat) (ops : Array Oper) : RCode :=
  match compOpers P n ops ops.toList with
  | none => .fail
  | some ros =>
    let pr := predsL ops.toList []
    let eff := (List.range ros.length).filter (isEff ops.toList ros pr)
    let ne := (List.range ros.length).filter fun i => !isEff ops.toList ros pr i
    if planOk ops.toList ros pr ne eff then .draws (stagesOf ros eff (planChk pr ne eff) 0 eff) else .fail

def comp (P : Program) (n : Nat) : Code → RCode
  | .skip => .skip
  | .region _ ops false => match compOpers P n ops ops.toList with
    | some rs => .region rs
    | none => .fail
  | .region _ ops true => compDraws P n ops
  | .seq a b => .seq (comp P n a) (comp P n b)
  | .cond c a b => if okOpd c then .cond c (comp P n a) (comp P n b) else .fail
  | .block id c => .block id (comp P n c)
  | .loop c => .loop (comp P n c)
  | .exit id => .exit id
  | .ret => .ret
  | _ => .fail

def compRes (P : Program) : List ResultVar → Option (List RRes)
  | [] => some []
  | .tmp t :: l => (compRes P l).map (.tmp t :: ·)
  | .cell a t :: l => match aggT P t, compRes P l with
    | some false, some r => some (.one a :: r)
    | some true, some r => (sizeT P t).map fun n => .many a n :: r
    | _, _ => none

def compFn (P : Program) (f : FuncId) : Option RFunc :=
  match P.funcs[f]? with
  | some fn => match fn.body, compRes P fn.results.toList with
    | some c, some r => if (fn.name == "runtime.NumGoroutine") then none else some ⟨fn.ntmps, comp P fn.ntmps c, r⟩
    | _, _ => none
  | none => none

/-! ## Running -/
def envOf : Nat → List Value → Env → Env
  | _, [], e => e
  | i, v :: vs, e => envOf (i + 1) vs (e.set i v)

def resVals (W : World) (σ : St) : List RRes → Option (List Value)
  | [] => some []
  | .tmp t :: l => match resVals W σ l with
    | some vs => some (eget σ.e t :: vs)
    | none => none
  | .one t :: l => match eget σ.e t, resVals W σ l with
    | .pointer (some a), some vs => match aload1 W σ.h a with
      | some v => some (v :: vs)
      | none => none
    | _, _ => none
  | .many t n :: l => match eget σ.e t, resVals W σ l with
    | .pointer (some a), some vs => match aloadN W σ.h a n with
      | some v => some (.agg v.toArray :: vs)
      | none => none
    | _, _ => none

def resOf : List Value → Value
  | [v] => v
  | vs => .tuple vs.toArray

/-- What a block-making operation fills its block with; what it gives, if the block is number i. -/
def mkOf (ρ : Operand → Value) : ROp → Option (List Value)
  | .newv z => some z
  | .box x => bif (celsL (ρ x)).all oneV then some (celsL (ρ x)) else none
  | .buildSl z ps _ _ => match fillL ρ z ps with
    | some l => bif l.all oneV then some l else none
    | none => none
  | _ => none

def mkVal (i : Nat) : ROp → Value
  | .buildSl _ _ n esz => oS i 0 n esz
  | _ => oP i 0

def ownId : Value → Nat
  | .pointer (some a) => a.block
  | .slice (some a) _ _ => a.block
  | _ => 0

def dval (e : Env) (o : ROper) : Value := match o.dst with
  | some d => eget e d
  | none => undef

/-- The operations of a stage, in turn. -/
def sops (W : World) : List ROper → St → Option St
  | [], σ => some σ
  | o :: os, σ => bif wantedA σ.e o.guard then
      match rop W (opd σ.e) σ.h o.op with
      | some (v, h') => sops W os ⟨eput σ.e o.dst v, h'⟩
      | none => none
    else sops W os ⟨eput σ.e o.dst undef, σ.h⟩

/-- Looked at again: the operation would give now what it gave. -/
def Chk (W : World) (σ : St) (o : ROper) : Prop :=
  if wantedA σ.e o.guard then
    match kindOf o.op with
    | some 0 => rop W (opd σ.e) σ.h o.op = some (dval σ.e o, σ.h)
    | some _ => ∃ l, mkOf (opd σ.e) o.op = some l ∧ dval σ.e o = mkVal (ownId (dval σ.e o)) o.op ∧ ownId (dval σ.e o) < σ.h.next ∧ σ.h.own.get (ownId (dval σ.e o)) = some (.cells l)
    | none => False
  else dval σ.e o = undef

/-- The numbers of the blocks that some operations made. -/
def mkIds (e : Env) : List ROper → List Nat
  | [] => []
  | o :: os => bif wantedA e o.guard && (kindOf o.op).any (fun k => k != 0) then ownId (dval e o) :: mkIds e os else mkIds e os

end Go.Mach
