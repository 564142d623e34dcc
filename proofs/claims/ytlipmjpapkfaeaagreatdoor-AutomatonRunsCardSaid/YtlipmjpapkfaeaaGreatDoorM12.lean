/- The abstract machine, part 12: it runs. No condition. -/
import Derived.Test.YtlipmjpapkfaeaaGreatDoorM11
set_option linter.unusedSimpArgs false
set_option linter.unusedVariables false
namespace Go.Mach
open Go Go.RowKit

mutual
def veq : Nat → Value → Value → Bool
  | 0, _, _ => false
  | n + 1, v, w => match v, w with
    | .bool a, .bool b => a == b
    | .int k a, .int k' b => decide (k = k') && a == b
    | .string a, .string b => a.data.toList == b.data.toList
    | .pointer none, .pointer none => true
    | .pointer (some a), .pointer (some b) => decide (a = b)
    | .slice none a b, .slice none c d => Nat.beq a c && Nat.beq b d
    | .slice (some x) a b, .slice (some y) c d => decide (x = y) && Nat.beq a c && Nat.beq b d
    | .map none, .map none => true
    | .map (some a), .map (some b) => Nat.beq a b
    | .nilFunc, .nilFunc => true
    | .nilIface, .nilIface => true
    | .func (.func f) xs as, .func (.func g) ys bs => Nat.beq f g && veqs n xs.toList ys.toList && veqs n as.toList bs.toList
    | .agg xs, .agg ys => veqs n xs.toList ys.toList
    | .tuple xs, .tuple ys => veqs n xs.toList ys.toList
    | _, _ => false
def veqs : Nat → List Value → List Value → Bool
  | 0, _, _ => false
  | n + 1, xs, ys => match xs, ys with
    | [], [] => true
    | x :: xs, y :: ys => veq n x y && veqs n xs ys
    | _, _ => false
end

def chkB (W : World) (σ : St) (o : ROper) : Bool :=
  bif wantedA σ.e o.guard then
    match kindOf o.op with
    | some 0 => match rop W (opd σ.e) σ.h o.op with
      | some (v, _) => veq 10000 v (dval σ.e o)
      | none => false
    | some _ => match mkOf (opd σ.e) o.op, σ.h.own.get (ownId (dval σ.e o)) with
      | some l, some (.cells l') => veq 10000 (dval σ.e o) (mkVal (ownId (dval σ.e o)) o.op) && Nat.blt (ownId (dval σ.e o)) σ.h.next && veqs 10000 l' l
      | _, _ => false
    | none => false
  else veq 10000 (dval σ.e o) undef

inductive Ex where
  | normal | exit (id : Nat) | ret

abbrev CF := FuncId → List Value → AHeap → Option (Value × AHeap)

def xop (W : World) (cf : CF) (o : ROper) (σ : St) : Option St :=
  bif wantedA σ.e o.guard then
    match o.op with
    | .call f args => match opd σ.e f with
      | .func (.func fid) fs cap => bif fs.toList.isEmpty then
          match cf fid (args.map (opd σ.e) ++ cap.toList) σ.h with
          | some (v, h') => some ⟨eput σ.e o.dst v, h'⟩
          | none => none
        else none
      | _ => none
    | op => match rop W (opd σ.e) σ.h op with
      | some (v, h') => some ⟨eput σ.e o.dst v, h'⟩
      | none => none
  else some ⟨eput σ.e o.dst undef, σ.h⟩

def xops (W : World) (cf : CF) : List ROper → St → Option St
  | [], σ => some σ
  | o :: os, σ => match xop W cf o σ with
    | some σ' => xops W cf os σ'
    | none => none

def allGe (n : Nat) : List Nat → Bool
  | [] => true
  | i :: l => Nat.ble n i && allGe n l
def distinct : List Nat → Bool
  | [] => true
  | i :: l => !l.contains i && distinct l

def xdraws (W : World) (cf : CF) : List Stage → St → Option St
  | [], _ => none
  | s :: ss, σ => match sops W s.ops σ with
    | some σ1 => bif s.chk.all (chkB W σ1) && allGe σ.h.next (mkIds σ1.e s.ops) && distinct (mkIds σ1.e s.chk) then
        match s.eff with
        | none => some σ1
        | some o => match xop W cf o σ1 with
          | some σ2 => xdraws W cf ss σ2
          | none => none
      else none
    | none => none

def iter (f : St → Option (Ex × St)) : Nat → St → Option (Ex × St)
  | 0, _ => none
  | n + 1, σ => match f σ with
    | some (.normal, σ') => iter f n σ'
    | r => r

def exec (W : World) (cf : CF) (N : Nat) : RCode → St → Option (Ex × St)
  | .skip, σ => some (.normal, σ)
  | .region ops, σ => match xops W cf ops σ with
    | some σ' => some (.normal, σ')
    | none => none
  | .draws sts, σ => match xdraws W cf sts σ with
    | some σ' => some (.normal, σ')
    | none => none
  | .seq a b, σ => match exec W cf N a σ with
    | some (.normal, σ') => exec W cf N b σ'
    | r => r
  | .cond c a b, σ => match opd σ.e c with
    | .bool t => bif t then exec W cf N a σ else exec W cf N b σ
    | _ => none
  | .block id c, σ => match exec W cf N c σ with
    | some (.exit id', σ') => bif Nat.beq id' id then some (.normal, σ') else some (.exit id', σ')
    | r => r
  | .loop c, σ => iter (exec W cf N c) N σ
  | .exit id, σ => some (.exit id, σ)
  | .ret, σ => some (.ret, σ)
  | .fail, _ => none

/-- The table of functions; and what is known otherwise ('oracle'). -/
def callX (W : World) (T : FuncId → Option RFunc) (O : CF) (N : Nat) : Nat → CF
  | 0 => fun _ _ _ => none
  | d + 1 => fun f args h => match O f args h with
    | some r => some r
    | none => match T f with
      | some rf => bif Nat.ble args.length rf.ntmps then
          match exec W (callX W T O N d) N rf.body ⟨envOf 0 args .lf, h⟩ with
          | some (.normal, σ) | some (.ret, σ) => match resVals W σ rf.res with
            | some vs => some (resOf vs, σ.h)
            | none => none
          | _ => none
        else none
      | none => none

end Go.Mach
