/- The abstract machine, part 2: its operations. No condition. -/
import Derived.Test.YtlipmjpapkfaeaaGreatDoorM1
import Derived.Laws.StructEq
import Derived.Laws.CopyRow
set_option linter.unusedSimpArgs false
set_option linter.unusedVariables false
namespace Go.Mach
open Go Go.RowKit

/-! ## The resolved operations -/
/-- How '==' compares two values that are neither two integers nor two strings (and how keys of maps are compared). -/
inductive SK where
  | b | i | s
inductive EqTy where
  | sc (k : SK) | ptr | slc | fn | agg (ks : List SK)

inductive ROp where
  | mov (x : Operand)
  | pick (c a b : Operand)
  | newv (z : List Value)
  | box (x : Operand)
  | build (z : List Value) (ps : List (Nat × Nat × Operand))
  | buildSl (z : List Value) (ps : List (Nat × Nat × Operand)) (n esz : Nat)
  | load1 (x : Operand)
  | loadN (x : Operand) (n : Nat)
  | store (x v : Operand) (n : Nat)
  | nilChk (x : Operand)
  | bin (op : BinOp) (e : EqTy) (x y : Operand)
  | un (op : UnOp) (x : Operand)
  | conv (k : IntKind) (x : Operand)
  | encRune (x : Operand)
  | toStr (x : Operand)
  | bytesStr (x : Operand)
  | strRunes (x : Operand)
  | mkFn (fn : Fn) (cap : List Operand)
  | mkMap
  | mkSlice (z : List Value) (bytes : Nat) (l c : Operand)
  | slcStr (x : Operand) (lo hi : Option Operand)
  | slc (esz : Nat) (x : Operand) (lo hi : Option Operand)
  | addOff (x : Operand) (n : Nat)
  | part1 (x : Operand) (off : Nat)
  | partN (x : Operand) (off n : Nat)
  | idxA (esz : Nat) (x i : Operand)
  | idxArr (len esz : Nat) (x i : Operand)
  | idxStr (x i : Operand)
  | lookup (e : EqTy) (z : Value) (x k : Operand) (ok : Bool)
  | mapUpd (e : EqTy) (m k v : Operand)
  | rangeStr (x : Operand)
  | nextStr (x : Operand)
  | extract (x : Operand) (i : Nat)
  | lenSl (x : Operand)
  | lenStr (x : Operand)
  | lenMap (x : Operand)
  | app (esz : Nat) (x y : Operand)
  | clr (z : List Value) (x : Operand)
  | min2 (x y : Operand)
  | max2 (x y : Operand)
  | call (f : Operand) (args : List Operand)

structure ROper where
  dst : Option Nat
  op : ROp
  guard : Option (Nat × Bool)

def aadd (a : Addr) (n : Nat) : Addr := ⟨a.block, a.off + n, a.spot⟩

def celsL : Value → List Value
  | .agg cs => cs.toList
  | v => [v]

def splice (l : List Value) (o : Nat) (vs : List Value) : List Value := l.take o ++ vs ++ l.drop (o + vs.length)

def oneV : Value → Bool
  | .agg _ => false
  | .tuple _ => false
  | _ => true

def aload1 (W : World) (h : AHeap) (a : Addr) : Option Value :=
  match a.spot with
  | none => match W.cell? a with
    | some v => bif plainV v then some v else match v with
      | .slice (some _) 0 0 => some (.slice (some ⟨0, 0, some 1⟩) 0 0)
      | _ => none
    | none => none
  | some _ => match h.own.get a.block with
    | some (.cells c) => c[a.off]?
    | _ => none

def aloadN (W : World) (h : AHeap) : Addr → Nat → Option (List Value)
  | _, 0 => some []
  | a, n + 1 => match aload1 W h a, aloadN W h (aadd a 1) n with
    | some v, some vs => some (v :: vs)
    | _, _ => none

def astore (h : AHeap) (a : Addr) (vs : List Value) : Option AHeap :=
  match a.spot with
  | none => none
  | some _ => match h.own.get a.block with
    | some (.cells c) => bif Nat.ble (a.off + vs.length) c.length && vs.all oneV then some (h.put a.block (.cells (splice c a.off vs))) else none
    | _ => none

def fillL (ρ : Operand → Value) : List Value → List (Nat × Nat × Operand) → Option (List Value)
  | z, [] => some z
  | z, (off, size, x) :: ps =>
    let vs := celsL (ρ x)
    bif Nat.beq vs.length size && Nat.ble (off + size) z.length then fillL ρ (splice z off vs) ps else none

def scEq : SK → Value → Value → Option Bool
  | .i, .int k a, .int k' b => bif decide (k = k') then some (a == b) else none
  | .b, .bool a, .bool b => some (a == b)
  | .s, .string a, .string b => some (a.data.toList == b.data.toList)
  | _, _, _ => none

def scEqs : List SK → List Value → List Value → Option Bool
  | [], [], [] => some true
  | k :: ks, x :: xs, y :: ys => match scEq k x y with
    | some true => scEqs ks xs ys
    | some false => some false
    | none => none
  | _, _, _ => none

def keq : EqTy → Value → Value → Option Bool
  | .sc k, x, y => scEq k x y
  | .agg ks, .agg xs, .agg ys => scEqs ks xs.toList ys.toList
  | .ptr, .pointer none, .pointer b => some b.isNone
  | .ptr, .pointer (some _), .pointer none => some false
  | .slc, .slice none _ _, .slice b _ _ => some b.isNone
  | .slc, .slice (some _) _ _, .slice none _ _ => some false
  | .fn, .nilFunc, .nilFunc => some true
  | .fn, .nilFunc, .func _ _ _ => some false
  | .fn, .func _ _ _, .nilFunc => some false
  | _, _, _ => none

def intBin (op : BinOp) (k : IntKind) (a : Int) (b : Int) : Option Value :=
  match op with
  | .add => some (.int k (k.wrap (a + b)))
  | .sub => some (.int k (k.wrap (a - b)))
  | .mul => some (.int k (k.wrap (a * b)))
  | .quo => bif b == 0 then none else some (.int k (k.wrap (a.tdiv b)))
  | .rem => bif b == 0 then none else some (.int k (a.tmod b))
  | .and => some (.int k (k.wrap (BitVec.ofInt k.bits a &&& BitVec.ofInt k.bits b).toNat))
  | .or => some (.int k (k.wrap (BitVec.ofInt k.bits a ||| BitVec.ofInt k.bits b).toNat))
  | .xor => some (.int k (k.wrap (BitVec.ofInt k.bits a ^^^ BitVec.ofInt k.bits b).toNat))
  | .andNot => some (.int k (k.wrap (BitVec.ofInt k.bits a &&& ~~~ BitVec.ofInt k.bits b).toNat))
  | .eql => some (.bool (a == b))
  | .neq => some (.bool (a != b))
  | .lss => some (.bool (decide (a < b)))
  | .leq => some (.bool (decide (a ≤ b)))
  | .gtr => some (.bool (decide (a > b)))
  | .geq => some (.bool (decide (a ≥ b)))
  | _ => none

def intSh (op : BinOp) (k : IntKind) (a : Int) (b : Int) : Option Value :=
  bif decide (b < 0) then none else
  match op with
  | .shl => some (.int k (k.wrap (a * 2 ^ (min b.toNat k.bits))))
  | .shr => some (.int k (a.fdiv (2 ^ (min b.toNat k.bits))))
  | _ => none

def isSh : BinOp → Bool
  | .shl | .shr => true
  | _ => false

def strBin (op : BinOp) (a b : ByteArray) : Option Value :=
  match op with
  | .add => bif Nat.ble (a.size + b.size) 1099511627776 then some (.string (a ++ b)) else none
  | .eql => some (.bool (a.data.toList == b.data.toList))
  | .neq => some (.bool (!(a.data.toList == b.data.toList)))
  | .lss => some (.bool (Op.bytesLess a.data.toList b.data.toList))
  | .leq => some (.bool (Op.bytesLess a.data.toList b.data.toList || a.data.toList == b.data.toList))
  | .gtr => some (.bool (!(Op.bytesLess a.data.toList b.data.toList || a.data.toList == b.data.toList)))
  | .geq => some (.bool (!(Op.bytesLess a.data.toList b.data.toList)))
  | _ => none

def binV (op : BinOp) (e : EqTy) (x y : Value) : Option Value :=
  match x, y with
  | .int k a, .int k' b => bif isSh op then intSh op k a b else bif decide (k = k') then intBin op k a b else none
  | .string a, .string b => strBin op a b
  | x, y => match op with
    | .eql => (keq e x y).map .bool
    | .neq => (keq e x y).map fun b => .bool (!b)
    | _ => none

def unV (op : UnOp) (x : Value) : Option Value :=
  match op, x with
  | .neg, .int k n => some (.int k (k.wrap (0 - n)))
  | .xor, .int k n => some (.int k (k.wrap (BitVec.ofInt k.bits (if k.signed then -1 else k.max) ^^^ BitVec.ofInt k.bits n).toNat))
  | .not, .bool b => some (.bool (!b))
  | _, _ => none

/-- The bounds of a slice expression: from, to. -/
def slBounds (lo hi : Option Value) (n top : Nat) : Option (Nat × Nat) :=
  match hi with
  | none => match lo with
    | none => some (0, n)
    | some (.int _ l) => bif decide (0 ≤ l) && decide (l ≤ n) then some (l.toNat, n) else none
    | _ => none
  | some (.int _ h) => bif decide (0 ≤ h) && decide (h ≤ top) then
      match lo with
      | none => some (0, h.toNat)
      | some (.int _ l) => bif decide (0 ≤ l) && decide (l ≤ h) then some (l.toNat, h.toNat) else none
      | _ => none
    else none
  | _ => none

def slcV (esz : Nat) (x : Value) (lo hi : Option Value) : Option Value :=
  match x with
  | .slice none 0 0 => match slBounds lo hi 0 0 with
    | some _ => some (.slice none 0 0)
    | none => none
  | .slice (some a) n c => match a.spot with
    | none => match slBounds lo hi n c with
      | some (l, h) => some (.slice (some (bif Nat.beq c l then a else aadd a (l * esz))) (h - l) (c - l))
      | none => none
    | some 0 => bif Nat.beq c esz then
        match slBounds lo hi n n with
        | some (l, h) => some (.slice (some (aadd a (l * esz))) (h - l) esz)
        | none => none
      else none
    | some (_ + 1) => none
  | _ => none

def slcStrV (x : Value) (lo hi : Option Value) : Option Value :=
  match x with
  | .string s => match slBounds lo hi s.size s.size with
    | some (l, h) => some (.string (s.extract l h))
    | none => none
  | _ => none

def idxV (esz : Nat) (x i : Value) : Option Value :=
  match x, i with
  | .slice (some a) n c, .int _ k => bif decide (0 ≤ k) && decide (k < n) && (a.spot.isNone || Nat.beq c esz) then some (.pointer (some (aadd a (k.toNat * esz)))) else none
  | _, _ => none

def idxArrV (len esz : Nat) (x i : Value) : Option Value :=
  match x, i with
  | .pointer (some a), .int _ k => bif decide (0 ≤ k) && decide (k < len) then some (.pointer (some (aadd a (k.toNat * esz)))) else none
  | _, _ => none

def idxStrV (x i : Value) : Option Value :=
  match x, i with
  | .string s, .int _ k => bif decide (0 ≤ k) then
      match s.data.toList[k.toNat]? with
      | some b => some (.int .u8 b.toNat)
      | none => none
    else none
  | _, _ => none

def findK (e : EqTy) (k : Value) : List (Value × Value) → Nat → Option (Option (Nat × Value))
  | [], _ => some none
  | (k', v) :: es, i => match keq e k k' with
    | some true => some (some (i, v))
    | some false => findK e k es (i + 1)
    | none => none

def goodSc : SK → Value → Bool
  | .i, .int _ _ => true
  | .s, .string _ => true
  | .b, .bool _ => true
  | _, _ => false

def goodScs : List SK → List Value → Bool
  | [], [] => true
  | k :: ks, x :: xs => goodSc k x && goodScs ks xs
  | _, _ => false

def goodKey : EqTy → Value → Bool
  | .sc k, x => goodSc k x
  | .agg ks, .agg xs => goodScs ks xs.toList
  | _, _ => false

def lookupV (e : EqTy) (z : Value) (h : AHeap) (x k : Value) (ok : Bool) : Option Value :=
  bif goodKey e k then
    match x with
    | .map none => some (bif ok then .tuple #[z, .bool false] else z)
    | .map (some i) => match h.own.get i with
      | some (.map es) => match findK e k es 0 with
        | some (some (_, v)) => some (bif ok then .tuple #[v, .bool true] else v)
        | some none => some (bif ok then .tuple #[z, .bool false] else z)
        | none => none
      | _ => none
    | _ => none
  else none

def mapUpdH (e : EqTy) (h : AHeap) (x k v : Value) : Option AHeap :=
  bif goodKey e k then
    match x with
    | .map (some i) => match h.own.get i with
      | some (.map es) => match findK e k es 0 with
        | some (some (j, _)) => some (h.put i (.map (es.set j (k, v))))
        | some none => some (h.put i (.map (es ++ [(k, v)])))
        | none => none
      | _ => none
    | _ => none
  else none

def newsOf (W : World) (h : AHeap) (esz : Nat) (y : Value) : Option (Nat × List Value) :=
  match y with
  | .slice none 0 0 => some (0, [])
  | .slice (some a) m c => bif a.spot.isNone || Nat.beq c esz then (aloadN W h a (m * esz)).map fun l => (m, l) else none
  | .string s => bif Nat.beq esz 1 then some (s.size, s.data.toList.map fun b => .int .u8 b.toNat) else none
  | _ => none

def appA (W : World) (h : AHeap) (esz : Nat) (x y : Value) : Option (Value × AHeap) :=
  match newsOf W h esz y with
  | none => none
  | some (m, news) =>
    match x with
    | .slice none 0 0 => match m with
      | 0 => some (x, h)
      | m' + 1 => bif Nat.ble (m' + 1) 1073741824 && news.all oneV then some (oS h.next 0 (m' + 1) esz, h.new (.cells news)) else none
    | .slice (some a) n c => bif Nat.beq c esz then
        match a.spot with
        | some 0 => match m with
          | 0 => some (x, h)
          | m' + 1 => match aloadN W h a (n * esz), h.own.get a.block with
            | some old, some (.cells _) => bif Nat.ble (n + (m' + 1)) 1073741824 && news.all oneV then some (oS h.next 0 (n + (m' + 1)) esz, (h.put a.block .dead).new (.cells (old ++ news))) else none
            | _, _ => none
        | _ => none
      else none
    | _ => none

def repL (z : List Value) : Nat → List Value
  | 0 => []
  | n + 1 => z ++ repL z n

def bytesOfL : List Value → Option (List UInt8)
  | [] => some []
  | .int .u8 n :: l => match bytesOfL l with
    | some bs => some (UInt8.ofNat n.toNat :: bs)
    | none => none
  | _ :: _ => none

def rop (W : World) (ρ : Operand → Value) (h : AHeap) : ROp → Option (Value × AHeap)
  | .mov x => some (ρ x, h)
  | .pick c a b => match ρ c with
    | .bool t => some (bif t then ρ a else ρ b, h)
    | _ => none
  | .newv z => some (oP h.next 0, h.new (.cells z))
  | .box x => bif (celsL (ρ x)).all oneV then some (oP h.next 0, h.new (.cells (celsL (ρ x)))) else none
  | .build z ps => match fillL ρ z ps with
    | some l => some (.agg l.toArray, h)
    | none => none
  | .buildSl z ps n esz => match fillL ρ z ps with
    | some l => bif l.all oneV then some (oS h.next 0 n esz, h.new (.cells l)) else none
    | none => none
  | .load1 x => match ρ x with
    | .pointer (some a) => (aload1 W h a).map fun v => (v, h)
    | _ => none
  | .loadN x n => match ρ x with
    | .pointer (some a) => (aloadN W h a n).map fun l => (.agg l.toArray, h)
    | _ => none
  | .store x v n => match ρ x with
    | .pointer (some a) => bif Nat.beq (celsL (ρ v)).length n then (astore h a (celsL (ρ v))).map fun h' => (undef, h') else none
    | _ => none
  | .nilChk x => match ρ x with
    | .pointer (some _) => some (ρ x, h)
    | .func (.func _) _ _ => some (ρ x, h)
    | _ => none
  | .bin op e x y => (binV op e (ρ x) (ρ y)).map fun v => (v, h)
  | .un op x => (unV op (ρ x)).map fun v => (v, h)
  | .conv k x => match ρ x with
    | .int _ n => some (.int k (k.wrap n), h)
    | _ => none
  | .encRune x => match ρ x with
    | .int _ n => some (.string (Utf8.encode n), h)
    | _ => none
  | .toStr x => match ρ x with
    | .string s => some (.string s, h)
    | _ => none
  | .bytesStr x => match ρ x with
    | .slice none 0 0 => some (.string ⟨#[]⟩, h)
    | .slice (some a) n c => bif a.spot.isNone || Nat.beq c 1 then
        match (aloadN W h a n).bind bytesOfL with
        | some bs => some (.string ⟨bs.toArray⟩, h)
        | none => none
      else none
    | _ => none
  | .strRunes x => match ρ x with
    | .string s =>
      let l := (Conv.runesFrom s s.size 0 #[]).toList
      bif Nat.ble l.length 1073741824 then some (oS h.next 0 l.length 1, h.new (.cells l)) else none
    | _ => none
  | .mkFn fn cap => some (.func fn #[] (cap.map ρ).toArray, h)
  | .mkMap => some (.map (some h.next), h.new (.map []))
  | .mkSlice z bytes l c => match ρ l, ρ c with
    | .int _ l, .int _ c =>
      let l := IntKind.i64.wrap l; let c := IntKind.i64.wrap c
      bif decide (0 ≤ l) && decide (l ≤ c) && decide (bytes * c ≤ 1099511627776) then some (oS h.next 0 l.toNat z.length, h.new (.cells (repL z l.toNat))) else none
    | _, _ => none
  | .slcStr x lo hi => (slcStrV (ρ x) (lo.map ρ) (hi.map ρ)).map fun v => (v, h)
  | .slc esz x lo hi => (slcV esz (ρ x) (lo.map ρ) (hi.map ρ)).map fun v => (v, h)
  | .addOff x n => match ρ x with
    | .pointer (some a) => some (.pointer (some (aadd a n)), h)
    | _ => none
  | .part1 x off => match ρ x with
    | .agg cs => match cs.toList[off]? with
      | some v => some (v, h)
      | none => none
    | _ => none
  | .partN x off n => match ρ x with
    | .agg cs => some (.agg ((cs.toList.drop off).take n).toArray, h)
    | _ => none
  | .idxA esz x i => (idxV esz (ρ x) (ρ i)).map fun v => (v, h)
  | .idxArr len esz x i => (idxArrV len esz (ρ x) (ρ i)).map fun v => (v, h)
  | .idxStr x i => (idxStrV (ρ x) (ρ i)).map fun v => (v, h)
  | .lookup e z x k ok => (lookupV e z h (ρ x) (ρ k) ok).map fun v => (v, h)
  | .mapUpd e m k v => (mapUpdH e h (ρ m) (ρ k) (ρ v)).map fun h' => (undef, h')
  | .rangeStr x => match ρ x with
    | .string s => some (oP h.next 0, h.new (.iter s 0))
    | _ => none
  | .nextStr x => match ρ x with
    | .pointer (some ⟨i, 0, some 0⟩) => match h.own.get i with
      | some (.iter s pos) =>
        bif Nat.blt pos s.size then
          match Utf8.decode s pos with
          | (c, width) => some (.tuple #[.bool true, .int .i64 pos, .int .i32 c], h.put i (.iter s (pos + width)))
        else some (.tuple #[.bool false], h)
      | _ => none
    | _ => none
  | .extract x i => match ρ x with
    | .tuple vs => match vs.toList[i]? with
      | some v => some (v, h)
      | none => none
    | _ => none
  | .lenSl x => match ρ x with
    | .slice _ n _ => some (.int .i64 n, h)
    | _ => none
  | .lenStr x => match ρ x with
    | .string s => some (.int .i64 s.size, h)
    | _ => none
  | .lenMap x => match ρ x with
    | .map none => some (.int .i64 0, h)
    | .map (some i) => match h.own.get i with
      | some (.map es) => some (.int .i64 es.length, h)
      | _ => none
    | _ => none
  | .app esz x y => appA W h esz (ρ x) (ρ y)
  | .clr z x => match ρ x with
    | .slice none _ _ => some (undef, h)
    | .slice (some _) 0 _ => some (undef, h)
    | .slice (some a) (n + 1) c => bif Nat.beq c z.length then (astore h a (repL z (n + 1))).map fun h' => (undef, h') else none
    | _ => none
  | .min2 x y => match ρ x, ρ y with
    | .int k a, .int _ b => some (.int k (if b < a then b else a), h)
    | _, _ => none
  | .max2 x y => match ρ x, ρ y with
    | .int k a, .int _ b => some (.int k (if b > a then b else a), h)
    | _, _ => none
  | .call _ _ => none

end Go.Mach
