/- The abstract machine, part 3: an operation of the model is resolved; what a resolved operation does, the model's operation does. No condition. -/
import Derived.Test.YtlipmjpapkfaeaaGreatDoorM2
set_option linter.unusedSimpArgs false
set_option linter.unusedVariables false
namespace Go.Mach
open Go Go.RowKit

def closedV (v : Value) : Bool :=
  plainV v || match v with
    | .agg cs => cs.toList.all plainV
    | .tuple vs => vs.toList.all fun v => plainV v || match v with
      | .agg cs => cs.toList.all plainV
      | _ => false
    | _ => false

def okOpd : Operand → Bool
  | .const v => closedV v
  | _ => true

def sizeT0 (P : Program) (t : TypeId) : Option Nat := (P.info? t).map (·.size)

def scT (P : Program) (t : TypeId) : Option SK :=
  match P.underlying t with
  | some .bool => some .b
  | some (.int _) => some .i
  | some .string => some .s
  | _ => none

def scFields (P : Program) : Nat → List Field → Option (List SK)
  | _, [] => some []
  | n, f :: fs => if f.name != "_" && f.offset == n then
      match scT P f.type, scFields P (n + 1) fs with
      | some k, some ks => some (k :: ks)
      | _, _ => none
    else none

def eqTyOf (P : Program) (t : TypeId) : Option EqTy :=
  match P.underlying t with
  | some .bool => some (.sc .b)
  | some (.int _) => some (.sc .i)
  | some .string => some (.sc .s)
  | some (.pointer _) => some .ptr
  | some (.slice _) => some .slc
  | some (.func _ _ _) => some .fn
  | some (.struct fs) => if !P.stoodInHeld t && !P.eqGuardType P.depth t then (scFields P 0 fs.toList).map .agg else none
  | some (.array n e) => if !P.eqGuardType P.depth t && sizeT0 P e == some 1 then (scT P e).map fun k => .agg (List.replicate n k) else none
  | _ => none

def keyTyOf (P : Program) (t : TypeId) : Option EqTy :=
  match eqTyOf P t with
  | some (.sc k) => some (.sc k)
  | some (.agg n) => some (.agg n)
  | _ => none

def aggT (P : Program) (t : TypeId) : Option Bool :=
  match P.underlying t with
  | some (.struct _) => some true
  | some (.array _ _) => some true
  | some _ => some false
  | none => none

def zeroT (P : Program) (t : TypeId) : Option Value := (P.info? t).bind (·.zero)
def sizeT (P : Program) (t : TypeId) : Option Nat := (P.info? t).map (·.size)
def bytesT (P : Program) (t : TypeId) : Option Nat := (P.info? t).map (·.bytes)

/-- The zero cells of an element type, if they are plain and as many as its size. -/
def zerosT (P : Program) (t : TypeId) : Option (List Value) :=
  match zeroT P t, sizeT P t with
  | some z, some n => if (celsL z).length == n && (celsL z).all plainV then some (celsL z) else none
  | _, _ => none

def fieldParts (P : Program) (fs : Array Field) : List (Nat × Operand) → Option (List (Nat × Nat × Operand))
  | [] => some []
  | (i, x) :: ps => match fs[i]?, fieldParts P fs ps with
    | some f, some qs => (sizeT P f.type).map fun n => (f.offset, n, x) :: qs
    | _, _ => none

def elemParts (size : Nat) : List (Nat × Operand) → List (Nat × Nat × Operand)
  | [] => []
  | (i, x) :: ps => (i * size, size, x) :: elemParts size ps

def compRaw (P : Program) : Op → Option ROp
  | .move x | .assign x => some (.mov x)
  | .pick c a b => some (.pick c a b)
  | .alloc e => (zerosT P e).map .newv
  | .box _ x => some (.box x)
  | .build t ps =>
    match zerosT P t, P.underlying t with
    | some z, some (.struct fs) => if (fs.toList.all fun f => (sizeT P f.type).isSome) then (fieldParts P fs ps.toList).map (.build z) else none
    | some z, some (.array _ e) => (sizeT P e).map fun n => .build z (elemParts n ps.toList)
    | _, _ => none
  | .buildSlice t n ps =>
    match P.underlying t with
    | some (.slice e) => match zerosT P e with
      | some z => if n * z.length ≤ 2 ^ 24 then some (.buildSl (repL z n) (elemParts z.length ps.toList) n z.length) else none
      | none => none
    | _ => none
  | .load t x => match aggT P t with
    | some false => some (.load1 x)
    | some true => (sizeT P t).map (.loadN x)
    | none => none
  | .store t x v => (sizeT P t).map (.store x v)
  | .nilCheck x => some (.nilChk x)
  | .binOp op t x y _ => match eqTyOf P t with
    | some e => some (.bin op e x y)
    | none => none
  | .unOp op _ x => some (.un op x)
  | .convert s d x => match P.underlying s, P.underlying d with
    | some .string, some .string => some (.toStr x)
    | some .string, some (.slice e) => match P.underlying e with
      | some (.int .i32) => some (.strRunes x)
      | _ => none
    | some (.slice e), some .string => match P.underlying e with
      | some (.int .u8) => some (.bytesStr x)
      | _ => none
    | some (.int _), some (.int k) => some (.conv k x)
    | some (.int _), some .string => some (.encRune x)
    | _, _ => none
  | .makeFunc fn first cap => if first.toList.isEmpty then some (.mkFn fn cap.toList) else none
  | .makeMap _ none => some .mkMap
  | .makeSlice t l c => match P.underlying t with
    | some (.slice e) => match zerosT P e, bytesT P e with
      | some z, some b => if z.length ≠ 0 then some (.mkSlice z b l c) else none
      | _, _ => none
    | _ => none
  | .slice t x lo hi none => match P.underlying t with
    | some .string => some (.slcStr x lo hi)
    | some (.slice e) => match sizeT P e with
      | some n => if n ≠ 0 then some (.slc n x lo hi) else none
      | none => none
    | _ => none
  | .fieldAddr t x f => match P.underlying t with
    | some (.struct fs) => match fs[f]? with
      | some fd => match sizeT P fd.type with
        | some n => if n ≠ 0 then some (.addOff x fd.offset) else none
        | none => none
      | none => none
    | _ => none
  | .field t x f => match P.underlying t with
    | some (.struct fs) => match fs[f]? with
      | some fd => match aggT P fd.type, sizeT P fd.type with
        | some true, some n => some (.partN x fd.offset n)
        | some false, _ => some (.part1 x fd.offset)
        | _, _ => none
      | none => none
    | _ => none
  | .indexAddr t x i => match P.underlying t with
    | some (.slice e) => match sizeT P e with
      | some n => if n ≠ 0 then some (.idxA n x i) else none
      | none => none
    | some (.array len e) => match sizeT P e with
      | some n => if n ≠ 0 then some (.idxArr len n x i) else none
      | none => none
    | _ => none
  | .index t x i => match P.underlying t with
    | some .string => some (.idxStr x i)
    | _ => none
  | .lookup t x k ok => match P.underlying t with
    | some (.map kt e) => match keyTyOf P kt, zeroT P e with
      | some q, some z => if closedV z then some (.lookup q z x k ok) else none
      | _, _ => none
    | _ => none
  | .mapUpdate t m k v | .insert t m k v => match P.underlying t with
    | some (.map kt _) => match keyTyOf P kt with
      | some q => some (.mapUpd q m k v)
      | none => none
    | _ => none
  | .range t x => match P.underlying t with
    | some .string => some (.rangeStr x)
    | _ => none
  | .next x true => some (.nextStr x)
  | .extract x i => some (.extract x i)
  | .call c => match c.callee with
    | .value f => some (.call f c.args.toList)
    | .builtin .len => match c.args.toList, c.argTypes.toList with
      | [x], [t] => match P.underlying t with
        | some .string => some (.lenStr x)
        | some (.slice _) => some (.lenSl x)
        | some (.map _ _) => some (.lenMap x)
        | _ => none
      | _, _ => none
    | .builtin .append => match c.args.toList, c.argTypes.toList with
      | [x, y], [t, u] => match P.underlying t with
        | some (.slice e) => match zerosT P e, bytesT P e with
          | some z, some b =>
            if z.length ≠ 0 ∧ b ≤ 1024 then
              (match P.underlying u with
              | some (.slice e') => if e' = e then some (.app z.length x y) else none
              | some .string => if z.length = 1 then some (.app 1 x y) else none
              | _ => none)
            else none
          | _, _ => none
        | _ => none
      | _, _ => none
    | .builtin .clear => match c.args.toList, c.argTypes.toList with
      | [x], [t] => match P.underlying t with
        | some (.slice e) => match zerosT P e with
          | some z => if z.length ≠ 0 then some (.clr z x) else none
          | _ => none
        | _ => none
      | _, _ => none
    | .builtin .min => match c.args.toList with
      | [x, y] => some (.min2 x y)
      | _ => none
    | .builtin .max => match c.args.toList with
      | [x, y] => some (.max2 x y)
      | _ => none
    | _ => none
  | _ => none

def compOp (P : Program) (o : Op) : Option ROp := if o.operands.toList.all okOpd then compRaw P o else none

/-! ## Values under the relation -/
section
variable {μ : PMap} {v v' : Value}

theorem VR.plain_inv (h : plainV v = true) (hv : VR μ v v') : v' = v := by
  cases hv with
  | plain _ => rfl
  | ptr _ => simp [plainV] at h
  | slice _ _ _ _ => simp [plainV] at h
  | empty => simp [plainV] at h
  | map _ => simp [plainV] at h
  | func _ _ => simp [plainV] at h
  | agg _ _ => simp [plainV] at h
  | tuple _ _ => simp [plainV] at h

theorem VR.int {k : IntKind} {n : Int} (hv : VR μ (.int k n) v') : v' = .int k n := hv.plain_inv rfl
theorem VR.bool {b : Bool} (hv : VR μ (.bool b) v') : v' = .bool b := hv.plain_inv rfl
theorem VR.string {s : ByteArray} (hv : VR μ (.string s) v') : v' = .string s := hv.plain_inv rfl

theorem VR.oneCell (hv : VR μ v v') : v'.oneCell' = v.oneCell' := by
  cases hv <;> rfl

theorem oneV_eq (v : Value) : oneV v = v.oneCell' := by cases v <;> rfl

theorem VR.plains {l : List Value} (h : l.all plainV = true) : VRs μ l l :=
  ⟨rfl, fun i v hv => ⟨v, hv, .plain (List.all_eq_true.1 h v (List.mem_of_getElem? hv))⟩⟩

theorem VRs.agg {xs ys : List Value} (h : VRs μ xs ys) : VR μ (.agg xs.toArray) (.agg ys.toArray) := by
  refine .agg (by simpa using h.1) ?_
  intro i
  cases hx : xs[i]? with
  | none =>
    have hy : ys[i]? = none := by rw [List.getElem?_eq_none_iff] at hx ⊢; have := h.1; omega
    simpa [Array.getD_eq_getD_getElem?, hx, hy] using VR.undef
  | some v =>
    obtain ⟨v', hy, hr⟩ := h.2 i v hx
    simpa [Array.getD_eq_getD_getElem?, hx, hy] using hr

theorem VRs.tuple {xs ys : List Value} (h : VRs μ xs ys) : VR μ (.tuple xs.toArray) (.tuple ys.toArray) := by
  refine .tuple (by simpa using h.1) ?_
  intro i hi
  have hx : xs[i]? = some xs[i] := by simp at hi; simp [hi]
  obtain ⟨v', hy, hr⟩ := h.2 i _ hx
  simpa [Array.getD_eq_getD_getElem?, hx, hy] using hr

theorem VRs.func {fn : Fn} {xs ys : List Value} (h : VRs μ xs ys) : VR μ (.func fn #[] xs.toArray) (.func fn #[] ys.toArray) := by
  refine .func (by simpa using h.1) ?_
  intro i
  cases hx : xs[i]? with
  | none =>
    have hy : ys[i]? = none := by rw [List.getElem?_eq_none_iff] at hx ⊢; have := h.1; omega
    simpa [Array.getD_eq_getD_getElem?, hx, hy] using VR.undef
  | some v =>
    obtain ⟨v', hy, hr⟩ := h.2 i v hx
    simpa [Array.getD_eq_getD_getElem?, hx, hy] using hr

theorem VRs_of_getD {xs ys : Array Value} (hs : xs.size = ys.size) (h : ∀ i, i < xs.size → VR μ (xs.getD i Go.undef) (ys.getD i Go.undef)) : VRs μ xs.toList ys.toList := by
  refine ⟨by simpa using hs, ?_⟩
  intro i v hv
  have hi : i < xs.size := by
    rcases Nat.lt_or_ge i xs.size with h' | h'
    · exact h'
    · simp [Array.getElem?_eq_none h'] at hv
  have hi' : i < ys.size := by omega
  have hr := h i hi
  simp [Array.getD_eq_getD_getElem?, hi, hi'] at hr
  refine ⟨ys[i], by simp [hi'], ?_⟩
  simp [hi] at hv
  exact hv ▸ hr

theorem VR.agg_inv {xs : Array Value} (hv : VR μ (.agg xs) v') : ∃ ys : Array Value, v' = .agg ys ∧ VRs μ xs.toList ys.toList := by
  cases hv with
  | plain h => simp [plainV] at h
  | agg hs h => exact ⟨_, rfl, VRs_of_getD hs fun i _ => h i⟩

theorem VR.tuple_inv {xs : Array Value} (hv : VR μ (.tuple xs) v') : ∃ ys : Array Value, v' = .tuple ys ∧ VRs μ xs.toList ys.toList := by
  cases hv with
  | plain h => simp [plainV] at h
  | tuple hs h => exact ⟨_, rfl, VRs_of_getD hs h⟩

theorem VR.func_inv {fn : Fn} {fs xs : Array Value} (hv : VR μ (.func fn fs xs) v') : fs = #[] ∧ ∃ ys : Array Value, v' = .func fn #[] ys ∧ VRs μ xs.toList ys.toList := by
  cases hv with
  | plain h => simp [plainV] at h
  | func hs h => exact ⟨rfl, _, rfl, VRs_of_getD hs fun i _ => h i⟩

theorem VR.ptr_inv {a : Addr} (hv : VR μ (.pointer (some a)) v') :
    (a.spot = none ∧ v' = .pointer (some a)) ∨ (a.spot = some 0 ∧ ∃ p, μ a.block = some p ∧ v' = .pointer (some ⟨p.blk, a.off + p.shift, none⟩)) := by
  cases hv with
  | plain h => exact .inl ⟨by simpa [plainV] using h, rfl⟩
  | ptr h => exact .inr ⟨rfl, _, h, rfl⟩

theorem VR.slice_inv {a : Addr} {n c : Nat} (hv : VR μ (.slice (some a) n c) v') :
    (a.spot = none ∧ v' = .slice (some a) n c) ∨
    (a.spot = some 0 ∧ ∃ p o' c', μ a.block = some p ∧ c = p.esz ∧ n ≤ c' ∧ o' + c' * p.esz ≤ p.size ∧ (n ≠ 0 → o' = a.off + p.shift) ∧ v' = .slice (some ⟨p.blk, o', none⟩) n c') ∨
    (a.spot = some 1 ∧ n = 0 ∧ c = 0 ∧ ∃ b, v' = .slice (some b) 0 0) := by
  cases hv with
  | plain h => exact .inl ⟨by simpa [plainV] using h, rfl⟩
  | slice h hn hf ho => exact .inr (.inl ⟨rfl, _, _, _, h, rfl, hn, hf, ho, rfl⟩)
  | empty => exact .inr (.inr ⟨rfl, rfl, rfl, _, rfl⟩)

theorem VR.map_inv {i : Nat} (hv : VR μ (.map (some i)) v') : ∃ p, μ i = some p ∧ v' = .map (some p.blk) := by
  cases hv with
  | plain h => simp [plainV] at h
  | map h => exact ⟨_, h, rfl⟩

theorem VR.closed (h : closedV v = true) : VR μ v v := by
  unfold closedV at h
  rw [Bool.or_eq_true] at h
  rcases h with h | h
  · exact .plain h
  · cases v <;> try (simp at h; done)
    case agg cs => simpa using (VR.plains (μ := μ) h).agg
    case tuple vs =>
      have : VRs μ vs.toList vs.toList := by
        refine ⟨rfl, fun i v hv => ⟨v, hv, ?_⟩⟩
        have := List.all_eq_true.1 h v (List.mem_of_getElem? hv)
        rw [Bool.or_eq_true] at this
        rcases this with h' | h'
        · exact .plain h'
        · cases v <;> try (simp at h'; done)
          case agg cs => simpa using (VR.plains (μ := μ) h').agg
      simpa using this.tuple

theorem VR.cels (hv : VR μ v v') : VRs μ (celsL v) (celsL v') := by
  have one : ∀ {a b : Value}, VR μ a b → VRs μ [a] [b] := by
    intro a b hab
    refine ⟨rfl, fun i x hx => ?_⟩
    cases i with
    | zero => simp at hx; subst hx; exact ⟨b, rfl, hab⟩
    | succ i => simp at hx
  cases hv with
  | plain h => cases v <;> first | (simp [plainV] at h; done) | exact one (.plain h)
  | agg hs h => exact VRs_of_getD hs fun i _ => h i
  | ptr h => exact one (.ptr h)
  | slice h hn hf ho => exact one (.slice h hn hf ho)
  | empty => exact one .empty
  | map h => exact one (.map h)
  | func hs h => exact one (.func hs h)
  | tuple hs h => exact one (.tuple hs h)
end

theorem cells_toList (v : Value) : v.cells.toList = celsL v := by cases v <;> rfl

theorem VRs.nil {μ : PMap} : VRs μ [] [] := ⟨rfl, fun i v hv => by simp at hv⟩
theorem VRs.cons {μ : PMap} {x y : Value} {xs ys : List Value} (h : VR μ x y) (hs : VRs μ xs ys) : VRs μ (x :: xs) (y :: ys) := by
  refine ⟨by simp [hs.1], fun i v hv => ?_⟩
  cases i with
  | zero => simp at hv; subst hv; exact ⟨y, rfl, h⟩
  | succ i => simpa using hs.2 i v (by simpa using hv)
theorem VRs.append {μ : PMap} {xs ys xs' ys' : List Value} (h : VRs μ xs ys) (h' : VRs μ xs' ys') : VRs μ (xs ++ xs') (ys ++ ys') := by
  refine ⟨by simp [h.1, h'.1], fun i v hv => ?_⟩
  rw [List.getElem?_append] at hv ⊢
  have := h.1
  by_cases hi : i < xs.length
  · rw [if_pos hi] at hv; rw [if_pos (by omega)]; exact h.2 i v hv
  · rw [if_neg hi] at hv; rw [if_neg (by omega), ← h.1]; exact h'.2 _ v hv
theorem VRs.take {μ : PMap} {xs ys : List Value} (h : VRs μ xs ys) (n : Nat) : VRs μ (xs.take n) (ys.take n) := by
  refine ⟨by simp [h.1], fun i v hv => ?_⟩
  rw [List.getElem?_take] at hv ⊢
  by_cases hi : i < n
  · rw [if_pos hi] at hv ⊢; exact h.2 i v hv
  · rw [if_neg hi] at hv; cases hv
theorem VRs.drop {μ : PMap} {xs ys : List Value} (h : VRs μ xs ys) (n : Nat) : VRs μ (xs.drop n) (ys.drop n) := by
  refine ⟨by simp [h.1], fun i v hv => ?_⟩
  rw [List.getElem?_drop] at hv ⊢
  exact h.2 _ v hv
theorem VRs.splice {μ : PMap} {xs ys vs us : List Value} (h : VRs μ xs ys) (h' : VRs μ vs us) (o : Nat) : VRs μ (splice xs o vs) (splice ys o us) := by
  unfold Mach.splice
  rw [h'.1]
  exact ((h.take o).append h').append (h.drop _)
theorem VRs.mono {μ μ' : PMap} (hm : ∀ i p, μ i = some p → μ' i = some p) {xs ys : List Value} (h : VRs μ xs ys) : VRs μ' xs ys :=
  ⟨h.1, fun i v hv => let ⟨v', h1, h2⟩ := h.2 i v hv; ⟨v', h1, h2.mono hm⟩⟩
theorem VRs.getElem? {μ : PMap} {xs ys : List Value} (h : VRs μ xs ys) {i : Nat} {v : Value} (hv : xs[i]? = some v) : ∃ v', ys[i]? = some v' ∧ VR μ v v' := h.2 i v hv

/-! ## Reading memory -/
section
variable {W : World} {μ : PMap} {h : AHeap} {w : World}

theorem aadd_own (a : Addr) (n : Nat) : (aadd a n).spot = a.spot := rfl

theorem aadd_base {a : Addr} (ha : a.spot = none) (n : Nat) : a.add n = aadd a n := by
  unfold Addr.add aadd
  split
  · subst_vars; cases a; simp
  · cases a; simp_all

/-- An address of the machine and the real one. -/
def AR (μ : PMap) (a a' : Addr) : Prop := (a.spot = none ∧ a' = a) ∨ (a.spot = some 0 ∧ ∃ p, μ a.block = some p ∧ a' = ⟨p.blk, a.off + p.shift, none⟩)

theorem AR.add {a a' : Addr} (ha : AR μ a a') (n : Nat) : AR μ (aadd a n) (a'.add n) := by
  rcases ha with ⟨h1, rfl⟩ | ⟨h1, p, hp, rfl⟩
  · exact .inl ⟨h1, aadd_base h1 n⟩
  · refine .inr ⟨h1, p, hp, ?_⟩
    unfold Addr.add aadd
    split
    · subst_vars; simp
    · simp; omega

theorem VR.ptr_AR {a : Addr} {v' : Value} (hv : VR μ (.pointer (some a)) v') : ∃ a', v' = .pointer (some a') ∧ AR μ a a' := by
  rcases hv.ptr_inv with ⟨h1, h2⟩ | ⟨h1, p, hp, h2⟩
  · exact ⟨a, h2, .inl ⟨h1, rfl⟩⟩
  · exact ⟨_, h2, .inr ⟨h1, p, hp, rfl⟩⟩

theorem AR.ptr {a a' : Addr} (ha : AR μ a a') : VR μ (.pointer (some a)) (.pointer (some a')) := by
  rcases ha with ⟨h1, rfl⟩ | ⟨h1, p, hp, rfl⟩
  · exact .plain (by simp [plainV, h1])
  · obtain ⟨b, o, s⟩ := a
    simp at h1; subst h1
    exact .ptr hp

theorem plain_oneCell {v : Value} (h : plainV v = true) : v.oneCell' = true := by
  cases v <;> first | rfl | (simp [plainV] at h)

theorem base_cell (H : HR W μ h w) {a : Addr} {v : Value} (hv : W.cell? a = some v) : w.cell? a = some v := by
  rw [H.below.cell (World.block_lt_of_cell? W a hv)]; exact hv

theorem aload1_sim (H : HR W μ h w) {a a' : Addr} (ha : AR μ a a') {v : Value} (hv : aload1 W h a = some v) :
    ∃ v', w.cell? a' = some v' ∧ VR μ v v' ∧ v.oneCell' = true := by
  unfold aload1 at hv
  rcases ha with ⟨h1, rfl⟩ | ⟨h1, p, hp, rfl⟩
  · simp only [h1] at hv
    cases hc : W.cell? a' with
    | none => simp [hc] at hv
    | some u =>
      simp only [hc] at hv
      cases hpl : plainV u with
      | false =>
        simp only [hpl, cond_false] at hv
        split at hv
        · cases hv; exact ⟨_, base_cell H hc, .empty, rfl⟩
        · cases hv
      | true =>
        simp [hpl] at hv
        subst hv
        exact ⟨u, base_cell H hc, .plain hpl, plain_oneCell hpl⟩
  · simp only [h1] at hv
    cases hg : h.own.get a.block with
    | none => simp [hg] at hv
    | some b =>
      cases b <;> simp [hg] at hv
      rename_i c
      obtain ⟨_, cs, e, h2, h3, h4, h5⟩ := H.rep _ _ _ hp hg
      obtain ⟨h6, v', h7, h8, h9⟩ := h5 _ _ hv
      refine ⟨v', ?_, h9, h6⟩
      simp [World.cell?, h2, Nat.add_comm a.off, h7]

theorem aloadN_sim (H : HR W μ h w) : ∀ (n : Nat) {a a' : Addr} (ha : AR μ a a') {l : List Value} (hl : aloadN W h a n = some l),
    ∃ l', VRs μ l l' ∧ l.length = n ∧ (∀ v ∈ l, v.oneCell' = true) ∧ (∀ j v, l'[j]? = some v → w.cell? (a'.add j) = some v)
  | 0, a, a', ha, l, hl => by
    simp [aloadN] at hl; subst hl
    exact ⟨[], VRs.nil, rfl, by simp, by simp⟩
  | n + 1, a, a', ha, l, hl => by
    unfold aloadN at hl
    cases h1 : aload1 W h a with
    | none => simp [h1] at hl
    | some v =>
      cases h2 : aloadN W h (aadd a 1) n with
      | none => simp [h1, h2] at hl
      | some vs =>
        simp [h1, h2] at hl; subst hl
        obtain ⟨v', hc, hr, ho⟩ := aload1_sim H ha h1
        obtain ⟨l', hrs, hlen, hone, hcs⟩ := aloadN_sim H n (ha.add 1) h2
        refine ⟨v' :: l', hrs.cons hr, by simp [hlen], ?_, ?_⟩
        · intro u hu
          rcases List.mem_cons.1 hu with rfl | hu
          · exact ho
          · exact hone u hu
        · intro j u hu
          cases j with
          | zero => simp at hu; subst hu; simpa [Addr.add] using hc
          | succ j =>
            have := hcs j u (by simpa using hu)
            have e : (a'.add 1).add j = a'.add (j + 1) := by
              unfold Addr.add
              by_cases hj : j = 0
              · subst hj; simp
              · simp [hj]; omega
            rwa [e] at this

theorem VRs.one {xs ys : List Value} (hv : VRs μ xs ys) (h1 : ∀ v ∈ xs, v.oneCell' = true) : ∀ v ∈ ys, v.oneCell' = true := by
  intro v hmem
  obtain ⟨i, hi, rfl⟩ := List.mem_iff_getElem.1 hmem
  have hi' : i < xs.length := by have := hv.1; omega
  obtain ⟨v', h2, h3⟩ := hv.2 i xs[i] (by simp [hi'])
  rw [List.getElem?_eq_getElem hi] at h2
  cases h2
  rw [h3.oneCell]; exact h1 _ (by simp)

/-- Writing cells of an own row. -/
theorem astore_sim (H : HR W μ h w) {a a' : Addr} (ha : AR μ a a') {vs us : List Value} (hvs : VRs μ vs us) {h' : AHeap} (hs : astore h a vs = some h') (P : Program) :
    ∃ w', (storeCells a' us).run P w = .ok () w' ∧ HR W μ h' w' ∧ h'.next = h.next := by
  unfold astore at hs
  rcases ha with ⟨h1, rfl⟩ | ⟨h1, p, hp, rfl⟩
  · simp [h1] at hs
  · simp only [h1] at hs
    cases hg : h.own.get a.block with
    | none => simp [hg] at hs
    | some b =>
      cases b <;> simp [hg] at hs
      rename_i c
      cases hcond : Nat.ble (a.off + vs.length) c.length && vs.all oneV with
      | false => simp [hcond] at hs
      | true =>
        simp [hcond] at hs
        subst hs
        simp only [Bool.and_eq_true, Nat.ble_eq, List.all_eq_true, oneV_eq] at hcond
        obtain ⟨hfit, hone⟩ := hcond
        obtain ⟨h0, cs, e, h2, h3, h4, h5⟩ := H.rep _ _ _ hp hg
        have hone' := hvs.one (fun v hv => hone v hv)
        have hlen := hvs.1
        have hrun := run_storeCells_at P p.blk (a.off + p.shift) e us 0 cs w h2 (by omega) hone'
        simp only [Nat.add_zero] at hrun
        refine ⟨_, hrun, ?_, rfl⟩
        have hsr := setRow_heap w p.blk cs (cs.toList.take (a.off + p.shift) ++ us ++ cs.toList.drop (a.off + p.shift + us.length)).toArray e _ h2
        refine H.write a.block p (.cells c) _ hp hg rfl rfl ?_ (fun k hk => setRow_other w p.blk k _ hk) ?_
        · refine H.below.trans ⟨rfl, rfl, rfl, by simp, fun k hk => setRow_other w p.blk k _ (by omega)⟩
        · have hlc : cs.toList.length = p.size := by simpa using h3
          refine ⟨h0, _, e, hsr, ?_, ?_, ?_⟩
          · simp [List.length_append, List.length_take, List.length_drop]; omega
          · simp [splice, List.length_append, List.length_take, List.length_drop]; omega
          · intro k v hv
            unfold splice at hv
            rw [List.append_assoc, List.getElem?_append] at hv
            simp only [List.length_take] at hv
            have hmin : min a.off c.length = a.off := by omega
            rw [hmin] at hv
            simp only [List.getElem?_toArray, List.append_assoc]
            rw [List.getElem?_append]
            have hmin' : (cs.toList.take (a.off + p.shift)).length = a.off + p.shift := by rw [List.length_take]; omega
            rw [hmin']
            by_cases hk : k < a.off
            · rw [if_pos hk] at hv
              rw [if_pos (by omega)]
              rw [List.getElem?_take, if_pos hk] at hv
              obtain ⟨h6, v', h7, h8, h9⟩ := h5 k v hv
              rw [List.getElem?_take, if_pos (by omega)]
              exact ⟨h6, v', by simpa using h7, h8, h9⟩
            · rw [if_neg hk] at hv
              rw [if_neg (by omega)]
              rw [List.getElem?_append] at hv ⊢
              by_cases hk2 : k - a.off < vs.length
              · rw [if_pos hk2] at hv
                rw [if_pos (by omega)]
                obtain ⟨u, hu, hr⟩ := hvs.2 _ _ hv
                refine ⟨hone v (List.mem_of_getElem? hv), u, ?_, ?_, hr⟩
                · rw [← hu]; congr 1; omega
                · exact hone' u (List.mem_of_getElem? hu)
              · rw [if_neg hk2] at hv
                rw [if_neg (by omega)]
                rw [List.getElem?_drop] at hv ⊢
                obtain ⟨h6, v', h7, h8, h9⟩ := h5 _ v hv
                refine ⟨h6, v', ?_, h8, h9⟩
                rw [← h7]
                simp only [Array.getElem?_toList]
                congr 1; omega

end
end Go.Mach
