/- The abstract machine, part 1: tries, the abstract heap, the relation between abstract and real values and heaps. No condition.
Merged from 3 texts. -/
import Derived.Orders
import Derived.Below
import Derived.Laws.Append
import Derived.Laws.Rows
import Derived.Laws.StructEq
import Derived.Laws.CopyRow
section
set_option linter.unusedSimpArgs false
set_option linter.unusedVariables false
namespace Go.Mach
open Go Go.RowKit
inductive Tr (α : Type) where
  | lf
  | nd (l : Tr α) (v : Option α) (r : Tr α)
namespace Tr
variable {α : Type}
def get : Tr α → Nat → Option α
  | .lf, _ => none
  | .nd l v r, k => bif Nat.beq k 0 then v else bif Nat.beq (k % 2) 1 then l.get (k / 2) else r.get (k / 2 - 1)
def setF : Nat → Tr α → Nat → α → Tr α
  | 0, t, _, _ => t
  | f + 1, .lf, k, a => bif Nat.beq k 0 then .nd .lf (some a) .lf else bif Nat.beq (k % 2) 1 then .nd (setF f .lf (k / 2) a) none .lf else .nd .lf none (setF f .lf (k / 2 - 1) a)
  | f + 1, .nd l v r, k, a => bif Nat.beq k 0 then .nd l (some a) r else bif Nat.beq (k % 2) 1 then .nd (setF f l (k / 2) a) v r else .nd l v (setF f r (k / 2 - 1) a)
def set (t : Tr α) (k : Nat) (a : α) : Tr α := setF (k + 1) t k a
theorem nbeq (a b : Nat) : Nat.beq a b = decide (a = b) := by
  rw [Bool.eq_iff_iff]; simp
theorem get_setF (f : Nat) : ∀ (t : Tr α) (k j : Nat) (a : α), k < f → (setF f t k a).get j = if j = k then some a else t.get j := by
  induction f with
  | zero => intro t k j a h; omega
  | succ f ih =>
    intro t k j a h
    have key : ∀ (l r : Tr α) (v : Option α), (bif Nat.beq k 0 then Tr.nd l (some a) r else bif Nat.beq (k % 2) 1 then .nd (setF f l (k / 2) a) v r else .nd l v (setF f r (k / 2 - 1) a)).get j
        = if j = k then some a else (Tr.nd l v r).get j := by
      intro l r v
      by_cases hk : k = 0
      · subst hk
        by_cases hj : j = 0 <;> simp [get, nbeq, hj]
      · by_cases h1 : k % 2 = 1
        · by_cases hj : j = 0
          · subst hj; simp [get, nbeq, hk, h1, Ne.symm hk]
          · by_cases hj1 : j % 2 = 1
            · have : (j / 2 = k / 2) ↔ j = k := by omega
              simp [get, nbeq, hk, h1, hj, hj1, ih l (k/2) (j/2) a (by omega), this]
            · have : j ≠ k := by omega
              simp [get, nbeq, hk, h1, hj, hj1, this]
        · by_cases hj : j = 0
          · subst hj; simp [get, nbeq, hk, h1, Ne.symm hk]
          · by_cases hj1 : j % 2 = 1
            · have : j ≠ k := by omega
              simp [get, nbeq, hk, h1, hj, hj1, this]
            · have : (j / 2 - 1 = k / 2 - 1) ↔ j = k := by omega
              simp [get, nbeq, hk, h1, hj, hj1, ih r (k/2-1) (j/2-1) a (by omega), this]
    cases t with
    | lf => rw [show (Tr.lf : Tr α).get j = (Tr.nd (.lf : Tr α) none .lf).get j by simp [get]]; exact key .lf .lf none
    | nd l v r => exact key l r v

@[simp] theorem get_lf (j : Nat) : (Tr.lf : Tr α).get j = none := rfl
theorem get_set (t : Tr α) (k j : Nat) (a : α) : (t.set k a).get j = if j = k then some a else t.get j := get_setF (k + 1) t k j a (by omega)
@[simp] theorem get_set_self (t : Tr α) (k : Nat) (a : α) : (t.set k a).get k = some a := by simp [get_set]
theorem get_set_ne (t : Tr α) (k j : Nat) (a : α) (h : j ≠ k) : (t.set k a).get j = t.get j := by simp [get_set, h]
end Tr
inductive ABlk where
  | cells (c : List Value)
  | map (es : List (Value × Value))
  | iter (s : ByteArray) (pos : Nat)
  | dead
structure AHeap where
  own : Tr ABlk
  next : Nat
def AHeap.new (h : AHeap) (b : ABlk) : AHeap := ⟨h.own.set h.next b, h.next + 1⟩
def AHeap.put (h : AHeap) (i : Nat) (b : ABlk) : AHeap := ⟨h.own.set i b, h.next⟩
def AHeap.empty : AHeap := ⟨.lf, 0⟩
def oA (i o : Nat) : Addr := ⟨i, o, some 0⟩
def oP (i o : Nat) : Value := .pointer (some (oA i o))
def oS (i o n esz : Nat) : Value := .slice (some (oA i o)) n esz
def plainV : Value → Bool
  | .bool _ | .int _ _ | .string _ | .float _ _ | .complex _ _ _ | .nilFunc | .nilIface => true
  | .pointer none => true
  | .pointer (some a) => a.spot.isNone
  | .slice none n c => Nat.beq n 0 && Nat.beq c 0
  | .slice (some a) _ _ => a.spot.isNone
  | .map none => true
  | _ => false
structure Place where
  blk : Nat
  shift : Nat
  size : Nat
  esz : Nat
abbrev PMap := Nat → Option Place
inductive VR (μ : PMap) : Value → Value → Prop where
  | plain {v : Value} (h : plainV v = true) : VR μ v v
  | ptr {i o : Nat} {p : Place} (h : μ i = some p) : VR μ (.pointer (some ⟨i, o, some 0⟩)) (.pointer (some ⟨p.blk, o + p.shift, none⟩))
  | slice {i o n o' c' : Nat} {p : Place} (h : μ i = some p) (hn : n ≤ c') (hfit : o' + c' * p.esz ≤ p.size) (ho : n ≠ 0 → o' = o + p.shift) :
      VR μ (.slice (some ⟨i, o, some 0⟩) n p.esz) (.slice (some ⟨p.blk, o', none⟩) n c')
  | empty {b : Addr} : VR μ (.slice (some ⟨0, 0, some 1⟩) 0 0) (.slice (some b) 0 0)
  | map {i : Nat} {p : Place} (h : μ i = some p) : VR μ (.map (some i)) (.map (some p.blk))
  | func {fn : Fn} {xs ys : Array Value} (hs : xs.size = ys.size) (h : ∀ i, VR μ (xs.getD i undef) (ys.getD i undef)) : VR μ (.func fn #[] xs) (.func fn #[] ys)
  | agg {xs ys : Array Value} (hs : xs.size = ys.size) (h : ∀ i, VR μ (xs.getD i undef) (ys.getD i undef)) : VR μ (.agg xs) (.agg ys)
  | tuple {xs ys : Array Value} (hs : xs.size = ys.size) (h : ∀ i, i < xs.size → VR μ (xs.getD i undef) (ys.getD i undef)) : VR μ (.tuple xs) (.tuple ys)
def VRs (μ : PMap) (xs ys : List Value) : Prop := xs.length = ys.length ∧ ∀ i : Nat, ∀ v, xs[i]? = some v → ∃ v', ys[i]? = some v' ∧ VR μ v v'
theorem VR.undef {μ : PMap} : VR μ undef undef := .tuple rfl (by intro i hi; exact absurd hi (by simp))
def Ext (μ : PMap) (n : Nat) (μ' : PMap) : Prop := ∀ i, i < n → μ' i = μ i
def Dom (μ : PMap) (n : Nat) : Prop := ∀ i p, μ i = some p → i < n
theorem VR.mono {μ μ' : PMap} (hm : ∀ i p, μ i = some p → μ' i = some p) {v v' : Value} (h : VR μ v v') : VR μ' v v' := by
  induction h with
  | plain h => exact .plain h
  | ptr h => exact .ptr (hm _ _ h)
  | slice h hn hf ho => exact .slice (hm _ _ h) hn hf ho
  | empty => exact .empty
  | map h => exact .map (hm _ _ h)
  | func hs _ ih => exact .func hs ih
  | agg hs _ ih => exact .agg hs ih
  | tuple hs _ ih => exact .tuple hs ih
theorem Ext.le {μ μ' : PMap} {n : Nat} (h : Ext μ n μ') (hd : Dom μ n) : ∀ i p, μ i = some p → μ' i = some p :=
  fun i p hp => by rw [h i (hd i p hp)]; exact hp
theorem VR.ext {μ μ' : PMap} {n : Nat} (h : Ext μ n μ') (hd : Dom μ n) {v v' : Value} (hv : VR μ v v') : VR μ' v v' := hv.mono (h.le hd)
theorem Ext.refl (μ : PMap) (n : Nat) : Ext μ n μ := fun _ _ => rfl
theorem Ext.trans {a b c : PMap} {n m : Nat} (h : Ext a n b) (k : Ext b m c) (hnm : n ≤ m) : Ext a n c :=
  fun i hi => (k i (by omega)).trans (h i hi)
def BR (W : World) (μ : PMap) (p : Place) (w : World) : ABlk → Prop
  | .cells c => W.heap.size ≤ p.blk ∧ ∃ cs e, w.heap[p.blk]? = some (.cells cs e (0, 0)) ∧ cs.size = p.size ∧ p.shift + c.length ≤ p.size ∧
      (∀ k : Nat, ∀ v, c[k]? = some v → v.oneCell' = true ∧ ∃ v', cs[p.shift + k]? = some v' ∧ v'.oneCell' = true ∧ VR μ v v')
  | .map es => W.heap.size ≤ p.blk ∧ ∃ (ents : Array MapEntry) (clock : Nat), w.heap[p.blk]? = some (.map ents clock) ∧ ents.toList.length = es.length ∧
      ∀ k : Nat, ∀ x, es[k]? = some x → ∃ y, ents.toList[k]? = some y ∧ y.key = x.1 ∧ VR μ x.2 y.val
  | .iter s pos => W.heap.size ≤ p.blk ∧ w.heap[p.blk]? = some (.stringIter s pos) ∧ p.shift = 0
  | .dead => True
def ABlk.live : ABlk → Bool
  | .dead => false
  | _ => true
structure HR (W : World) (μ : PMap) (h : AHeap) (w : World) : Prop where
  below : Below W.heap.size W w
  dom : Dom μ h.next
  fresh : ∀ i, h.next ≤ i → h.own.get i = none
  rep : ∀ i p b, μ i = some p → h.own.get i = some b → BR W μ p w b
  inj : ∀ i j p q b c, μ i = some p → μ j = some q → h.own.get i = some b → h.own.get j = some c → b.live = true → c.live = true → p.blk = q.blk → i = j
theorem BR.lt {W : World} {μ : PMap} {p : Place} {w : World} {b : ABlk} (h : BR W μ p w b) (hl : b.live = true) : p.blk < w.heap.size := by
  have key : ∀ o, w.heap[p.blk]? = some o → p.blk < w.heap.size := by
    intro o ho
    rcases Nat.lt_or_ge p.blk w.heap.size with h' | h'
    · exact h'
    · simp [Array.getElem?_eq_none h'] at ho
  cases b with
  | cells c => obtain ⟨_, cs, e, h1, _⟩ := h; exact key _ h1
  | map es => obtain ⟨_, ents, clock, h1, _⟩ := h; exact key _ h1
  | iter s pos => exact key _ h.2.1
  | dead => simp [ABlk.live] at hl
theorem BR.mono {W : World} {μ μ' : PMap} (hm : ∀ i p, μ i = some p → μ' i = some p) {p : Place} {w w' : World} {b : ABlk}
    (hb : BR W μ p w b) (hw : b.live = true → w'.heap[p.blk]? = w.heap[p.blk]?) : BR W μ' p w' b := by
  cases b with
  | cells c =>
    obtain ⟨h0, cs, e, h1, h2, h3, h4⟩ := hb
    refine ⟨h0, cs, e, (hw rfl).trans h1, h2, h3, ?_⟩
    intro k v hv
    obtain ⟨h6, v', h7, h8, h9⟩ := h4 k v hv
    exact ⟨h6, v', h7, h8, h9.mono hm⟩
  | map es =>
    obtain ⟨h0, ents, clock, h1, h2, h3⟩ := hb
    refine ⟨h0, ents, clock, (hw rfl).trans h1, h2, ?_⟩
    intro k x hx
    obtain ⟨y, h4, h5, h6⟩ := h3 k x hx
    exact ⟨y, h4, h5, h6.mono hm⟩
  | iter s pos => exact ⟨hb.1, (hw rfl).trans hb.2.1, hb.2.2⟩
  | dead => trivial
theorem HR.world {W : World} {μ : PMap} {h : AHeap} {w w' : World} (H : HR W μ h w) (hh : w'.heap = w.heap) (hb : Below W.heap.size W w') : HR W μ h w' :=
  ⟨hb, H.dom, H.fresh, fun i p b hp hg => (H.rep i p b hp hg).mono (fun _ _ h => h) (fun _ => by rw [hh]), H.inj⟩
theorem HR.drew {W : World} {μ : PMap} {h : AHeap} {w : World} (H : HR W μ h w) : HR W μ h w.drew := H.world rfl H.below.drew
def PMap.upd (μ : PMap) (i : Nat) (p : Place) : PMap := fun j => if j = i then some p else μ j
theorem PMap.upd_self (μ : PMap) (i : Nat) (p : Place) : (μ.upd i p) i = some p := by simp [PMap.upd]
theorem PMap.upd_ne (μ : PMap) {i j : Nat} (p : Place) (h : j ≠ i) : (μ.upd i p) j = μ j := by simp [PMap.upd, h]
theorem HR.alloc {W : World} {μ : PMap} {h : AHeap} {w : World} (H : HR W μ h w) (o : Obj) (p : Place) (b : ABlk)
    (hp : p.blk = w.heap.size) (hb : BR W (μ.upd h.next p) p (w.alloc o) b) :
    HR W (μ.upd h.next p) (h.new b) (w.alloc o) ∧ Ext μ h.next (μ.upd h.next p) := by
  have hext : Ext μ h.next (μ.upd h.next p) := fun i hi => PMap.upd_ne μ p (by omega)
  have hm := hext.le H.dom
  refine ⟨⟨H.below.alloc H.below.size o, ?_, ?_, ?_, ?_⟩, hext⟩
  · intro i q hq
    by_cases e : i = h.next
    · subst e; simp [AHeap.new]
    · rw [PMap.upd_ne μ p e] at hq
      have := H.dom i q hq
      simp only [AHeap.new]; omega
  · intro i hi
    simp only [AHeap.new] at hi ⊢
    rw [Tr.get_set_ne _ _ _ _ (by omega)]
    exact H.fresh i (by omega)
  · intro i q c hq hc
    simp only [AHeap.new, Tr.get_set] at hc
    by_cases e : i = h.next
    · subst e
      rw [PMap.upd_self] at hq
      simp only [if_true] at hc
      cases hq; cases hc; exact hb
    · rw [PMap.upd_ne μ p e] at hq
      rw [if_neg e] at hc
      have hr := H.rep i q c hq hc
      exact hr.mono hm (fun hl => by have := hr.lt hl; exact heap_alloc_old w o q.blk this)
  · intro i j q r b' c' hq hr hb' hc' hl hl' hqr
    simp only [AHeap.new, Tr.get_set] at hb' hc'
    by_cases e : i = h.next
    · by_cases e' : j = h.next
      · omega
      · exfalso
        rw [if_neg e'] at hc'
        rw [PMap.upd_ne μ p e'] at hr
        subst e
        rw [PMap.upd_self] at hq; cases hq
        have := (H.rep j r c' hr hc').lt hl'
        omega
    · rw [if_neg e] at hb'
      rw [PMap.upd_ne μ p e] at hq
      by_cases e' : j = h.next
      · exfalso
        subst e'
        rw [PMap.upd_self] at hr; cases hr
        have := (H.rep i q b' hq hb').lt hl
        omega
      · rw [if_neg e'] at hc'
        rw [PMap.upd_ne μ p e'] at hr
        exact H.inj i j q r b' c' hq hr hb' hc' hl hl' hqr
theorem HR.write {W : World} {μ : PMap} {h : AHeap} {w w' : World} (H : HR W μ h w) (i : Nat) (p : Place) (b b' : ABlk)
    (hi : μ i = some p) (hg : h.own.get i = some b) (hl : b.live = true) (hl' : b'.live = true)
    (hbelow : Below W.heap.size W w') (hother : ∀ k, k ≠ p.blk → w'.heap[k]? = w.heap[k]?) (hb : BR W μ p w' b') : HR W μ (h.put i b') w' := by
  refine ⟨hbelow, H.dom, ?_, ?_, ?_⟩
  · intro j hj
    have : j ≠ i := by rintro rfl; rw [H.fresh j hj] at hg; cases hg
    simp only [AHeap.put]
    rw [Tr.get_set_ne _ _ _ _ this]
    exact H.fresh j hj
  · intro j q c hq hc
    simp only [AHeap.put, Tr.get_set] at hc
    by_cases e : j = i
    · subst e
      simp only [if_true] at hc; cases hc
      rw [hi] at hq; cases hq
      exact hb
    · rw [if_neg e] at hc
      have hr := H.rep j q c hq hc
      refine hr.mono (fun _ _ h => h) (fun hlc => hother _ ?_)
      intro hblk
      exact e (H.inj j i q p c b hq hi hc hg hlc hl hblk)
  · intro j k q r c d hq hr hc hd hlc hld hqr
    simp only [AHeap.put, Tr.get_set] at hc hd
    have hj : ∃ c', h.own.get j = some c' ∧ c'.live = true := by
      by_cases e : j = i
      · subst e; exact ⟨b, hg, hl⟩
      · rw [if_neg e] at hc; exact ⟨c, hc, hlc⟩
    have hk : ∃ d', h.own.get k = some d' ∧ d'.live = true := by
      by_cases e : k = i
      · subst e; exact ⟨b, hg, hl⟩
      · rw [if_neg e] at hd; exact ⟨d, hd, hld⟩
    obtain ⟨c', hc', hlc'⟩ := hj
    obtain ⟨d', hd', hld'⟩ := hk
    exact H.inj j k q r c' d' hq hr hc' hd' hlc' hld' hqr
theorem HR.kill {W : World} {μ : PMap} {h : AHeap} {w : World} (H : HR W μ h w) (i : Nat) (hi : i < h.next) : HR W μ (h.put i .dead) w := by
  refine ⟨H.below, H.dom, ?_, ?_, ?_⟩
  · intro j hj
    simp only [AHeap.put] at hj ⊢
    rw [Tr.get_set_ne _ _ _ _ (by omega)]
    exact H.fresh j hj
  · intro j q c hq hc
    simp only [AHeap.put, Tr.get_set] at hc
    by_cases e : j = i
    · rw [if_pos e] at hc; cases hc; trivial
    · rw [if_neg e] at hc; exact H.rep j q c hq hc
  · intro j k q r c d hq hr hc hd hlc hld hqr
    simp only [AHeap.put, Tr.get_set] at hc hd
    by_cases e : j = i
    · rw [if_pos e] at hc; cases hc; simp [ABlk.live] at hlc
    · by_cases e' : k = i
      · rw [if_pos e'] at hd; cases hd; simp [ABlk.live] at hld
      · rw [if_neg e] at hc; rw [if_neg e'] at hd
        exact H.inj j k q r c d hq hr hc hd hlc hld hqr
end Go.Mach
end
section
set_option linter.unusedSimpArgs false
set_option linter.unusedVariables false
namespace Go.Mach
open Go Go.RowKit
inductive SK where
  | b | i | s
inductive EqTy where
  | sc (k : SK) | ptr | slc | fn | agg (ks : List SK)
inductive ROp where
  | mov (x : Operand)
  | pick (c a b : Operand)
  | newv (z : List Value)
  | box (x : Operand)
  | build (z : List Value) (ps : List (Nat × Nat × Operand))
  | buildSl (z : List Value) (ps : List (Nat × Nat × Operand)) (n esz : Nat)
  | load1 (x : Operand)
  | loadN (x : Operand) (n : Nat)
  | store (x v : Operand) (n : Nat)
  | nilChk (x : Operand)
  | bin (op : BinOp) (e : EqTy) (x y : Operand)
  | un (op : UnOp) (x : Operand)
  | conv (k : IntKind) (x : Operand)
  | encRune (x : Operand)
  | toStr (x : Operand)
  | bytesStr (x : Operand)
  | strRunes (x : Operand)
  | mkFn (fn : Fn) (cap : List Operand)
  | mkMap
  | mkSlice (z : List Value) (bytes : Nat) (l c : Operand)
  | slcStr (x : Operand) (lo hi : Option Operand)
  | slc (esz : Nat) (x : Operand) (lo hi : Option Operand)
  | addOff (x : Operand) (n : Nat)
  | part1 (x : Operand) (off : Nat)
  | partN (x : Operand) (off n : Nat)
  | idxA (esz : Nat) (x i : Operand)
  | idxArr (len esz : Nat) (x i : Operand)
  | idxStr (x i : Operand)
  | lookup (e : EqTy) (z : Value) (x k : Operand) (ok : Bool)
  | mapUpd (e : EqTy) (m k v : Operand)
  | rangeStr (x : Operand)
  | nextStr (x : Operand)
  | extract (x : Operand) (i : Nat)
  | lenSl (x : Operand)
  | lenStr (x : Operand)
  | lenMap (x : Operand)
  | app (esz : Nat) (x y : Operand)
  | clr (z : List Value) (x : Operand)
  | min2 (x y : Operand)
  | max2 (x y : Operand)
  | call (f : Operand) (args : List Operand)
structure ROper where
  dst : Option Nat
  op : ROp
  guard : Option (Nat × Bool)
def aadd (a : Addr) (n : Nat) : Addr := ⟨a.block, a.off + n, a.spot⟩
def celsL : Value → List Value
  | .agg cs => cs.toList
  | v => [v]
def splice (l : List Value) (o : Nat) (vs : List Value) : List Value := l.take o ++ vs ++ l.drop (o + vs.length)
def oneV : Value → Bool
  | .agg _ => false
  | .tuple _ => false
  | _ => true
def aload1 (W : World) (h : AHeap) (a : Addr) : Option Value :=
  match a.spot with
  | none => match W.cell? a with
    | some v => bif plainV v then some v else match v with
      | .slice (some _) 0 0 => some (.slice (some ⟨0, 0, some 1⟩) 0 0)
      | _ => none
    | none => none
  | some _ => match h.own.get a.block with
    | some (.cells c) => c[a.off]?
    | _ => none
def aloadN (W : World) (h : AHeap) : Addr → Nat → Option (List Value)
  | _, 0 => some []
  | a, n + 1 => match aload1 W h a, aloadN W h (aadd a 1) n with
    | some v, some vs => some (v :: vs)
    | _, _ => none
def astore (h : AHeap) (a : Addr) (vs : List Value) : Option AHeap :=
  match a.spot with
  | none => none
  | some _ => match h.own.get a.block with
    | some (.cells c) => bif Nat.ble (a.off + vs.length) c.length && vs.all oneV then some (h.put a.block (.cells (splice c a.off vs))) else none
    | _ => none
def fillL (ρ : Operand → Value) : List Value → List (Nat × Nat × Operand) → Option (List Value)
  | z, [] => some z
  | z, (off, size, x) :: ps =>
    let vs := celsL (ρ x)
    bif Nat.beq vs.length size && Nat.ble (off + size) z.length then fillL ρ (splice z off vs) ps else none
def scEq : SK → Value → Value → Option Bool
  | .i, .int k a, .int k' b => bif decide (k = k') then some (a == b) else none
  | .b, .bool a, .bool b => some (a == b)
  | .s, .string a, .string b => some (a.data.toList == b.data.toList)
  | _, _, _ => none
def scEqs : List SK → List Value → List Value → Option Bool
  | [], [], [] => some true
  | k :: ks, x :: xs, y :: ys => match scEq k x y with
    | some true => scEqs ks xs ys
    | some false => some false
    | none => none
  | _, _, _ => none
def keq : EqTy → Value → Value → Option Bool
  | .sc k, x, y => scEq k x y
  | .agg ks, .agg xs, .agg ys => scEqs ks xs.toList ys.toList
  | .ptr, .pointer none, .pointer b => some b.isNone
  | .ptr, .pointer (some _), .pointer none => some false
  | .slc, .slice none _ _, .slice b _ _ => some b.isNone
  | .slc, .slice (some _) _ _, .slice none _ _ => some false
  | .fn, .nilFunc, .nilFunc => some true
  | .fn, .nilFunc, .func _ _ _ => some false
  | .fn, .func _ _ _, .nilFunc => some false
  | _, _, _ => none
def intBin (op : BinOp) (k : IntKind) (a : Int) (b : Int) : Option Value :=
  match op with
  | .add => some (.int k (k.wrap (a + b)))
  | .sub => some (.int k (k.wrap (a - b)))
  | .mul => some (.int k (k.wrap (a * b)))
  | .quo => bif b == 0 then none else some (.int k (k.wrap (a.tdiv b)))
  | .rem => bif b == 0 then none else some (.int k (a.tmod b))
  | .and => some (.int k (k.wrap (BitVec.ofInt k.bits a &&& BitVec.ofInt k.bits b).toNat))
  | .or => some (.int k (k.wrap (BitVec.ofInt k.bits a ||| BitVec.ofInt k.bits b).toNat))
  | .xor => some (.int k (k.wrap (BitVec.ofInt k.bits a ^^^ BitVec.ofInt k.bits b).toNat))
  | .andNot => some (.int k (k.wrap (BitVec.ofInt k.bits a &&& ~~~ BitVec.ofInt k.bits b).toNat))
  | .eql => some (.bool (a == b))
  | .neq => some (.bool (a != b))
  | .lss => some (.bool (decide (a < b)))
  | .leq => some (.bool (decide (a ≤ b)))
  | .gtr => some (.bool (decide (a > b)))
  | .geq => some (.bool (decide (a ≥ b)))
  | _ => none
def intSh (op : BinOp) (k : IntKind) (a : Int) (b : Int) : Option Value :=
  bif decide (b < 0) then none else
  match op with
  | .shl => some (.int k (k.wrap (a * 2 ^ (min b.toNat k.bits))))
  | .shr => some (.int k (a.fdiv (2 ^ (min b.toNat k.bits))))
  | _ => none
def isSh : BinOp → Bool
  | .shl | .shr => true
  | _ => false
def strBin (op : BinOp) (a b : ByteArray) : Option Value :=
  match op with
  | .add => bif Nat.ble (a.size + b.size) 1099511627776 then some (.string (a ++ b)) else none
  | .eql => some (.bool (a.data.toList == b.data.toList))
  | .neq => some (.bool (!(a.data.toList == b.data.toList)))
  | .lss => some (.bool (Op.bytesLess a.data.toList b.data.toList))
  | .leq => some (.bool (Op.bytesLess a.data.toList b.data.toList || a.data.toList == b.data.toList))
  | .gtr => some (.bool (!(Op.bytesLess a.data.toList b.data.toList || a.data.toList == b.data.toList)))
  | .geq => some (.bool (!(Op.bytesLess a.data.toList b.data.toList)))
  | _ => none
def binV (op : BinOp) (e : EqTy) (x y : Value) : Option Value :=
  match x, y with
  | .int k a, .int k' b => bif isSh op then intSh op k a b else bif decide (k = k') then intBin op k a b else none
  | .string a, .string b => strBin op a b
  | x, y => match op with
    | .eql => (keq e x y).map .bool
    | .neq => (keq e x y).map fun b => .bool (!b)
    | _ => none
def unV (op : UnOp) (x : Value) : Option Value :=
  match op, x with
  | .neg, .int k n => some (.int k (k.wrap (0 - n)))
  | .xor, .int k n => some (.int k (k.wrap (BitVec.ofInt k.bits (if k.signed then -1 else k.max) ^^^ BitVec.ofInt k.bits n).toNat))
  | .not, .bool b => some (.bool (!b))
  | _, _ => none
def slBounds (lo hi : Option Value) (n top : Nat) : Option (Nat × Nat) :=
  match hi with
  | none => match lo with
    | none => some (0, n)
    | some (.int _ l) => bif decide (0 ≤ l) && decide (l ≤ n) then some (l.toNat, n) else none
    | _ => none
  | some (.int _ h) => bif decide (0 ≤ h) && decide (h ≤ top) then
      match lo with
      | none => some (0, h.toNat)
      | some (.int _ l) => bif decide (0 ≤ l) && decide (l ≤ h) then some (l.toNat, h.toNat) else none
      | _ => none
    else none
  | _ => none
def slcV (esz : Nat) (x : Value) (lo hi : Option Value) : Option Value :=
  match x with
  | .slice none 0 0 => match slBounds lo hi 0 0 with
    | some _ => some (.slice none 0 0)
    | none => none
  | .slice (some a) n c => match a.spot with
    | none => match slBounds lo hi n c with
      | some (l, h) => some (.slice (some (bif Nat.beq c l then a else aadd a (l * esz))) (h - l) (c - l))
      | none => none
    | some 0 => bif Nat.beq c esz then
        match slBounds lo hi n n with
        | some (l, h) => some (.slice (some (aadd a (l * esz))) (h - l) esz)
        | none => none
      else none
    | some (_ + 1) => none
  | _ => none
def slcStrV (x : Value) (lo hi : Option Value) : Option Value :=
  match x with
  | .string s => match slBounds lo hi s.size s.size with
    | some (l, h) => some (.string (s.extract l h))
    | none => none
  | _ => none
def idxV (esz : Nat) (x i : Value) : Option Value :=
  match x, i with
  | .slice (some a) n c, .int _ k => bif decide (0 ≤ k) && decide (k < n) && (a.spot.isNone || Nat.beq c esz) then some (.pointer (some (aadd a (k.toNat * esz)))) else none
  | _, _ => none
def idxArrV (len esz : Nat) (x i : Value) : Option Value :=
  match x, i with
  | .pointer (some a), .int _ k => bif decide (0 ≤ k) && decide (k < len) then some (.pointer (some (aadd a (k.toNat * esz)))) else none
  | _, _ => none
def idxStrV (x i : Value) : Option Value :=
  match x, i with
  | .string s, .int _ k => bif decide (0 ≤ k) then
      match s.data.toList[k.toNat]? with
      | some b => some (.int .u8 b.toNat)
      | none => none
    else none
  | _, _ => none
def findK (e : EqTy) (k : Value) : List (Value × Value) → Nat → Option (Option (Nat × Value))
  | [], _ => some none
  | (k', v) :: es, i => match keq e k k' with
    | some true => some (some (i, v))
    | some false => findK e k es (i + 1)
    | none => none
def goodSc : SK → Value → Bool
  | .i, .int _ _ => true
  | .s, .string _ => true
  | .b, .bool _ => true
  | _, _ => false
def goodScs : List SK → List Value → Bool
  | [], [] => true
  | k :: ks, x :: xs => goodSc k x && goodScs ks xs
  | _, _ => false
def goodKey : EqTy → Value → Bool
  | .sc k, x => goodSc k x
  | .agg ks, .agg xs => goodScs ks xs.toList
  | _, _ => false
def lookupV (e : EqTy) (z : Value) (h : AHeap) (x k : Value) (ok : Bool) : Option Value :=
  bif goodKey e k then
    match x with
    | .map none => some (bif ok then .tuple #[z, .bool false] else z)
    | .map (some i) => match h.own.get i with
      | some (.map es) => match findK e k es 0 with
        | some (some (_, v)) => some (bif ok then .tuple #[v, .bool true] else v)
        | some none => some (bif ok then .tuple #[z, .bool false] else z)
        | none => none
      | _ => none
    | _ => none
  else none
def mapUpdH (e : EqTy) (h : AHeap) (x k v : Value) : Option AHeap :=
  bif goodKey e k then
    match x with
    | .map (some i) => match h.own.get i with
      | some (.map es) => match findK e k es 0 with
        | some (some (j, _)) => some (h.put i (.map (es.set j (k, v))))
        | some none => some (h.put i (.map (es ++ [(k, v)])))
        | none => none
      | _ => none
    | _ => none
  else none
def newsOf (W : World) (h : AHeap) (esz : Nat) (y : Value) : Option (Nat × List Value) :=
  match y with
  | .slice none 0 0 => some (0, [])
  | .slice (some a) m c => bif a.spot.isNone || Nat.beq c esz then (aloadN W h a (m * esz)).map fun l => (m, l) else none
  | .string s => bif Nat.beq esz 1 then some (s.size, s.data.toList.map fun b => .int .u8 b.toNat) else none
  | _ => none
def appA (W : World) (h : AHeap) (esz : Nat) (x y : Value) : Option (Value × AHeap) :=
  match newsOf W h esz y with
  | none => none
  | some (m, news) =>
    match x with
    | .slice none 0 0 => match m with
      | 0 => some (x, h)
      | m' + 1 => bif Nat.ble (m' + 1) 1073741824 && news.all oneV then some (oS h.next 0 (m' + 1) esz, h.new (.cells news)) else none
    | .slice (some a) n c => bif Nat.beq c esz then
        match a.spot with
        | some 0 => match m with
          | 0 => some (x, h)
          | m' + 1 => match aloadN W h a (n * esz), h.own.get a.block with
            | some old, some (.cells _) => bif Nat.ble (n + (m' + 1)) 1073741824 && news.all oneV then some (oS h.next 0 (n + (m' + 1)) esz, (h.put a.block .dead).new (.cells (old ++ news))) else none
            | _, _ => none
        | _ => none
      else none
    | _ => none
def repL (z : List Value) : Nat → List Value
  | 0 => []
  | n + 1 => z ++ repL z n
def bytesOfL : List Value → Option (List UInt8)
  | [] => some []
  | .int .u8 n :: l => match bytesOfL l with
    | some bs => some (UInt8.ofNat n.toNat :: bs)
    | none => none
  | _ :: _ => none
def rop (W : World) (ρ : Operand → Value) (h : AHeap) : ROp → Option (Value × AHeap)
  | .mov x => some (ρ x, h)
  | .pick c a b => match ρ c with
    | .bool t => some (bif t then ρ a else ρ b, h)
    | _ => none
  | .newv z => some (oP h.next 0, h.new (.cells z))
  | .box x => bif (celsL (ρ x)).all oneV then some (oP h.next 0, h.new (.cells (celsL (ρ x)))) else none
  | .build z ps => match fillL ρ z ps with
    | some l => some (.agg l.toArray, h)
    | none => none
  | .buildSl z ps n esz => match fillL ρ z ps with
    | some l => bif l.all oneV then some (oS h.next 0 n esz, h.new (.cells l)) else none
    | none => none
  | .load1 x => match ρ x with
    | .pointer (some a) => (aload1 W h a).map fun v => (v, h)
    | _ => none
  | .loadN x n => match ρ x with
    | .pointer (some a) => (aloadN W h a n).map fun l => (.agg l.toArray, h)
    | _ => none
  | .store x v n => match ρ x with
    | .pointer (some a) => bif Nat.beq (celsL (ρ v)).length n then (astore h a (celsL (ρ v))).map fun h' => (undef, h') else none
    | _ => none
  | .nilChk x => match ρ x with
    | .pointer (some _) => some (ρ x, h)
    | .func (.func _) _ _ => some (ρ x, h)
    | _ => none
  | .bin op e x y => (binV op e (ρ x) (ρ y)).map fun v => (v, h)
  | .un op x => (unV op (ρ x)).map fun v => (v, h)
  | .conv k x => match ρ x with
    | .int _ n => some (.int k (k.wrap n), h)
    | _ => none
  | .encRune x => match ρ x with
    | .int _ n => some (.string (Utf8.encode n), h)
    | _ => none
  | .toStr x => match ρ x with
    | .string s => some (.string s, h)
    | _ => none
  | .bytesStr x => match ρ x with
    | .slice none 0 0 => some (.string ⟨#[]⟩, h)
    | .slice (some a) n c => bif a.spot.isNone || Nat.beq c 1 then
        match (aloadN W h a n).bind bytesOfL with
        | some bs => some (.string ⟨bs.toArray⟩, h)
        | none => none
      else none
    | _ => none
  | .strRunes x => match ρ x with
    | .string s =>
      let l := (Conv.runesFrom s s.size 0 #[]).toList
      bif Nat.ble l.length 1073741824 then some (oS h.next 0 l.length 1, h.new (.cells l)) else none
    | _ => none
  | .mkFn fn cap => some (.func fn #[] (cap.map ρ).toArray, h)
  | .mkMap => some (.map (some h.next), h.new (.map []))
  | .mkSlice z bytes l c => match ρ l, ρ c with
    | .int _ l, .int _ c =>
      let l := IntKind.i64.wrap l; let c := IntKind.i64.wrap c
      bif decide (0 ≤ l) && decide (l ≤ c) && decide (bytes * c ≤ 1099511627776) then some (oS h.next 0 l.toNat z.length, h.new (.cells (repL z l.toNat))) else none
    | _, _ => none
  | .slcStr x lo hi => (slcStrV (ρ x) (lo.map ρ) (hi.map ρ)).map fun v => (v, h)
  | .slc esz x lo hi => (slcV esz (ρ x) (lo.map ρ) (hi.map ρ)).map fun v => (v, h)
  | .addOff x n => match ρ x with
    | .pointer (some a) => some (.pointer (some (aadd a n)), h)
    | _ => none
  | .part1 x off => match ρ x with
    | .agg cs => match cs.toList[off]? with
      | some v => some (v, h)
      | none => none
    | _ => none
  | .partN x off n => match ρ x with
    | .agg cs => some (.agg ((cs.toList.drop off).take n).toArray, h)
    | _ => none
  | .idxA esz x i => (idxV esz (ρ x) (ρ i)).map fun v => (v, h)
  | .idxArr len esz x i => (idxArrV len esz (ρ x) (ρ i)).map fun v => (v, h)
  | .idxStr x i => (idxStrV (ρ x) (ρ i)).map fun v => (v, h)
  | .lookup e z x k ok => (lookupV e z h (ρ x) (ρ k) ok).map fun v => (v, h)
  | .mapUpd e m k v => (mapUpdH e h (ρ m) (ρ k) (ρ v)).map fun h' => (undef, h')
  | .rangeStr x => match ρ x with
    | .string s => some (oP h.next 0, h.new (.iter s 0))
    | _ => none
  | .nextStr x => match ρ x with
    | .pointer (some ⟨i, 0, some 0⟩) => match h.own.get i with
      | some (.iter s pos) =>
        bif Nat.blt pos s.size then
          match Utf8.decode s pos with
          | (c, width) => some (.tuple #[.bool true, .int .i64 pos, .int .i32 c], h.put i (.iter s (pos + width)))
        else some (.tuple #[.bool false], h)
      | _ => none
    | _ => none
  | .extract x i => match ρ x with
    | .tuple vs => match vs.toList[i]? with
      | some v => some (v, h)
      | none => none
    | _ => none
  | .lenSl x => match ρ x with
    | .slice _ n _ => some (.int .i64 n, h)
    | _ => none
  | .lenStr x => match ρ x with
    | .string s => some (.int .i64 s.size, h)
    | _ => none
  | .lenMap x => match ρ x with
    | .map none => some (.int .i64 0, h)
    | .map (some i) => match h.own.get i with
      | some (.map es) => some (.int .i64 es.length, h)
      | _ => none
    | _ => none
  | .app esz x y => appA W h esz (ρ x) (ρ y)
  | .clr z x => match ρ x with
    | .slice none _ _ => some (undef, h)
    | .slice (some _) 0 _ => some (undef, h)
    | .slice (some a) (n + 1) c => bif Nat.beq c z.length then (astore h a (repL z (n + 1))).map fun h' => (undef, h') else none
    | _ => none
  | .min2 x y => match ρ x, ρ y with
    | .int k a, .int _ b => some (.int k (if b < a then b else a), h)
    | _, _ => none
  | .max2 x y => match ρ x, ρ y with
    | .int k a, .int _ b => some (.int k (if b > a then b else a), h)
    | _, _ => none
  | .call _ _ => none
end Go.Mach
end
section
set_option linter.unusedSimpArgs false
set_option linter.unusedVariables false
namespace Go.Mach
open Go Go.RowKit
def closedV (v : Value) : Bool :=
  plainV v || match v with
    | .agg cs => cs.toList.all plainV
    | .tuple vs => vs.toList.all fun v => plainV v || match v with
      | .agg cs => cs.toList.all plainV
      | _ => false
    | _ => false
def okOpd : Operand → Bool
  | .const v => closedV v
  | _ => true
def sizeT0 (P : Program) (t : TypeId) : Option Nat := (P.info? t).map (·.size)
def scT (P : Program) (t : TypeId) : Option SK :=
  match P.underlying t with
  | some .bool => some .b
  | some (.int _) => some .i
  | some .string => some .s
  | _ => none
def scFields (P : Program) : Nat → List Field → Option (List SK)
  | _, [] => some []
  | n, f :: fs => if f.name != "_" && f.offset == n then
      match scT P f.type, scFields P (n + 1) fs with
      | some k, some ks => some (k :: ks)
      | _, _ => none
    else none
def eqTyOf (P : Program) (t : TypeId) : Option EqTy :=
  match P.underlying t with
  | some .bool => some (.sc .b)
  | some (.int _) => some (.sc .i)
  | some .string => some (.sc .s)
  | some (.pointer _) => some .ptr
  | some (.slice _) => some .slc
  | some (.func _ _ _) => some .fn
  | some (.struct fs) => if !P.stoodInHeld t && !P.eqGuardType P.depth t then (scFields P 0 fs.toList).map .agg else none
  | some (.array n e) => if !P.eqGuardType P.depth t && sizeT0 P e == some 1 then (scT P e).map fun k => .agg (List.replicate n k) else none
  | _ => none
def keyTyOf (P : Program) (t : TypeId) : Option EqTy :=
  match eqTyOf P t with
  | some (.sc k) => some (.sc k)
  | some (.agg n) => some (.agg n)
  | _ => none
def aggT (P : Program) (t : TypeId) : Option Bool :=
  match P.underlying t with
  | some (.struct _) => some true
  | some (.array _ _) => some true
  | some _ => some false
  | none => none
def zeroT (P : Program) (t : TypeId) : Option Value := (P.info? t).bind (·.zero)
def sizeT (P : Program) (t : TypeId) : Option Nat := (P.info? t).map (·.size)
def bytesT (P : Program) (t : TypeId) : Option Nat := (P.info? t).map (·.bytes)
def zerosT (P : Program) (t : TypeId) : Option (List Value) :=
  match zeroT P t, sizeT P t with
  | some z, some n => if (celsL z).length == n && (celsL z).all plainV then some (celsL z) else none
  | _, _ => none
def fieldParts (P : Program) (fs : Array Field) : List (Nat × Operand) → Option (List (Nat × Nat × Operand))
  | [] => some []
  | (i, x) :: ps => match fs[i]?, fieldParts P fs ps with
    | some f, some qs => (sizeT P f.type).map fun n => (f.offset, n, x) :: qs
    | _, _ => none
def elemParts (size : Nat) : List (Nat × Operand) → List (Nat × Nat × Operand)
  | [] => []
  | (i, x) :: ps => (i * size, size, x) :: elemParts size ps
def compRaw (P : Program) : Op → Option ROp
  | .move x | .assign x => some (.mov x)
  | .pick c a b => some (.pick c a b)
  | .alloc e => (zerosT P e).map .newv
  | .box _ x => some (.box x)
  | .build t ps =>
    match zerosT P t, P.underlying t with
    | some z, some (.struct fs) => if (fs.toList.all fun f => (sizeT P f.type).isSome) then (fieldParts P fs ps.toList).map (.build z) else none
    | some z, some (.array _ e) => (sizeT P e).map fun n => .build z (elemParts n ps.toList)
    | _, _ => none
  | .buildSlice t n ps =>
    match P.underlying t with
    | some (.slice e) => match zerosT P e with
      | some z => if n * z.length ≤ 2 ^ 24 then some (.buildSl (repL z n) (elemParts z.length ps.toList) n z.length) else none
      | none => none
    | _ => none
  | .load t x => match aggT P t with
    | some false => some (.load1 x)
    | some true => (sizeT P t).map (.loadN x)
    | none => none
  | .store t x v => (sizeT P t).map (.store x v)
  | .nilCheck x => some (.nilChk x)
  | .binOp op t x y _ => match eqTyOf P t with
    | some e => some (.bin op e x y)
    | none => none
  | .unOp op _ x => some (.un op x)
  | .convert s d x => match P.underlying s, P.underlying d with
    | some .string, some .string => some (.toStr x)
    | some .string, some (.slice e) => match P.underlying e with
      | some (.int .i32) => some (.strRunes x)
      | _ => none
    | some (.slice e), some .string => match P.underlying e with
      | some (.int .u8) => some (.bytesStr x)
      | _ => none
    | some (.int _), some (.int k) => some (.conv k x)
    | some (.int _), some .string => some (.encRune x)
    | _, _ => none
  | .makeFunc fn first cap => if first.toList.isEmpty then some (.mkFn fn cap.toList) else none
  | .makeMap _ none => some .mkMap
  | .makeSlice t l c => match P.underlying t with
    | some (.slice e) => match zerosT P e, bytesT P e with
      | some z, some b => if z.length ≠ 0 then some (.mkSlice z b l c) else none
      | _, _ => none
    | _ => none
  | .slice t x lo hi none => match P.underlying t with
    | some .string => some (.slcStr x lo hi)
    | some (.slice e) => match sizeT P e with
      | some n => if n ≠ 0 then some (.slc n x lo hi) else none
      | none => none
    | _ => none
  | .fieldAddr t x f => match P.underlying t with
    | some (.struct fs) => match fs[f]? with
      | some fd => match sizeT P fd.type with
        | some n => if n ≠ 0 then some (.addOff x fd.offset) else none
        | none => none
      | none => none
    | _ => none
  | .field t x f => match P.underlying t with
    | some (.struct fs) => match fs[f]? with
      | some fd => match aggT P fd.type, sizeT P fd.type with
        | some true, some n => some (.partN x fd.offset n)
        | some false, _ => some (.part1 x fd.offset)
        | _, _ => none
      | none => none
    | _ => none
  | .indexAddr t x i => match P.underlying t with
    | some (.slice e) => match sizeT P e with
      | some n => if n ≠ 0 then some (.idxA n x i) else none
      | none => none
    | some (.array len e) => match sizeT P e with
      | some n => if n ≠ 0 then some (.idxArr len n x i) else none
      | none => none
    | _ => none
  | .index t x i => match P.underlying t with
    | some .string => some (.idxStr x i)
    | _ => none
  | .lookup t x k ok => match P.underlying t with
    | some (.map kt e) => match keyTyOf P kt, zeroT P e with
      | some q, some z => if closedV z then some (.lookup q z x k ok) else none
      | _, _ => none
    | _ => none
  | .mapUpdate t m k v | .insert t m k v => match P.underlying t with
    | some (.map kt _) => match keyTyOf P kt with
      | some q => some (.mapUpd q m k v)
      | none => none
    | _ => none
  | .range t x => match P.underlying t with
    | some .string => some (.rangeStr x)
    | _ => none
  | .next x true => some (.nextStr x)
  | .extract x i => some (.extract x i)
  | .call c => match c.callee with
    | .value f => some (.call f c.args.toList)
    | .builtin .len => match c.args.toList, c.argTypes.toList with
      | [x], [t] => match P.underlying t with
        | some .string => some (.lenStr x)
        | some (.slice _) => some (.lenSl x)
        | some (.map _ _) => some (.lenMap x)
        | _ => none
      | _, _ => none
    | .builtin .append => match c.args.toList, c.argTypes.toList with
      | [x, y], [t, u] => match P.underlying t with
        | some (.slice e) => match zerosT P e, bytesT P e with
          | some z, some b =>
            if z.length ≠ 0 ∧ b ≤ 1024 then
              (match P.underlying u with
              | some (.slice e') => if e' = e then some (.app z.length x y) else none
              | some .string => if z.length = 1 then some (.app 1 x y) else none
              | _ => none)
            else none
          | _, _ => none
        | _ => none
      | _, _ => none
    | .builtin .clear => match c.args.toList, c.argTypes.toList with
      | [x], [t] => match P.underlying t with
        | some (.slice e) => match zerosT P e with
          | some z => if z.length ≠ 0 then some (.clr z x) else none
          | _ => none
        | _ => none
      | _, _ => none
    | .builtin .min => match c.args.toList with
      | [x, y] => some (.min2 x y)
      | _ => none
    | .builtin .max => match c.args.toList with
      | [x, y] => some (.max2 x y)
      | _ => none
    | _ => none
  | _ => none
def compOp (P : Program) (o : Op) : Option ROp := if o.operands.toList.all okOpd then compRaw P o else none
section
variable {μ : PMap} {v v' : Value}
theorem VR.plain_inv (h : plainV v = true) (hv : VR μ v v') : v' = v := by
  cases hv with
  | plain _ => rfl
  | ptr _ => simp [plainV] at h
  | slice _ _ _ _ => simp [plainV] at h
  | empty => simp [plainV] at h
  | map _ => simp [plainV] at h
  | func _ _ => simp [plainV] at h
  | agg _ _ => simp [plainV] at h
  | tuple _ _ => simp [plainV] at h
theorem VR.int {k : IntKind} {n : Int} (hv : VR μ (.int k n) v') : v' = .int k n := hv.plain_inv rfl
theorem VR.bool {b : Bool} (hv : VR μ (.bool b) v') : v' = .bool b := hv.plain_inv rfl
theorem VR.string {s : ByteArray} (hv : VR μ (.string s) v') : v' = .string s := hv.plain_inv rfl
theorem VR.oneCell (hv : VR μ v v') : v'.oneCell' = v.oneCell' := by
  cases hv <;> rfl
theorem oneV_eq (v : Value) : oneV v = v.oneCell' := by cases v <;> rfl
theorem VR.plains {l : List Value} (h : l.all plainV = true) : VRs μ l l :=
  ⟨rfl, fun i v hv => ⟨v, hv, .plain (List.all_eq_true.1 h v (List.mem_of_getElem? hv))⟩⟩
theorem VRs.agg {xs ys : List Value} (h : VRs μ xs ys) : VR μ (.agg xs.toArray) (.agg ys.toArray) := by
  refine .agg (by simpa using h.1) ?_
  intro i
  cases hx : xs[i]? with
  | none =>
    have hy : ys[i]? = none := by rw [List.getElem?_eq_none_iff] at hx ⊢; have := h.1; omega
    simpa [Array.getD_eq_getD_getElem?, hx, hy] using VR.undef
  | some v =>
    obtain ⟨v', hy, hr⟩ := h.2 i v hx
    simpa [Array.getD_eq_getD_getElem?, hx, hy] using hr
theorem VRs.tuple {xs ys : List Value} (h : VRs μ xs ys) : VR μ (.tuple xs.toArray) (.tuple ys.toArray) := by
  refine .tuple (by simpa using h.1) ?_
  intro i hi
  have hx : xs[i]? = some xs[i] := by simp at hi; simp [hi]
  obtain ⟨v', hy, hr⟩ := h.2 i _ hx
  simpa [Array.getD_eq_getD_getElem?, hx, hy] using hr
theorem VRs.func {fn : Fn} {xs ys : List Value} (h : VRs μ xs ys) : VR μ (.func fn #[] xs.toArray) (.func fn #[] ys.toArray) := by
  refine .func (by simpa using h.1) ?_
  intro i
  cases hx : xs[i]? with
  | none =>
    have hy : ys[i]? = none := by rw [List.getElem?_eq_none_iff] at hx ⊢; have := h.1; omega
    simpa [Array.getD_eq_getD_getElem?, hx, hy] using VR.undef
  | some v =>
    obtain ⟨v', hy, hr⟩ := h.2 i v hx
    simpa [Array.getD_eq_getD_getElem?, hx, hy] using hr
theorem VRs_of_getD {xs ys : Array Value} (hs : xs.size = ys.size) (h : ∀ i, i < xs.size → VR μ (xs.getD i Go.undef) (ys.getD i Go.undef)) : VRs μ xs.toList ys.toList := by
  refine ⟨by simpa using hs, ?_⟩
  intro i v hv
  have hi : i < xs.size := by
    rcases Nat.lt_or_ge i xs.size with h' | h'
    · exact h'
    · simp [Array.getElem?_eq_none h'] at hv
  have hi' : i < ys.size := by omega
  have hr := h i hi
  simp [Array.getD_eq_getD_getElem?, hi, hi'] at hr
  refine ⟨ys[i], by simp [hi'], ?_⟩
  simp [hi] at hv
  exact hv ▸ hr
theorem VR.agg_inv {xs : Array Value} (hv : VR μ (.agg xs) v') : ∃ ys : Array Value, v' = .agg ys ∧ VRs μ xs.toList ys.toList := by
  cases hv with
  | plain h => simp [plainV] at h
  | agg hs h => exact ⟨_, rfl, VRs_of_getD hs fun i _ => h i⟩
theorem VR.tuple_inv {xs : Array Value} (hv : VR μ (.tuple xs) v') : ∃ ys : Array Value, v' = .tuple ys ∧ VRs μ xs.toList ys.toList := by
  cases hv with
  | plain h => simp [plainV] at h
  | tuple hs h => exact ⟨_, rfl, VRs_of_getD hs h⟩
theorem VR.func_inv {fn : Fn} {fs xs : Array Value} (hv : VR μ (.func fn fs xs) v') : fs = #[] ∧ ∃ ys : Array Value, v' = .func fn #[] ys ∧ VRs μ xs.toList ys.toList := by
  cases hv with
  | plain h => simp [plainV] at h
  | func hs h => exact ⟨rfl, _, rfl, VRs_of_getD hs fun i _ => h i⟩
theorem VR.ptr_inv {a : Addr} (hv : VR μ (.pointer (some a)) v') :
    (a.spot = none ∧ v' = .pointer (some a)) ∨ (a.spot = some 0 ∧ ∃ p, μ a.block = some p ∧ v' = .pointer (some ⟨p.blk, a.off + p.shift, none⟩)) := by
  cases hv with
  | plain h => exact .inl ⟨by simpa [plainV] using h, rfl⟩
  | ptr h => exact .inr ⟨rfl, _, h, rfl⟩
theorem VR.slice_inv {a : Addr} {n c : Nat} (hv : VR μ (.slice (some a) n c) v') :
    (a.spot = none ∧ v' = .slice (some a) n c) ∨
    (a.spot = some 0 ∧ ∃ p o' c', μ a.block = some p ∧ c = p.esz ∧ n ≤ c' ∧ o' + c' * p.esz ≤ p.size ∧ (n ≠ 0 → o' = a.off + p.shift) ∧ v' = .slice (some ⟨p.blk, o', none⟩) n c') ∨
    (a.spot = some 1 ∧ n = 0 ∧ c = 0 ∧ ∃ b, v' = .slice (some b) 0 0) := by
  cases hv with
  | plain h => exact .inl ⟨by simpa [plainV] using h, rfl⟩
  | slice h hn hf ho => exact .inr (.inl ⟨rfl, _, _, _, h, rfl, hn, hf, ho, rfl⟩)
  | empty => exact .inr (.inr ⟨rfl, rfl, rfl, _, rfl⟩)
theorem VR.map_inv {i : Nat} (hv : VR μ (.map (some i)) v') : ∃ p, μ i = some p ∧ v' = .map (some p.blk) := by
  cases hv with
  | plain h => simp [plainV] at h
  | map h => exact ⟨_, h, rfl⟩
theorem VR.closed (h : closedV v = true) : VR μ v v := by
  unfold closedV at h
  rw [Bool.or_eq_true] at h
  rcases h with h | h
  · exact .plain h
  · cases v <;> try (simp at h; done)
    case agg cs => simpa using (VR.plains (μ := μ) h).agg
    case tuple vs =>
      have : VRs μ vs.toList vs.toList := by
        refine ⟨rfl, fun i v hv => ⟨v, hv, ?_⟩⟩
        have := List.all_eq_true.1 h v (List.mem_of_getElem? hv)
        rw [Bool.or_eq_true] at this
        rcases this with h' | h'
        · exact .plain h'
        · cases v <;> try (simp at h'; done)
          case agg cs => simpa using (VR.plains (μ := μ) h').agg
      simpa using this.tuple
theorem VR.cels (hv : VR μ v v') : VRs μ (celsL v) (celsL v') := by
  have one : ∀ {a b : Value}, VR μ a b → VRs μ [a] [b] := by
    intro a b hab
    refine ⟨rfl, fun i x hx => ?_⟩
    cases i with
    | zero => simp at hx; subst hx; exact ⟨b, rfl, hab⟩
    | succ i => simp at hx
  cases hv with
  | plain h => cases v <;> first | (simp [plainV] at h; done) | exact one (.plain h)
  | agg hs h => exact VRs_of_getD hs fun i _ => h i
  | ptr h => exact one (.ptr h)
  | slice h hn hf ho => exact one (.slice h hn hf ho)
  | empty => exact one .empty
  | map h => exact one (.map h)
  | func hs h => exact one (.func hs h)
  | tuple hs h => exact one (.tuple hs h)
end
theorem cells_toList (v : Value) : v.cells.toList = celsL v := by cases v <;> rfl
theorem VRs.nil {μ : PMap} : VRs μ [] [] := ⟨rfl, fun i v hv => by simp at hv⟩
theorem VRs.cons {μ : PMap} {x y : Value} {xs ys : List Value} (h : VR μ x y) (hs : VRs μ xs ys) : VRs μ (x :: xs) (y :: ys) := by
  refine ⟨by simp [hs.1], fun i v hv => ?_⟩
  cases i with
  | zero => simp at hv; subst hv; exact ⟨y, rfl, h⟩
  | succ i => simpa using hs.2 i v (by simpa using hv)
theorem VRs.append {μ : PMap} {xs ys xs' ys' : List Value} (h : VRs μ xs ys) (h' : VRs μ xs' ys') : VRs μ (xs ++ xs') (ys ++ ys') := by
  refine ⟨by simp [h.1, h'.1], fun i v hv => ?_⟩
  rw [List.getElem?_append] at hv ⊢
  have := h.1
  by_cases hi : i < xs.length
  · rw [if_pos hi] at hv; rw [if_pos (by omega)]; exact h.2 i v hv
  · rw [if_neg hi] at hv; rw [if_neg (by omega), ← h.1]; exact h'.2 _ v hv
theorem VRs.take {μ : PMap} {xs ys : List Value} (h : VRs μ xs ys) (n : Nat) : VRs μ (xs.take n) (ys.take n) := by
  refine ⟨by simp [h.1], fun i v hv => ?_⟩
  rw [List.getElem?_take] at hv ⊢
  by_cases hi : i < n
  · rw [if_pos hi] at hv ⊢; exact h.2 i v hv
  · rw [if_neg hi] at hv; cases hv
theorem VRs.drop {μ : PMap} {xs ys : List Value} (h : VRs μ xs ys) (n : Nat) : VRs μ (xs.drop n) (ys.drop n) := by
  refine ⟨by simp [h.1], fun i v hv => ?_⟩
  rw [List.getElem?_drop] at hv ⊢
  exact h.2 _ v hv
theorem VRs.splice {μ : PMap} {xs ys vs us : List Value} (h : VRs μ xs ys) (h' : VRs μ vs us) (o : Nat) : VRs μ (splice xs o vs) (splice ys o us) := by
  unfold Mach.splice
  rw [h'.1]
  exact ((h.take o).append h').append (h.drop _)
section
variable {W : World} {μ : PMap} {h : AHeap} {w : World}
theorem aadd_base {a : Addr} (ha : a.spot = none) (n : Nat) : a.add n = aadd a n := by
  unfold Addr.add aadd
  split
  · subst_vars; cases a; simp
  · cases a; simp_all
def AR (μ : PMap) (a a' : Addr) : Prop := (a.spot = none ∧ a' = a) ∨ (a.spot = some 0 ∧ ∃ p, μ a.block = some p ∧ a' = ⟨p.blk, a.off + p.shift, none⟩)
theorem AR.add {a a' : Addr} (ha : AR μ a a') (n : Nat) : AR μ (aadd a n) (a'.add n) := by
  rcases ha with ⟨h1, rfl⟩ | ⟨h1, p, hp, rfl⟩
  · exact .inl ⟨h1, aadd_base h1 n⟩
  · refine .inr ⟨h1, p, hp, ?_⟩
    unfold Addr.add aadd
    split
    · subst_vars; simp
    · simp; omega
theorem VR.ptr_AR {a : Addr} {v' : Value} (hv : VR μ (.pointer (some a)) v') : ∃ a', v' = .pointer (some a') ∧ AR μ a a' := by
  rcases hv.ptr_inv with ⟨h1, h2⟩ | ⟨h1, p, hp, h2⟩
  · exact ⟨a, h2, .inl ⟨h1, rfl⟩⟩
  · exact ⟨_, h2, .inr ⟨h1, p, hp, rfl⟩⟩
theorem AR.ptr {a a' : Addr} (ha : AR μ a a') : VR μ (.pointer (some a)) (.pointer (some a')) := by
  rcases ha with ⟨h1, rfl⟩ | ⟨h1, p, hp, rfl⟩
  · exact .plain (by simp [plainV, h1])
  · obtain ⟨b, o, s⟩ := a
    simp at h1; subst h1
    exact .ptr hp
theorem plain_oneCell {v : Value} (h : plainV v = true) : v.oneCell' = true := by
  cases v <;> first | rfl | (simp [plainV] at h)
theorem base_cell (H : HR W μ h w) {a : Addr} {v : Value} (hv : W.cell? a = some v) : w.cell? a = some v := by
  rw [H.below.cell (World.block_lt_of_cell? W a hv)]; exact hv
theorem aload1_sim (H : HR W μ h w) {a a' : Addr} (ha : AR μ a a') {v : Value} (hv : aload1 W h a = some v) :
    ∃ v', w.cell? a' = some v' ∧ VR μ v v' ∧ v.oneCell' = true := by
  unfold aload1 at hv
  rcases ha with ⟨h1, rfl⟩ | ⟨h1, p, hp, rfl⟩
  · simp only [h1] at hv
    cases hc : W.cell? a' with
    | none => simp [hc] at hv
    | some u =>
      simp only [hc] at hv
      cases hpl : plainV u with
      | false =>
        simp only [hpl, cond_false] at hv
        split at hv
        · cases hv; exact ⟨_, base_cell H hc, .empty, rfl⟩
        · cases hv
      | true =>
        simp [hpl] at hv
        subst hv
        exact ⟨u, base_cell H hc, .plain hpl, plain_oneCell hpl⟩
  · simp only [h1] at hv
    cases hg : h.own.get a.block with
    | none => simp [hg] at hv
    | some b =>
      cases b <;> simp [hg] at hv
      rename_i c
      obtain ⟨_, cs, e, h2, h3, h4, h5⟩ := H.rep _ _ _ hp hg
      obtain ⟨h6, v', h7, h8, h9⟩ := h5 _ _ hv
      refine ⟨v', ?_, h9, h6⟩
      simp [World.cell?, h2, Nat.add_comm a.off, h7]
theorem aloadN_sim (H : HR W μ h w) : ∀ (n : Nat) {a a' : Addr} (ha : AR μ a a') {l : List Value} (hl : aloadN W h a n = some l),
    ∃ l', VRs μ l l' ∧ l.length = n ∧ (∀ v ∈ l, v.oneCell' = true) ∧ (∀ j v, l'[j]? = some v → w.cell? (a'.add j) = some v)
  | 0, a, a', ha, l, hl => by
    simp [aloadN] at hl; subst hl
    exact ⟨[], VRs.nil, rfl, by simp, by simp⟩
  | n + 1, a, a', ha, l, hl => by
    unfold aloadN at hl
    cases h1 : aload1 W h a with
    | none => simp [h1] at hl
    | some v =>
      cases h2 : aloadN W h (aadd a 1) n with
      | none => simp [h1, h2] at hl
      | some vs =>
        simp [h1, h2] at hl; subst hl
        obtain ⟨v', hc, hr, ho⟩ := aload1_sim H ha h1
        obtain ⟨l', hrs, hlen, hone, hcs⟩ := aloadN_sim H n (ha.add 1) h2
        refine ⟨v' :: l', hrs.cons hr, by simp [hlen], ?_, ?_⟩
        · intro u hu
          rcases List.mem_cons.1 hu with rfl | hu
          · exact ho
          · exact hone u hu
        · intro j u hu
          cases j with
          | zero => simp at hu; subst hu; simpa [Addr.add] using hc
          | succ j =>
            have := hcs j u (by simpa using hu)
            have e : (a'.add 1).add j = a'.add (j + 1) := by
              unfold Addr.add
              by_cases hj : j = 0
              · subst hj; simp
              · simp [hj]; omega
            rwa [e] at this
theorem VRs.one {xs ys : List Value} (hv : VRs μ xs ys) (h1 : ∀ v ∈ xs, v.oneCell' = true) : ∀ v ∈ ys, v.oneCell' = true := by
  intro v hmem
  obtain ⟨i, hi, rfl⟩ := List.mem_iff_getElem.1 hmem
  have hi' : i < xs.length := by have := hv.1; omega
  obtain ⟨v', h2, h3⟩ := hv.2 i xs[i] (by simp [hi'])
  rw [List.getElem?_eq_getElem hi] at h2
  cases h2
  rw [h3.oneCell]; exact h1 _ (by simp)
theorem astore_sim (H : HR W μ h w) {a a' : Addr} (ha : AR μ a a') {vs us : List Value} (hvs : VRs μ vs us) {h' : AHeap} (hs : astore h a vs = some h') (P : Program) :
    ∃ w', (storeCells a' us).run P w = .ok () w' ∧ HR W μ h' w' ∧ h'.next = h.next := by
  unfold astore at hs
  rcases ha with ⟨h1, rfl⟩ | ⟨h1, p, hp, rfl⟩
  · simp [h1] at hs
  · simp only [h1] at hs
    cases hg : h.own.get a.block with
    | none => simp [hg] at hs
    | some b =>
      cases b <;> simp [hg] at hs
      rename_i c
      cases hcond : Nat.ble (a.off + vs.length) c.length && vs.all oneV with
      | false => simp [hcond] at hs
      | true =>
        simp [hcond] at hs
        subst hs
        simp only [Bool.and_eq_true, Nat.ble_eq, List.all_eq_true, oneV_eq] at hcond
        obtain ⟨hfit, hone⟩ := hcond
        obtain ⟨h0, cs, e, h2, h3, h4, h5⟩ := H.rep _ _ _ hp hg
        have hone' := hvs.one (fun v hv => hone v hv)
        have hlen := hvs.1
        have hrun := run_storeCells_at P p.blk (a.off + p.shift) e us 0 cs w h2 (by omega) hone'
        simp only [Nat.add_zero] at hrun
        refine ⟨_, hrun, ?_, rfl⟩
        have hsr := setRow_heap w p.blk cs (cs.toList.take (a.off + p.shift) ++ us ++ cs.toList.drop (a.off + p.shift + us.length)).toArray e _ h2
        refine H.write a.block p (.cells c) _ hp hg rfl rfl ?_ (fun k hk => setRow_other w p.blk k _ hk) ?_
        · refine H.below.trans ⟨rfl, rfl, rfl, by simp, fun k hk => setRow_other w p.blk k _ (by omega)⟩
        · have hlc : cs.toList.length = p.size := by simpa using h3
          refine ⟨h0, _, e, hsr, ?_, ?_, ?_⟩
          · simp [List.length_append, List.length_take, List.length_drop]; omega
          · simp [splice, List.length_append, List.length_take, List.length_drop]; omega
          · intro k v hv
            unfold splice at hv
            rw [List.append_assoc, List.getElem?_append] at hv
            simp only [List.length_take] at hv
            have hmin : min a.off c.length = a.off := by omega
            rw [hmin] at hv
            simp only [List.getElem?_toArray, List.append_assoc]
            rw [List.getElem?_append]
            have hmin' : (cs.toList.take (a.off + p.shift)).length = a.off + p.shift := by rw [List.length_take]; omega
            rw [hmin']
            by_cases hk : k < a.off
            · rw [if_pos hk] at hv
              rw [if_pos (by omega)]
              rw [List.getElem?_take, if_pos hk] at hv
              obtain ⟨h6, v', h7, h8, h9⟩ := h5 k v hv
              rw [List.getElem?_take, if_pos (by omega)]
              exact ⟨h6, v', by simpa using h7, h8, h9⟩
            · rw [if_neg hk] at hv
              rw [if_neg (by omega)]
              rw [List.getElem?_append] at hv ⊢
              by_cases hk2 : k - a.off < vs.length
              · rw [if_pos hk2] at hv
                rw [if_pos (by omega)]
                obtain ⟨u, hu, hr⟩ := hvs.2 _ _ hv
                refine ⟨hone v (List.mem_of_getElem? hv), u, ?_, ?_, hr⟩
                · rw [← hu]; congr 1; omega
                · exact hone' u (List.mem_of_getElem? hu)
              · rw [if_neg hk2] at hv
                rw [if_neg (by omega)]
                rw [List.getElem?_drop] at hv ⊢
                obtain ⟨h6, v', h7, h8, h9⟩ := h5 _ v hv
                refine ⟨h6, v', ?_, h8, h9⟩
                rw [← h7]
                simp only [Array.getElem?_toList]
                congr 1; omega
end
end Go.Mach
end
