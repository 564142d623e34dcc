/- The abstract machine, part 1: tries, the abstract heap, the relation between abstract and real values and heaps. No condition. -/
import Derived.Orders

import Derived.Below
import Derived.Laws.Append
import Derived.Laws.Rows
set_option linter.unusedSimpArgs false
set_option linter.unusedVariables false
namespace Go.Mach
open Go Go.RowKit

/-! ## Tries over Nat -/
inductive Tr (α : Type) where
  | lf
  | nd (l : Tr α) (v : Option α) (r : Tr α)

namespace Tr
variable {α : Type}
def get : Tr α → Nat → Option α
  | .lf, _ => none
  | .nd l v r, k => bif Nat.beq k 0 then v else bif Nat.beq (k % 2) 1 then l.get (k / 2) else r.get (k / 2 - 1)

def setF : Nat → Tr α → Nat → α → Tr α
  | 0, t, _, _ => t
  | f + 1, .lf, k, a => bif Nat.beq k 0 then .nd .lf (some a) .lf else bif Nat.beq (k % 2) 1 then .nd (setF f .lf (k / 2) a) none .lf else .nd .lf none (setF f .lf (k / 2 - 1) a)
  | f + 1, .nd l v r, k, a => bif Nat.beq k 0 then .nd l (some a) r else bif Nat.beq (k % 2) 1 then .nd (setF f l (k / 2) a) v r else .nd l v (setF f r (k / 2 - 1) a)

def set (t : Tr α) (k : Nat) (a : α) : Tr α := setF (k + 1) t k a

theorem nbeq (a b : Nat) : Nat.beq a b = decide (a = b) := by
  rw [Bool.eq_iff_iff]; simp

theorem get_setF (f : Nat) : ∀ (t : Tr α) (k j : Nat) (a : α), k < f → (setF f t k a).get j = if j = k then some a else t.get j := by
  induction f with
  | zero => intro t k j a h; omega
  | succ f ih =>
    intro t k j a h
    have key : ∀ (l r : Tr α) (v : Option α), (bif Nat.beq k 0 then Tr.nd l (some a) r else bif Nat.beq (k % 2) 1 then .nd (setF f l (k / 2) a) v r else .nd l v (setF f r (k / 2 - 1) a)).get j
        = if j = k then some a else (Tr.nd l v r).get j := by
      intro l r v
      by_cases hk : k = 0
      · subst hk
        by_cases hj : j = 0 <;> simp [get, nbeq, hj]
      · by_cases h1 : k % 2 = 1
        · by_cases hj : j = 0
          · subst hj; simp [get, nbeq, hk, h1, Ne.symm hk]
          · by_cases hj1 : j % 2 = 1
            · have : (j / 2 = k / 2) ↔ j = k := by omega
              simp [get, nbeq, hk, h1, hj, hj1, ih l (k/2) (j/2) a (by omega), this]
            · have : j ≠ k := by omega
              simp [get, nbeq, hk, h1, hj, hj1, this]
        · by_cases hj : j = 0
          · subst hj; simp [get, nbeq, hk, h1, Ne.symm hk]
          · by_cases hj1 : j % 2 = 1
            · have : j ≠ k := by omega
              simp [get, nbeq, hk, h1, hj, hj1, this]
            · have : (j / 2 - 1 = k / 2 - 1) ↔ j = k := by omega
              simp [get, nbeq, hk, h1, hj, hj1, ih r (k/2-1) (j/2-1) a (by omega), this]
    cases t with
    | lf => rw [show (Tr.lf : Tr α).get j = (Tr.nd (.lf : Tr α) none .lf).get j by simp [get]]; exact key .lf .lf none
    | nd l v r => exact key l r v

@[simp] theorem get_lf (j : Nat) : (Tr.lf : Tr α).get j = none := rfl
theorem get_set (t : Tr α) (k j : Nat) (a : α) : (t.set k a).get j = if j = k then some a else t.get j := get_setF (k + 1) t k j a (by omega)
@[simp] theorem get_set_self (t : Tr α) (k : Nat) (a : α) : (t.set k a).get k = some a := by simp [get_set]
theorem get_set_ne (t : Tr α) (k j : Nat) (a : α) (h : j ≠ k) : (t.set k a).get j = t.get j := by simp [get_set, h]
end Tr

/-! ## The abstract heap -/
/-- A block of the call's own: a row of cells (no spare capacity), a map, a string's iterator, or one that may no longer be looked at. -/
inductive ABlk where
  | cells (c : List Value)
  | map (es : List (Value × Value))
  | iter (s : ByteArray) (pos : Nat)
  | dead

structure AHeap where
  own : Tr ABlk
  next : Nat

def AHeap.new (h : AHeap) (b : ABlk) : AHeap := ⟨h.own.set h.next b, h.next + 1⟩
def AHeap.put (h : AHeap) (i : Nat) (b : ABlk) : AHeap := ⟨h.own.set i b, h.next⟩
def AHeap.empty : AHeap := ⟨.lf, 0⟩

/-- An own address: its 'spot' is 'some 0', its block is an abstract number. -/
def oA (i o : Nat) : Addr := ⟨i, o, some 0⟩
def oP (i o : Nat) : Value := .pointer (some (oA i o))
/-- An own slice: its third number is not its capacity (which is hidden) but the number of cells of an element. -/
def oS (i o n esz : Nat) : Value := .slice (some (oA i o)) n esz

/-- A one-cell value without an own address in it: it stands for itself. -/
def plainV : Value → Bool
  | .bool _ | .int _ _ | .string _ | .float _ _ | .complex _ _ _ | .nilFunc | .nilIface => true
  | .pointer none => true
  | .pointer (some a) => a.spot.isNone
  | .slice none n c => Nat.beq n 0 && Nat.beq c 0
  | .slice (some a) _ _ => a.spot.isNone
  | .map none => true
  | _ => false

/-- Where an abstract block lies: the real block, the shift of its offsets, the real number of its cells, the cells of an element. -/
structure Place where
  blk : Nat
  shift : Nat
  size : Nat
  esz : Nat

abbrev PMap := Nat → Option Place

inductive VR (μ : PMap) : Value → Value → Prop where
  | plain {v : Value} (h : plainV v = true) : VR μ v v
  | ptr {i o : Nat} {p : Place} (h : μ i = some p) : VR μ (.pointer (some ⟨i, o, some 0⟩)) (.pointer (some ⟨p.blk, o + p.shift, none⟩))
  | slice {i o n o' c' : Nat} {p : Place} (h : μ i = some p) (hn : n ≤ c') (hfit : o' + c' * p.esz ≤ p.size) (ho : n ≠ 0 → o' = o + p.shift) :
      VR μ (.slice (some ⟨i, o, some 0⟩) n p.esz) (.slice (some ⟨p.blk, o', none⟩) n c')
  | empty {b : Addr} : VR μ (.slice (some ⟨0, 0, some 1⟩) 0 0) (.slice (some b) 0 0)
  | map {i : Nat} {p : Place} (h : μ i = some p) : VR μ (.map (some i)) (.map (some p.blk))
  | func {fn : Fn} {xs ys : Array Value} (hs : xs.size = ys.size) (h : ∀ i, VR μ (xs.getD i undef) (ys.getD i undef)) : VR μ (.func fn #[] xs) (.func fn #[] ys)
  | agg {xs ys : Array Value} (hs : xs.size = ys.size) (h : ∀ i, VR μ (xs.getD i undef) (ys.getD i undef)) : VR μ (.agg xs) (.agg ys)
  | tuple {xs ys : Array Value} (hs : xs.size = ys.size) (h : ∀ i, i < xs.size → VR μ (xs.getD i undef) (ys.getD i undef)) : VR μ (.tuple xs) (.tuple ys)

/-- Lists, cell by cell. -/
def VRs (μ : PMap) (xs ys : List Value) : Prop := xs.length = ys.length ∧ ∀ i : Nat, ∀ v, xs[i]? = some v → ∃ v', ys[i]? = some v' ∧ VR μ v v'

theorem VR.undef {μ : PMap} : VR μ undef undef := .tuple rfl (by intro i hi; exact absurd hi (by simp))

/-- μ' keeps all that μ says, and says nothing new of the numbers below n. -/
def Ext (μ : PMap) (n : Nat) (μ' : PMap) : Prop := ∀ i, i < n → μ' i = μ i
/-- μ speaks of numbers below n alone. -/
def Dom (μ : PMap) (n : Nat) : Prop := ∀ i p, μ i = some p → i < n

theorem VR.mono {μ μ' : PMap} (hm : ∀ i p, μ i = some p → μ' i = some p) {v v' : Value} (h : VR μ v v') : VR μ' v v' := by
  induction h with
  | plain h => exact .plain h
  | ptr h => exact .ptr (hm _ _ h)
  | slice h hn hf ho => exact .slice (hm _ _ h) hn hf ho
  | empty => exact .empty
  | map h => exact .map (hm _ _ h)
  | func hs _ ih => exact .func hs ih
  | agg hs _ ih => exact .agg hs ih
  | tuple hs _ ih => exact .tuple hs ih

theorem Ext.le {μ μ' : PMap} {n : Nat} (h : Ext μ n μ') (hd : Dom μ n) : ∀ i p, μ i = some p → μ' i = some p :=
  fun i p hp => by rw [h i (hd i p hp)]; exact hp

theorem VR.ext {μ μ' : PMap} {n : Nat} (h : Ext μ n μ') (hd : Dom μ n) {v v' : Value} (hv : VR μ v v') : VR μ' v v' := hv.mono (h.le hd)

theorem Ext.refl (μ : PMap) (n : Nat) : Ext μ n μ := fun _ _ => rfl
theorem Ext.trans {a b c : PMap} {n m : Nat} (h : Ext a n b) (k : Ext b m c) (hnm : n ≤ m) : Ext a n c :=
  fun i hi => (k i (by omega)).trans (h i hi)

/-- The block's representation. -/
def BR (W : World) (μ : PMap) (p : Place) (w : World) : ABlk → Prop
  | .cells c => W.heap.size ≤ p.blk ∧ ∃ cs e, w.heap[p.blk]? = some (.cells cs e (0, 0)) ∧ cs.size = p.size ∧ p.shift + c.length ≤ p.size ∧
      (∀ k : Nat, ∀ v, c[k]? = some v → v.oneCell' = true ∧ ∃ v', cs[p.shift + k]? = some v' ∧ v'.oneCell' = true ∧ VR μ v v')
  | .map es => W.heap.size ≤ p.blk ∧ ∃ (ents : Array MapEntry) (clock : Nat), w.heap[p.blk]? = some (.map ents clock) ∧ ents.toList.length = es.length ∧
      ∀ k : Nat, ∀ x, es[k]? = some x → ∃ y, ents.toList[k]? = some y ∧ y.key = x.1 ∧ VR μ x.2 y.val
  | .iter s pos => W.heap.size ≤ p.blk ∧ w.heap[p.blk]? = some (.stringIter s pos) ∧ p.shift = 0
  | .dead => True

def ABlk.live : ABlk → Bool
  | .dead => false
  | _ => true

structure HR (W : World) (μ : PMap) (h : AHeap) (w : World) : Prop where
  below : Below W.heap.size W w
  dom : Dom μ h.next
  fresh : ∀ i, h.next ≤ i → h.own.get i = none
  rep : ∀ i p b, μ i = some p → h.own.get i = some b → BR W μ p w b
  inj : ∀ i j p q b c, μ i = some p → μ j = some q → h.own.get i = some b → h.own.get j = some c → b.live = true → c.live = true → p.blk = q.blk → i = j

theorem BR.lt {W : World} {μ : PMap} {p : Place} {w : World} {b : ABlk} (h : BR W μ p w b) (hl : b.live = true) : p.blk < w.heap.size := by
  have key : ∀ o, w.heap[p.blk]? = some o → p.blk < w.heap.size := by
    intro o ho
    rcases Nat.lt_or_ge p.blk w.heap.size with h' | h'
    · exact h'
    · simp [Array.getElem?_eq_none h'] at ho
  cases b with
  | cells c => obtain ⟨_, cs, e, h1, _⟩ := h; exact key _ h1
  | map es => obtain ⟨_, ents, clock, h1, _⟩ := h; exact key _ h1
  | iter s pos => exact key _ h.2.1
  | dead => simp [ABlk.live] at hl

theorem BR.mono {W : World} {μ μ' : PMap} (hm : ∀ i p, μ i = some p → μ' i = some p) {p : Place} {w w' : World} {b : ABlk}
    (hb : BR W μ p w b) (hw : b.live = true → w'.heap[p.blk]? = w.heap[p.blk]?) : BR W μ' p w' b := by
  cases b with
  | cells c =>
    obtain ⟨h0, cs, e, h1, h2, h3, h4⟩ := hb
    refine ⟨h0, cs, e, (hw rfl).trans h1, h2, h3, ?_⟩
    intro k v hv
    obtain ⟨h6, v', h7, h8, h9⟩ := h4 k v hv
    exact ⟨h6, v', h7, h8, h9.mono hm⟩
  | map es =>
    obtain ⟨h0, ents, clock, h1, h2, h3⟩ := hb
    refine ⟨h0, ents, clock, (hw rfl).trans h1, h2, ?_⟩
    intro k x hx
    obtain ⟨y, h4, h5, h6⟩ := h3 k x hx
    exact ⟨y, h4, h5, h6.mono hm⟩
  | iter s pos => exact ⟨hb.1, (hw rfl).trans hb.2.1, hb.2.2⟩
  | dead => trivial

/-- The world changes in nothing that matters (a draw). -/
theorem HR.world {W : World} {μ : PMap} {h : AHeap} {w w' : World} (H : HR W μ h w) (hh : w'.heap = w.heap) (hb : Below W.heap.size W w') : HR W μ h w' :=
  ⟨hb, H.dom, H.fresh, fun i p b hp hg => (H.rep i p b hp hg).mono (fun _ _ h => h) (fun _ => by rw [hh]), H.inj⟩

theorem HR.drew {W : World} {μ : PMap} {h : AHeap} {w : World} (H : HR W μ h w) : HR W μ h w.drew := H.world rfl H.below.drew

def PMap.upd (μ : PMap) (i : Nat) (p : Place) : PMap := fun j => if j = i then some p else μ j
theorem PMap.upd_self (μ : PMap) (i : Nat) (p : Place) : (μ.upd i p) i = some p := by simp [PMap.upd]
theorem PMap.upd_ne (μ : PMap) {i j : Nat} (p : Place) (h : j ≠ i) : (μ.upd i p) j = μ j := by simp [PMap.upd, h]

/-- A block is made, in both. -/
theorem HR.alloc {W : World} {μ : PMap} {h : AHeap} {w : World} (H : HR W μ h w) (o : Obj) (p : Place) (b : ABlk)
    (hp : p.blk = w.heap.size) (hb : BR W (μ.upd h.next p) p (w.alloc o) b) :
    HR W (μ.upd h.next p) (h.new b) (w.alloc o) ∧ Ext μ h.next (μ.upd h.next p) := by
  have hext : Ext μ h.next (μ.upd h.next p) := fun i hi => PMap.upd_ne μ p (by omega)
  have hm := hext.le H.dom
  refine ⟨⟨H.below.alloc H.below.size o, ?_, ?_, ?_, ?_⟩, hext⟩
  · intro i q hq
    by_cases e : i = h.next
    · subst e; simp [AHeap.new]
    · rw [PMap.upd_ne μ p e] at hq
      have := H.dom i q hq
      simp only [AHeap.new]; omega
  · intro i hi
    simp only [AHeap.new] at hi ⊢
    rw [Tr.get_set_ne _ _ _ _ (by omega)]
    exact H.fresh i (by omega)
  · intro i q c hq hc
    simp only [AHeap.new, Tr.get_set] at hc
    by_cases e : i = h.next
    · subst e
      rw [PMap.upd_self] at hq
      simp only [if_true] at hc
      cases hq; cases hc; exact hb
    · rw [PMap.upd_ne μ p e] at hq
      rw [if_neg e] at hc
      have hr := H.rep i q c hq hc
      exact hr.mono hm (fun hl => by have := hr.lt hl; exact heap_alloc_old w o q.blk this)
  · intro i j q r b' c' hq hr hb' hc' hl hl' hqr
    simp only [AHeap.new, Tr.get_set] at hb' hc'
    by_cases e : i = h.next
    · by_cases e' : j = h.next
      · omega
      · exfalso
        rw [if_neg e'] at hc'
        rw [PMap.upd_ne μ p e'] at hr
        subst e
        rw [PMap.upd_self] at hq; cases hq
        have := (H.rep j r c' hr hc').lt hl'
        omega
    · rw [if_neg e] at hb'
      rw [PMap.upd_ne μ p e] at hq
      by_cases e' : j = h.next
      · exfalso
        subst e'
        rw [PMap.upd_self] at hr; cases hr
        have := (H.rep i q b' hq hb').lt hl
        omega
      · rw [if_neg e'] at hc'
        rw [PMap.upd_ne μ p e'] at hr
        exact H.inj i j q r b' c' hq hr hb' hc' hl hl' hqr

/-- A live block is written, in both. -/
theorem HR.write {W : World} {μ : PMap} {h : AHeap} {w w' : World} (H : HR W μ h w) (i : Nat) (p : Place) (b b' : ABlk)
    (hi : μ i = some p) (hg : h.own.get i = some b) (hl : b.live = true) (hl' : b'.live = true)
    (hbelow : Below W.heap.size W w') (hother : ∀ k, k ≠ p.blk → w'.heap[k]? = w.heap[k]?) (hb : BR W μ p w' b') : HR W μ (h.put i b') w' := by
  refine ⟨hbelow, H.dom, ?_, ?_, ?_⟩
  · intro j hj
    have : j ≠ i := by rintro rfl; rw [H.fresh j hj] at hg; cases hg
    simp only [AHeap.put]
    rw [Tr.get_set_ne _ _ _ _ this]
    exact H.fresh j hj
  · intro j q c hq hc
    simp only [AHeap.put, Tr.get_set] at hc
    by_cases e : j = i
    · subst e
      simp only [if_true] at hc; cases hc
      rw [hi] at hq; cases hq
      exact hb
    · rw [if_neg e] at hc
      have hr := H.rep j q c hq hc
      refine hr.mono (fun _ _ h => h) (fun hlc => hother _ ?_)
      intro hblk
      exact e (H.inj j i q p c b hq hi hc hg hlc hl hblk)
  · intro j k q r c d hq hr hc hd hlc hld hqr
    simp only [AHeap.put, Tr.get_set] at hc hd
    have hj : ∃ c', h.own.get j = some c' ∧ c'.live = true := by
      by_cases e : j = i
      · subst e; exact ⟨b, hg, hl⟩
      · rw [if_neg e] at hc; exact ⟨c, hc, hlc⟩
    have hk : ∃ d', h.own.get k = some d' ∧ d'.live = true := by
      by_cases e : k = i
      · subst e; exact ⟨b, hg, hl⟩
      · rw [if_neg e] at hd; exact ⟨d, hd, hld⟩
    obtain ⟨c', hc', hlc'⟩ := hj
    obtain ⟨d', hd', hld'⟩ := hk
    exact H.inj j k q r c' d' hq hr hc' hd' hlc' hld' hqr

/-- A block is given up. -/
theorem HR.kill {W : World} {μ : PMap} {h : AHeap} {w : World} (H : HR W μ h w) (i : Nat) (hi : i < h.next) : HR W μ (h.put i .dead) w := by
  refine ⟨H.below, H.dom, ?_, ?_, ?_⟩
  · intro j hj
    simp only [AHeap.put] at hj ⊢
    rw [Tr.get_set_ne _ _ _ _ (by omega)]
    exact H.fresh j hj
  · intro j q c hq hc
    simp only [AHeap.put, Tr.get_set] at hc
    by_cases e : j = i
    · rw [if_pos e] at hc; cases hc; trivial
    · rw [if_neg e] at hc; exact H.rep j q c hq hc
  · intro j k q r c d hq hr hc hd hlc hld hqr
    simp only [AHeap.put, Tr.get_set] at hc hd
    by_cases e : j = i
    · rw [if_pos e] at hc; cases hc; simp [ABlk.live] at hlc
    · by_cases e' : k = i
      · rw [if_pos e'] at hd; cases hd; simp [ABlk.live] at hld
      · rw [if_neg e] at hc; rw [if_neg e'] at hd
        exact H.inj j k q r c d hq hr hc hd hlc hld hqr

end Go.Mach
