/- codepoint.At (F69): the region that draws its order, walked in a round's frame by an invariant over the orders. No condition.
Merged from 1 texts. -/
import Derived.Test.YtlipmjpapkfaeaaGreatDoorZD20
import Derived.Test.YtlipmjpapkfaeaaGreatDoorZD6
import Derived.Test.YtlipmjpapkfaeaaGreatDoorChecked
section
set_option linter.unusedSimpArgs false
set_option linter.unusedVariables false
namespace Go.Proofs.YtlipmjpapkfaeaaGreatDoor.Orc
open Go Go.RowKit Go.Shelf Go.Proofs
theorem wpAnyIn_inv {F : Fence} {n : Nat} {P : Program} {ops : Array Oper} {Q : Exit → Act → World → Prop} (Inv : Array Bool → Act → World → Prop)
    (hsz : ∀ l a w, Inv l a w → l.size = ops.size)
    (hstep : ∀ l a w i, Inv l a w → i ∈ Region.ready .any ops l → wpOpIn F n P ops Q i (Inv (l.setIfInBounds i true)) a w)
    (hend : ∀ l a w, Inv l a w → Region.ready .any ops l = [] → Q .normal a w) :
    ∀ (fuel : Nat) (l : Array Bool) (a : Act) (w : World), Inv l a w → ((List.range ops.size).countP fun i => !l.getD i true) ≤ fuel → wpAnyIn F n P .any ops Q fuel l a w := by
  intro fuel
  induction fuel with
  | zero =>
    intro l a w hI hc
    have hnil : Region.ready .any ops l = [] := by
      cases hrd : Region.ready .any ops l with
      | nil => rfl
      | cons x r =>
        exfalso
        obtain ⟨h1, h2, _⟩ := Go.Mach.ready_spec (ops := ops) (listed := l) (i := x) (by rw [hrd]; simp)
        have : 0 < (List.range ops.size).countP fun i => !l.getD i true := List.countP_pos_iff.2 ⟨x, List.mem_range.2 h1, by rw [h2]; rfl⟩
        omega
    exact ⟨hnil, hend l a w hI hnil⟩
  | succ fuel ih =>
    intro l a w hI hc
    refine ⟨fun h => hend l a w hI h, fun i hi => ?_⟩
    obtain ⟨h1, h2, _⟩ := Go.Mach.ready_spec (ops := ops) (listed := l) (i := i) hi
    refine wpOpIn_mono (fun a' w' hI' => ih _ a' w' hI' ?_) (hstep l a w i hI hi)
    have hls := hsz l a w hI
    have : ((List.range ops.size).countP fun j => !(l.setIfInBounds i true).getD j true) + 1 ≤ (List.range ops.size).countP fun j => !l.getD j true := by
      have hsplit : ∀ (L : List Nat), L.Nodup → i ∈ L → (L.countP fun j => !(l.setIfInBounds i true).getD j true) + 1 ≤ L.countP fun j => !l.getD j true := by
        intro L
        induction L with
        | nil => intro _ h; cases h
        | cons x xs ihx =>
          intro hnd hm
          rw [List.nodup_cons] at hnd
          rcases List.mem_cons.1 hm with rfl | hm'
          · have heq : (xs.countP fun j => !(l.setIfInBounds i true).getD j true) = xs.countP fun j => !l.getD j true := by
              refine List.countP_congr fun j hj => ?_
              have hne : i ≠ j := fun e => hnd.1 (e ▸ hj)
              simp [Array.getD_eq_getD_getElem?, Array.getElem?_setIfInBounds, hne]
            rw [List.countP_cons, List.countP_cons, heq]
            have hx : (l.setIfInBounds i true).getD i true = true := by simp [Array.getD_eq_getD_getElem?, Array.getElem?_setIfInBounds, hls, h1]
            rw [hx, h2]
            simp
          · have hne : i ≠ x := fun e => hnd.1 (e ▸ hm')
            have := ihx hnd.2 hm'
            rw [List.countP_cons, List.countP_cons]
            have hx : (!(l.setIfInBounds i true).getD x true) = !l.getD x true := by simp [Array.getD_eq_getD_getElem?, Array.getElem?_setIfInBounds, hne]
            rw [hx]; omega
      exact hsplit _ List.nodup_range (List.mem_range.2 h1)
    omega
theorem op_val {l n : Nat} {P : Program} {ops : Array Oper} {Q : Exit → Act → World → Prop} {i : Nat} {o : Oper} {K : Act → World → Prop} {a : Act} {w w' : World} {v : Value} (ho : ops[i]? = some o) (hg : o.guard = none)
    (hd : ∀ c, o.op ≠ .defer c) (hr : (execOp a.eval o).run P w = .ok (.value v) w') (hK : K (a.put o.dst v) w') : wpOpIn (Fence.wide.inRound l) n P ops Q i K a w := by
  unfold wpOpIn
  simp only [ho]
  have hw : Region.wanted o (yielded ops a.tmps) = true := by unfold Region.wanted; rw [hg]
  simp only [hw, if_true]
  refine ⟨fun f _ => trivial, ?_⟩
  rw [Oper.semAt_eq _ _ _ hd, hr]
  exact hK
theorem op_skip {l n : Nat} {P : Program} {ops : Array Oper} {Q : Exit → Act → World → Prop} {i : Nat} {o : Oper} {K : Act → World → Prop} {a : Act} {w w' : World} (ho : ops[i]? = some o) (hg : o.guard = none)
    (hd : ∀ c, o.op ≠ .defer c) (hr : (execOp a.eval o).run P w = .ok .skip w') (hK : K (a.put o.dst undef) w') : wpOpIn (Fence.wide.inRound l) n P ops Q i K a w := by
  unfold wpOpIn
  simp only [ho]
  have hw : Region.wanted o (yielded ops a.tmps) = true := by unfold Region.wanted; rw [hg]
  simp only [hw, if_true]
  refine ⟨fun f _ => trivial, ?_⟩
  rw [Oper.semAt_eq _ _ _ hd, hr]
  exact hK
def four (N : Nat) (W : World) (r a z : Int) (b : Bool) : Prop :=
  W.heap[N + 1]? = some (.cells #[.int .i32 r] 21 (0, 0)) ∧ W.heap[N + 2]? = some (.cells #[.int .i64 a] 3 (0, 0)) ∧ W.heap[N + 3]? = some (.cells #[.int .i64 z] 3 (0, 0)) ∧ W.heap[N + 4]? = some (.cells #[.bool b] 4 (0, 0))
theorem four.kept {N : Nat} {A B : World} {r a z : Int} {b : Bool} (h : four N A r a z b) (hb : ∀ k, k < N + 5 → B.heap[k]? = A.heap[k]?) : four N B r a z b :=
  ⟨(hb _ (by omega)).trans h.1, (hb _ (by omega)).trans h.2.1, (hb _ (by omega)).trans h.2.2.1, (hb _ (by omega)).trans h.2.2.2⟩
def reg4 : Array Oper := #[{ dst := some 14, op := Op.fieldAddr 109 (Operand.tmp 8) 0, type := 0, pos := "codepoint.go:65", after := #[], guard := none },
        { dst := some 15, op := Op.load 21 (Operand.tmp 14), type := 21, pos := "codepoint.go:65",
          after := #[{ on := 0, ground := Ground.data }], guard := none },
        { dst := some 16, op := Op.fieldAddr 109 (Operand.tmp 8) 1, type := 0, pos := "codepoint.go:65",
          after := #[{ on := 6, ground := Ground.gcOnly Departure.lateStores }], guard := none },
        { dst := some 17, op := Op.load 3 (Operand.tmp 16), type := 3, pos := "codepoint.go:65",
          after := #[{ on := 2, ground := Ground.data }, { on := 6, ground := Ground.gcOnly Departure.lateStores }],
          guard := none },
        { dst := some 18, op := Op.fieldAddr 109 (Operand.tmp 8) 2, type := 0, pos := "codepoint.go:65",
          after := #[{ on := 7, ground := Ground.gcOnly Departure.lateStores }], guard := none },
        { dst := some 19, op := Op.load 3 (Operand.tmp 18), type := 3, pos := "codepoint.go:65",
          after := #[{ on := 4, ground := Ground.data }, { on := 7, ground := Ground.gcOnly Departure.lateStores }],
          guard := none },
        { dst := none, op := Op.store 21 (Operand.tmp 4) (Operand.tmp 15), type := 0, pos := "codepoint.go:65",
          after :=
            #[{ on := 1, ground := Ground.data }, { on := 0, ground := Ground.phase },
              { on := 1, ground := Ground.phase }, { on := 2, ground := Ground.textOnly Departure.lateStores },
              { on := 3, ground := Ground.textOnly Departure.lateStores },
              { on := 4, ground := Ground.textOnly Departure.lateStores },
              { on := 5, ground := Ground.textOnly Departure.lateStores }],
          guard := none },
        { dst := none, op := Op.store 3 (Operand.tmp 5) (Operand.tmp 17), type := 0, pos := "codepoint.go:65",
          after :=
            #[{ on := 3, ground := Ground.data }, { on := 6, ground := Ground.chain },
              { on := 0, ground := Ground.phase }, { on := 1, ground := Ground.phase },
              { on := 2, ground := Ground.phase }, { on := 3, ground := Ground.phase },
              { on := 4, ground := Ground.textOnly Departure.lateStores },
              { on := 5, ground := Ground.textOnly Departure.lateStores }, { on := 6, ground := Ground.phase }],
          guard := none },
        { dst := none, op := Op.store 3 (Operand.tmp 6) (Operand.tmp 19), type := 0, pos := "codepoint.go:65",
          after :=
            #[{ on := 5, ground := Ground.data }, { on := 7, ground := Ground.chain },
              { on := 0, ground := Ground.phase }, { on := 1, ground := Ground.phase },
              { on := 2, ground := Ground.phase }, { on := 3, ground := Ground.phase },
              { on := 4, ground := Ground.phase }, { on := 5, ground := Ground.phase },
              { on := 6, ground := Ground.phase }, { on := 7, ground := Ground.phase }],
          guard := none },
        { dst := none, op := Op.store 4 (Operand.tmp 7) (Operand.const (Value.bool true)), type := 0,
          pos := "codepoint.go:65",
          after :=
            #[{ on := 8, ground := Ground.chain }, { on := 0, ground := Ground.phase },
              { on := 1, ground := Ground.phase }, { on := 2, ground := Ground.phase },
              { on := 3, ground := Ground.phase }, { on := 4, ground := Ground.phase },
              { on := 5, ground := Ground.phase }, { on := 6, ground := Ground.phase },
              { on := 7, ground := Ground.phase }, { on := 8, ground := Ground.phase }],
          guard := none }]
abbrev st4a (W : World) (N : Nat) (r : Int) : World := W.setCell ⟨N + 1, 0, none⟩ (.int .i32 r)
abbrev st4b (W : World) (N : Nat) (r a : Int) : World := (st4a W N r).setCell ⟨N + 2, 0, none⟩ (.int .i64 a)
abbrev st4c (W : World) (N : Nat) (r a z : Int) : World := (st4b W N r a).setCell ⟨N + 3, 0, none⟩ (.int .i64 z)
abbrev st4d (W : World) (N : Nat) (r a z : Int) : World := (st4c W N r a z).setCell ⟨N + 4, 0, none⟩ (.bool true)
def st4 (W : World) (N : Nat) (r a z : Int) : Nat → World
  | 0 => W
  | 1 => st4a W N r
  | 2 => st4b W N r a
  | 3 => st4c W N r a z
  | 4 => st4d W N r a z
  | _ + 5 => W
structure Inv4 (W : World) (N Bx : Nat) (r a z : Int) (k : Nat) (L : Array Bool) (A : Act) (V : World) : Prop where
  sz : L.size = 10
  ts : A.tmps.size = 22
  t4 : A.tmps.getD 4 undef = .pointer (some ⟨N + 1, 0, none⟩)
  t5 : A.tmps.getD 5 undef = .pointer (some ⟨N + 2, 0, none⟩)
  t6 : A.tmps.getD 6 undef = .pointer (some ⟨N + 3, 0, none⟩)
  t7 : A.tmps.getD 7 undef = .pointer (some ⟨N + 4, 0, none⟩)
  t8 : A.tmps.getD 8 undef = .pointer (some ⟨Bx, 0, none⟩)
  l0 : L.getD 0 true = true → A.tmps.getD 14 undef = .pointer (some ⟨Bx, 0, none⟩)
  l1 : L.getD 1 true = true → A.tmps.getD 15 undef = .int .i32 r
  l2 : L.getD 2 true = true → A.tmps.getD 16 undef = .pointer (some ⟨Bx, 1, none⟩)
  l3 : L.getD 3 true = true → A.tmps.getD 17 undef = .int .i64 a
  l4 : L.getD 4 true = true → A.tmps.getD 18 undef = .pointer (some ⟨Bx, 2, none⟩)
  l5 : L.getD 5 true = true → A.tmps.getD 19 undef = .int .i64 z
  hV : V = st4 W N r a z k
  k4 : k ≤ 4
  b6 : L.getD 6 true = decide (1 ≤ k)
  b7 : L.getD 7 true = decide (2 ≤ k)
  b8 : L.getD 8 true = decide (3 ≤ k)
  b9 : L.getD 9 true = decide (4 ≤ k)
theorem st4_other (W : World) (N : Nat) (r a z : Int) : ∀ k j, j ≠ N + 1 → j ≠ N + 2 → j ≠ N + 3 → j ≠ N + 4 → (st4 W N r a z k).heap[j]? = W.heap[j]?
  | 0, j, h1, h2, h3, h4 => rfl
  | 1, j, h1, h2, h3, h4 => Below.heap_setCell _ _ _ _ h1
  | 2, j, h1, h2, h3, h4 => (Below.heap_setCell _ _ _ _ h2).trans (Below.heap_setCell _ _ _ _ h1)
  | 3, j, h1, h2, h3, h4 => (Below.heap_setCell _ _ _ _ h3).trans ((Below.heap_setCell _ _ _ _ h2).trans (Below.heap_setCell _ _ _ _ h1))
  | 4, j, h1, h2, h3, h4 => (Below.heap_setCell _ _ _ _ h4).trans ((Below.heap_setCell _ _ _ _ h3).trans ((Below.heap_setCell _ _ _ _ h2).trans (Below.heap_setCell _ _ _ _ h1)))
  | _ + 5, j, h1, h2, h3, h4 => rfl
theorem put_getD (A : Act) (d t : Nat) (v : Value) (hd : d < A.tmps.size) : (A.put (some d) v).tmps.getD t undef = if t = d then v else A.tmps.getD t undef := by
  simp only [Act.put, Array.getD_eq_getD_getElem?, Array.getElem?_setIfInBounds]
  by_cases h : d = t
  · subst h; simp [hd]
  · simp [h, Ne.symm h]
theorem put_size (A : Act) (d : Option Nat) (v : Value) : (A.put d v).tmps.size = A.tmps.size := by
  cases d <;> simp [Act.put]
theorem set_getD (L : Array Bool) (i j : Nat) (hi : i < L.size) : (L.setIfInBounds i true).getD j true = if j = i then true else L.getD j true := by
  simp only [Array.getD_eq_getD_getElem?, Array.getElem?_setIfInBounds]
  by_cases h : i = j
  · subst h; simp [hi]
  · simp [h, Ne.symm h]
theorem gdT {L : Array Bool} {j : Nat} (h : L.getD j false = true) : L.getD j true = true := by
  simp only [Array.getD_eq_getD_getElem?] at *
  cases e : L[j]? with
  | none => rfl
  | some b => rw [e] at h; exact h
theorem keepT {A : Act} {d t : Nat} {x v : Value} (hd : d < A.tmps.size) (hne : t ≠ d) (h : A.tmps.getD t undef = v) : (A.put (some d) x).tmps.getD t undef = v := by
  rw [put_getD A d t x hd, if_neg hne]; exact h
theorem newT {A : Act} {d : Nat} {x : Value} (hd : d < A.tmps.size) : (A.put (some d) x).tmps.getD d undef = x := by
  rw [put_getD A d d x hd, if_pos rfl]
theorem keepB {L : Array Bool} {i j : Nat} {b : Bool} (hi : i < L.size) (hne : j ≠ i) (h : L.getD j true = b) : (L.setIfInBounds i true).getD j true = b := by
  rw [set_getD L i j hi, if_neg hne]; exact h
theorem newB {L : Array Bool} {i : Nat} (hi : i < L.size) : (L.setIfInBounds i true).getD i true = true := by
  rw [set_getD L i i hi, if_pos rfl]
theorem backB {L : Array Bool} {i j : Nat} (hi : i < L.size) (hne : j ≠ i) (h : (L.setIfInBounds i true).getD j true = true) : L.getD j true = true := by
  rw [set_getD L i j hi, if_neg hne] at h; exact h
theorem ready_nil' {ops : Array Oper} (hback : ∀ i o, ops[i]? = some o → ∀ j ∈ Go.Mach.directsO o, j < i) {listed : Array Bool} (hsz : listed.size = ops.size) (h : Region.ready .any ops listed = []) : ∀ i, i < ops.size → listed.getD i false = true := by
  intro i
  induction i using Nat.strongRecOn with
  | _ i ih =>
    intro hi
    cases hl : listed.getD i false with
    | true => rfl
    | false =>
      exfalso
      have ho : ops[i]? = some ops[i] := by simp [hi]
      have hmem : i ∈ Region.ready .any ops listed := by
        unfold Region.ready
        rw [List.mem_filter, List.mem_range]
        refine ⟨hi, ?_⟩
        rw [Go.Mach.getD_true_false (by rw [hsz]; exact hi), hl, ho]
        simp only [Bool.not_false, Option.map_some, Option.getD_some, Bool.true_and]
        rw [Array.all_eq_true_iff_forall_mem]
        intro e he
        cases hb : Region.binds .any e with
        | false => simp
        | true =>
          have hd : e.on ∈ Go.Mach.directsO ops[i] := by
            unfold Go.Mach.directsO
            exact List.mem_map.2 ⟨e, List.mem_filter.2 ⟨by simpa using he, hb⟩, rfl⟩
          have hlt := hback i ops[i] ho _ hd
          simp [ih e.on hlt (by omega)]
      rw [h] at hmem
      cases hmem
theorem reg4_back : ∀ i o, reg4[i]? = some o → ∀ j ∈ Go.Mach.directsO o, j < i := by
  have hall : (List.range 10).all (fun i => (Go.Mach.directsO (reg4.getD i default)).all fun j => decide (j < i)) = true := by decide
  intro i o ho j hj
  have hi : i < reg4.size := (Array.getElem?_eq_some_iff.1 ho).1
  have h1 := List.all_eq_true.1 hall i (List.mem_range.2 hi)
  have h2 : reg4.getD i default = o := by rw [Array.getD_eq_getD_getElem?, ho]; rfl
  rw [h2] at h1
  simpa using List.all_eq_true.1 h1 j hj
section
variable {W : World} {N Bx : Nat} {r a z : Int} {n l : Nat} {Q : Exit → Act → World → Prop}
variable (hBx : N + 5 ≤ Bx) (hx : W.heap[Bx]? = some (.cells #[.int .i32 r, .int .i64 a, .int .i64 z] 109 (0, 0))) (hf : four N W 0 0 0 false)
include hBx hx hf
theorem reg4_cells (k : Nat) (hk : k ≤ 4) : four N (st4 W N r a z k) (if 1 ≤ k then r else 0) (if 2 ≤ k then a else 0) (if 3 ≤ k then z else 0) (decide (4 ≤ k)) ∧
    (st4 W N r a z k).heap[Bx]? = some (.cells #[.int .i32 r, .int .i64 a, .int .i64 z] 109 (0, 0)) := by
  refine ⟨?_, (st4_other W N r a z k Bx (by omega) (by omega) (by omega) (by omega)).trans hx⟩
  obtain ⟨h1, h2, h3, h4⟩ := hf
  have o := fun (V : World) (i j : Nat) (v : Value) (h : j ≠ i) => Below.heap_setCell V ⟨i, 0, none⟩ v j h
  have e1 : (st4 W N r a z 1).heap[N + 1]? = _ := set10 h1 (.int .i32 r)
  have e12 : (st4 W N r a z 1).heap[N + 2]? = _ := (o _ _ _ _ (by omega)).trans h2
  have e13 : (st4 W N r a z 1).heap[N + 3]? = _ := (o _ _ _ _ (by omega)).trans h3
  have e14 : (st4 W N r a z 1).heap[N + 4]? = _ := (o _ _ _ _ (by omega)).trans h4
  have e21 : (st4 W N r a z 2).heap[N + 1]? = _ := (o _ _ _ _ (by omega)).trans e1
  have e22 : (st4 W N r a z 2).heap[N + 2]? = _ := set10 e12 (.int .i64 a)
  have e23 : (st4 W N r a z 2).heap[N + 3]? = _ := (o _ _ _ _ (by omega)).trans e13
  have e24 : (st4 W N r a z 2).heap[N + 4]? = _ := (o _ _ _ _ (by omega)).trans e14
  have e31 : (st4 W N r a z 3).heap[N + 1]? = _ := (o _ _ _ _ (by omega)).trans e21
  have e32 : (st4 W N r a z 3).heap[N + 2]? = _ := (o _ _ _ _ (by omega)).trans e22
  have e33 : (st4 W N r a z 3).heap[N + 3]? = _ := set10 e23 (.int .i64 z)
  have e34 : (st4 W N r a z 3).heap[N + 4]? = _ := (o _ _ _ _ (by omega)).trans e24
  have e41 : (st4 W N r a z 4).heap[N + 1]? = _ := (o _ _ _ _ (by omega)).trans e31
  have e42 : (st4 W N r a z 4).heap[N + 2]? = _ := (o _ _ _ _ (by omega)).trans e32
  have e43 : (st4 W N r a z 4).heap[N + 3]? = _ := (o _ _ _ _ (by omega)).trans e33
  have e44 : (st4 W N r a z 4).heap[N + 4]? = _ := set10 e34 (.bool true)
  match k, hk with
  | 0, _ => exact ⟨h1, h2, h3, h4⟩
  | 1, _ => exact ⟨e1, e12, e13, e14⟩
  | 2, _ => exact ⟨e21, e22, e23, e24⟩
  | 3, _ => exact ⟨e31, e32, e33, e34⟩
  | 4, _ => exact ⟨e41, e42, e43, e44⟩
theorem reg4_step (k : Nat) (L : Array Bool) (A : Act) (V : World) (i : Nat) (h : Inv4 W N Bx r a z k L A V) (hi : i ∈ Region.ready .any reg4 L) :
    wpOpIn (Fence.wide.inRound l) n Tryz.prog reg4 Q i (fun A' V' => ∃ k', Inv4 W N Bx r a z k' (L.setIfInBounds i true) A' V') A V := by
  obtain ⟨h1, h2, h3'⟩ := Go.Mach.ready_spec hi
  have h3 := fun (o : Oper) (ho : reg4[i]? = some o) (j : Nat) (hj : j ∈ Go.Mach.directsO o) => gdT (h3' o ho j hj)
  have hsz : reg4.size = 10 := rfl
  rw [hsz] at h1
  obtain ⟨⟨q1, q2, q3, q4⟩, qx⟩ := reg4_cells hBx hx hf k h.k4
  obtain ⟨c0, c1, c2, f0, f1, f2⟩ := cell_of3 qx
  obtain ⟨q1c, q1f⟩ := cell_of1 q1
  obtain ⟨q2c, q2f⟩ := cell_of1 q2
  obtain ⟨q3c, q3f⟩ := cell_of1 q3
  obtain ⟨q4c, q4f⟩ := cell_of1 q4
  obtain ⟨sz, ts, t4, t5, t6, t7, t8, l0, l1, l2, l3, l4, l5, hV, k4, b6, b7, b8, b9⟩ := h
  subst hV
  have ev : ∀ t, A.eval (.tmp t) = A.tmps.getD t undef := fun t => rfl
  have iv : i = 0 ∨ i = 1 ∨ i = 2 ∨ i = 3 ∨ i = 4 ∨ i = 5 ∨ i = 6 ∨ i = 7 ∨ i = 8 ∨ i = 9 := by omega
  rcases iv with rfl | rfl | rfl | rfl | rfl | rfl | rfl | rfl | rfl | rfl
  · skip
    refine op_val (o := reg4[0]) rfl rfl (fun c h => by cases h) (v := .pointer (some ⟨Bx, 0, none⟩)) (w' := st4 W N r a z k) ?_ ?_
    · simp [reg4, go_sem, ev, *]
    · have hd : 14 < A.tmps.size := by omega
      have hl : 0 < L.size := by omega
      refine ⟨k, by simp [sz], (put_size _ _ _).trans ts, keepT hd (by decide) t4, keepT hd (by decide) t5, keepT hd (by decide) t6, keepT hd (by decide) t7, keepT hd (by decide) t8, fun _ => newT hd, fun h => keepT hd (by decide) (l1 (backB hl (by decide) h)), fun h => keepT hd (by decide) (l2 (backB hl (by decide) h)), fun h => keepT hd (by decide) (l3 (backB hl (by decide) h)), fun h => keepT hd (by decide) (l4 (backB hl (by decide) h)), fun h => keepT hd (by decide) (l5 (backB hl (by decide) h)), rfl, k4, keepB hl (by decide) b6, keepB hl (by decide) b7, keepB hl (by decide) b8, keepB hl (by decide) b9⟩
  · have r0 := l0 (h3 _ rfl 0 (by decide))
    refine op_val (o := reg4[1]) rfl rfl (fun c h => by cases h) (v := .int .i32 r) (w' := st4 W N r a z k) ?_ ?_
    · simp [reg4, go_sem, ev, *]
    · have hd : 15 < A.tmps.size := by omega
      have hl : 1 < L.size := by omega
      refine ⟨k, by simp [sz], (put_size _ _ _).trans ts, keepT hd (by decide) t4, keepT hd (by decide) t5, keepT hd (by decide) t6, keepT hd (by decide) t7, keepT hd (by decide) t8, fun h => keepT hd (by decide) (l0 (backB hl (by decide) h)), fun _ => newT hd, fun h => keepT hd (by decide) (l2 (backB hl (by decide) h)), fun h => keepT hd (by decide) (l3 (backB hl (by decide) h)), fun h => keepT hd (by decide) (l4 (backB hl (by decide) h)), fun h => keepT hd (by decide) (l5 (backB hl (by decide) h)), rfl, k4, keepB hl (by decide) b6, keepB hl (by decide) b7, keepB hl (by decide) b8, keepB hl (by decide) b9⟩
  · skip
    refine op_val (o := reg4[2]) rfl rfl (fun c h => by cases h) (v := .pointer (some ⟨Bx, 1, none⟩)) (w' := st4 W N r a z k) ?_ ?_
    · simp [reg4, go_sem, ev, *]
    · have hd : 16 < A.tmps.size := by omega
      have hl : 2 < L.size := by omega
      refine ⟨k, by simp [sz], (put_size _ _ _).trans ts, keepT hd (by decide) t4, keepT hd (by decide) t5, keepT hd (by decide) t6, keepT hd (by decide) t7, keepT hd (by decide) t8, fun h => keepT hd (by decide) (l0 (backB hl (by decide) h)), fun h => keepT hd (by decide) (l1 (backB hl (by decide) h)), fun _ => newT hd, fun h => keepT hd (by decide) (l3 (backB hl (by decide) h)), fun h => keepT hd (by decide) (l4 (backB hl (by decide) h)), fun h => keepT hd (by decide) (l5 (backB hl (by decide) h)), rfl, k4, keepB hl (by decide) b6, keepB hl (by decide) b7, keepB hl (by decide) b8, keepB hl (by decide) b9⟩
  · have r2 := l2 (h3 _ rfl 2 (by decide))
    refine op_val (o := reg4[3]) rfl rfl (fun c h => by cases h) (v := .int .i64 a) (w' := st4 W N r a z k) ?_ ?_
    · simp [reg4, go_sem, ev, *]
    · have hd : 17 < A.tmps.size := by omega
      have hl : 3 < L.size := by omega
      refine ⟨k, by simp [sz], (put_size _ _ _).trans ts, keepT hd (by decide) t4, keepT hd (by decide) t5, keepT hd (by decide) t6, keepT hd (by decide) t7, keepT hd (by decide) t8, fun h => keepT hd (by decide) (l0 (backB hl (by decide) h)), fun h => keepT hd (by decide) (l1 (backB hl (by decide) h)), fun h => keepT hd (by decide) (l2 (backB hl (by decide) h)), fun _ => newT hd, fun h => keepT hd (by decide) (l4 (backB hl (by decide) h)), fun h => keepT hd (by decide) (l5 (backB hl (by decide) h)), rfl, k4, keepB hl (by decide) b6, keepB hl (by decide) b7, keepB hl (by decide) b8, keepB hl (by decide) b9⟩
  · skip
    refine op_val (o := reg4[4]) rfl rfl (fun c h => by cases h) (v := .pointer (some ⟨Bx, 2, none⟩)) (w' := st4 W N r a z k) ?_ ?_
    · simp [reg4, go_sem, ev, *]
    · have hd : 18 < A.tmps.size := by omega
      have hl : 4 < L.size := by omega
      refine ⟨k, by simp [sz], (put_size _ _ _).trans ts, keepT hd (by decide) t4, keepT hd (by decide) t5, keepT hd (by decide) t6, keepT hd (by decide) t7, keepT hd (by decide) t8, fun h => keepT hd (by decide) (l0 (backB hl (by decide) h)), fun h => keepT hd (by decide) (l1 (backB hl (by decide) h)), fun h => keepT hd (by decide) (l2 (backB hl (by decide) h)), fun h => keepT hd (by decide) (l3 (backB hl (by decide) h)), fun _ => newT hd, fun h => keepT hd (by decide) (l5 (backB hl (by decide) h)), rfl, k4, keepB hl (by decide) b6, keepB hl (by decide) b7, keepB hl (by decide) b8, keepB hl (by decide) b9⟩
  · have r4 := l4 (h3 _ rfl 4 (by decide))
    refine op_val (o := reg4[5]) rfl rfl (fun c h => by cases h) (v := .int .i64 z) (w' := st4 W N r a z k) ?_ ?_
    · simp [reg4, go_sem, ev, *]
    · have hd : 19 < A.tmps.size := by omega
      have hl : 5 < L.size := by omega
      refine ⟨k, by simp [sz], (put_size _ _ _).trans ts, keepT hd (by decide) t4, keepT hd (by decide) t5, keepT hd (by decide) t6, keepT hd (by decide) t7, keepT hd (by decide) t8, fun h => keepT hd (by decide) (l0 (backB hl (by decide) h)), fun h => keepT hd (by decide) (l1 (backB hl (by decide) h)), fun h => keepT hd (by decide) (l2 (backB hl (by decide) h)), fun h => keepT hd (by decide) (l3 (backB hl (by decide) h)), fun h => keepT hd (by decide) (l4 (backB hl (by decide) h)), fun _ => newT hd, rfl, k4, keepB hl (by decide) b6, keepB hl (by decide) b7, keepB hl (by decide) b8, keepB hl (by decide) b9⟩
  · have hk1 : k = 0 := by
      have hn := b6.symm.trans h2
      skip
      simp at hn
      omega
    subst hk1
    have rd := l1 (h3 _ rfl 1 (by decide))
    simp only [Nat.reduceLeDiff, if_true, if_false, decide_true, decide_false] at q1c q2c q3c q4c
    refine op_skip (o := reg4[6]) rfl rfl (fun c h => by cases h) (w' := st4 W N r a z 1) ?_ ?_
    · simp [reg4, go_sem, ev, *]
      try rfl
    · have hl : 6 < L.size := by omega
      refine ⟨1, by simp [sz], ts, t4, t5, t6, t7, t8, fun h => l0 (backB hl (by decide) h), fun h => l1 (backB hl (by decide) h), fun h => l2 (backB hl (by decide) h), fun h => l3 (backB hl (by decide) h), fun h => l4 (backB hl (by decide) h), fun h => l5 (backB hl (by decide) h), rfl, by omega, (newB hl).trans (by simp), (keepB hl (by decide) b7).trans (by simp), (keepB hl (by decide) b8).trans (by simp), (keepB hl (by decide) b9).trans (by simp)⟩
  · have hk1 : k = 1 := by
      have hn := b7.symm.trans h2
      have hp := b6.symm.trans (h3 _ rfl 6 (by decide))
      simp at hn hp
      omega
    subst hk1
    have rd := l3 (h3 _ rfl 3 (by decide))
    simp only [Nat.reduceLeDiff, if_true, if_false, decide_true, decide_false] at q1c q2c q3c q4c
    refine op_skip (o := reg4[7]) rfl rfl (fun c h => by cases h) (w' := st4 W N r a z 2) ?_ ?_
    · simp [reg4, go_sem, ev, *]
      try rfl
    · have hl : 7 < L.size := by omega
      refine ⟨2, by simp [sz], ts, t4, t5, t6, t7, t8, fun h => l0 (backB hl (by decide) h), fun h => l1 (backB hl (by decide) h), fun h => l2 (backB hl (by decide) h), fun h => l3 (backB hl (by decide) h), fun h => l4 (backB hl (by decide) h), fun h => l5 (backB hl (by decide) h), rfl, by omega, (keepB hl (by decide) b6).trans (by simp), (newB hl).trans (by simp), (keepB hl (by decide) b8).trans (by simp), (keepB hl (by decide) b9).trans (by simp)⟩
  · have hk1 : k = 2 := by
      have hn := b8.symm.trans h2
      have hp := b7.symm.trans (h3 _ rfl 7 (by decide))
      simp at hn hp
      omega
    subst hk1
    have rd := l5 (h3 _ rfl 5 (by decide))
    simp only [Nat.reduceLeDiff, if_true, if_false, decide_true, decide_false] at q1c q2c q3c q4c
    refine op_skip (o := reg4[8]) rfl rfl (fun c h => by cases h) (w' := st4 W N r a z 3) ?_ ?_
    · simp [reg4, go_sem, ev, *]
      try rfl
    · have hl : 8 < L.size := by omega
      refine ⟨3, by simp [sz], ts, t4, t5, t6, t7, t8, fun h => l0 (backB hl (by decide) h), fun h => l1 (backB hl (by decide) h), fun h => l2 (backB hl (by decide) h), fun h => l3 (backB hl (by decide) h), fun h => l4 (backB hl (by decide) h), fun h => l5 (backB hl (by decide) h), rfl, by omega, (keepB hl (by decide) b6).trans (by simp), (keepB hl (by decide) b7).trans (by simp), (newB hl).trans (by simp), (keepB hl (by decide) b9).trans (by simp)⟩
  · have hk1 : k = 3 := by
      have hn := b9.symm.trans h2
      have hp := b8.symm.trans (h3 _ rfl 8 (by decide))
      simp at hn hp
      omega
    subst hk1
    skip
    simp only [Nat.reduceLeDiff, if_true, if_false, decide_true, decide_false] at q1c q2c q3c q4c
    refine op_skip (o := reg4[9]) rfl rfl (fun c h => by cases h) (w' := st4 W N r a z 4) ?_ ?_
    · simp [reg4, go_sem, ev, *]
      try rfl
    · have hl : 9 < L.size := by omega
      refine ⟨4, by simp [sz], ts, t4, t5, t6, t7, t8, fun h => l0 (backB hl (by decide) h), fun h => l1 (backB hl (by decide) h), fun h => l2 (backB hl (by decide) h), fun h => l3 (backB hl (by decide) h), fun h => l4 (backB hl (by decide) h), fun h => l5 (backB hl (by decide) h), rfl, by omega, (keepB hl (by decide) b6).trans (by simp), (keepB hl (by decide) b7).trans (by simp), (keepB hl (by decide) b8).trans (by simp), (newB hl).trans (by simp)⟩
theorem reg4_wp {A : Act} (h : Inv4 { W with drawn := W.drawn + 1 } N Bx r a z 0 (Array.replicate 10 false) A { W with drawn := W.drawn + 1 })
    (hQ : ∀ A', Q .normal A' (st4 { W with drawn := W.drawn + 1 } N r a z 4)) : (Code.region 4 reg4 true).wpIn (Fence.wide.inRound l) n Tryz.prog Q A W := by
  refine wpIn_region_any Tryz.checked.mixed ?_
  refine wpAnyIn_inv (fun L A V => ∃ k, Inv4 { W with drawn := W.drawn + 1 } N Bx r a z k L A V) (fun L A V ⟨k, h⟩ => show L.size = reg4.size from h.sz) (fun L A V i ⟨k, h⟩ hi => reg4_step (W := { W with drawn := W.drawn + 1 }) hBx hx hf k L A V i h hi) ?_ _ _ _ _ ⟨0, h⟩ ?_
  · rintro L A V ⟨k, h⟩ hnil
    have h9 := ready_nil' reg4_back h.sz hnil 9 (by decide)
    have h9' := gdT h9
    rw [h.b9] at h9'
    simp at h9'
    have hk : k = 4 := by have := h.k4; omega
    subst hk
    rw [h.hV]
    exact hQ A
  · exact Nat.le_trans List.countP_le_length (by simp [reg4])
end
end Go.Proofs.YtlipmjpapkfaeaaGreatDoor.Orc
end
