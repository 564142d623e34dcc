/- A table's live states and classes: plain Lean. No condition.
Merged from 3 texts. -/
import Derived.Test.YtlipmjpapkfaeaaGreatDoorZD30
import Derived.Test.YtlipmjpapkfaeaaGreatDoorZD13
section
set_option linter.unusedSimpArgs false
set_option linter.unusedVariables false
namespace Go.Proofs.YtlipmjpapkfaeaaGreatDoor.Fn
open Go Go.Mach Go.RowKit Go.Proofs
def cel (rows : List (List Int)) (i q : Nat) : Nat := ((rows.getD i []).getD q 0).toNat
def bt (l : List Bool) (i : Nat) : Bool := l.getD i false
def nm (l : List Int) (i : Nat) : Int := l.getD i (-1)
theorem bt_set {l : List Bool} {i j : Nat} {b : Bool} : bt (l.set i b) j = if j = i ∧ i < l.length then b else bt l j := by
  unfold bt
  simp only [List.getD, List.getElem?_set]
  by_cases h : i = j
  · subst h
    by_cases h2 : i < l.length
    · simp [h2]
    · simp [h2, List.getElem?_eq_none (show l.length ≤ i by omega)]
  · simp [h, show ¬ j = i from fun e => h e.symm]
theorem nm_set {l : List Int} {i j : Nat} {b : Int} (hi : i < l.length) : nm (l.set i b) j = if j = i then b else nm l j := by
  unfold nm
  simp only [List.getD, List.getElem?_set]
  by_cases h : i = j
  · subst h; simp [hi]
  · simp [h, show ¬ j = i from fun e => h e.symm]
section
variable {ps : List Int} {F : List Bool} {rows : List (List Int)}
theorem TabOk.cell_lt (t : TabOk ps F rows) {i q : Nat} (hi : i < F.length) (hq : q < ps.length) : cel rows i q < F.length ∧ (rows.getD i []).getD q 0 = (cel rows i q : Int) := by
  obtain ⟨r, hr, h1, h2, _⟩ := t.get hi
  have e : rows.getD i [] = r := by simp [List.getD, hr]
  unfold cel
  rw [e]
  have := t.cell (List.mem_of_getElem? hr) hq
  omega
theorem TabOk.nextC (t : TabOk ps F rows) {i q : Nat} (hi : i < F.length) (hq : q < ps.length) {c : Int} (h1 : ps.getD q 0 ≤ c) (h2 : c ≤ endZ ps q) : nextQ (tabA ps F rows) i c = (cel rows i q : Int) := by
  obtain ⟨r, hr, _⟩ := t.get hi
  rw [t.next hr hq h1 h2, ← (t.cell_lt hi hq).2]
  simp [List.getD, hr]
theorem TabOk.step (t : TabOk ps F rows) {i : Nat} (hi : i < F.length) (c : Int) (cs : List Int) : (okC c = false ∧ acc (tabA ps F rows) i (c :: cs) = false) ∨ ∃ q, q < ps.length ∧ (ps.getD q 0 ≤ c ∧ c ≤ endZ ps q) ∧ acc (tabA ps F rows) i (c :: cs) = acc (tabA ps F rows) (cel rows i q) cs := by
  cases hc : okC c with
  | false =>
    left
    refine ⟨rfl, ?_⟩
    rw [acc_cons, next_bad t.wf (by show (i : Int) < F.length; omega) hc]
    exact acc_dead _ cs (by decide)
  | true =>
    right
    have hcr : 0 ≤ c ∧ c ≤ 1114111 := by simpa [okC] using hc
    obtain ⟨q, hq, h1, h2⟩ := pts_cover t.pts hcr
    exact ⟨q, hq, ⟨h1, h2⟩, by rw [acc_cons, t.nextC hi hq h1 h2]⟩
theorem TabOk.stepQ (t : TabOk ps F rows) {i q : Nat} (hi : i < F.length) (hq : q < ps.length) (cs : List Int) : acc (tabA ps F rows) i (ps.getD q 0 :: cs) = acc (tabA ps F rows) (cel rows i q) cs := by
  rw [acc_cons, t.nextC hi hq (Int.le_refl _) (t.pts.rngQ hq).1.2]
theorem tab_nil (i : Nat) : acc (tabA ps F rows) i [] = bt F i := acc_nil _ i
structure LvS (ps : List Int) (F : List Bool) (rows : List (List Int)) (l : List Bool) : Prop where
  len : l.length = F.length
  fin : ∀ q, bt F q = true → bt l q = true
  snd : ∀ q, bt l q = true → Live (tabA ps F rows) q
theorem lvS_init : LvS ps F rows F := ⟨rfl, fun q h => h, fun q h => ⟨[], by rw [tab_nil]; exact h⟩⟩
theorem LvS.put (t : TabOk ps F rows) {l : List Bool} (h : LvS ps F rows l) {i q : Nat} (hi : i < F.length) (hq : q < ps.length) : LvS ps F rows (l.set i (bt l i || bt l (cel rows i q))) := by
  refine ⟨by rw [List.length_set]; exact h.len, fun j hj => ?_, fun j hj => ?_⟩
  · rw [bt_set]
    split
    · rename_i he; rw [← he.1, h.fin j hj]; rfl
    · exact h.fin j hj
  · rw [bt_set] at hj
    split at hj
    · rename_i he
      rw [he.1]
      rw [Bool.or_eq_true] at hj
      rcases hj with hj | hj
      · exact h.snd i hj
      · obtain ⟨cs, hcs⟩ := h.snd _ hj
        exact ⟨ps.getD q 0 :: cs, by rw [t.stepQ hi hq]; exact hcs⟩
    · exact h.snd j hj
def cntT (l : List Bool) : Nat := l.countP id
def CloTo (ps : List Int) (rows : List (List Int)) (l : List Bool) (i q : Nat) : Prop := ∀ i' q' : Nat, i' < rows.length → q' < ps.length → (i' < i ∨ (i' = i ∧ q' < q)) → bt l (cel rows i' q') = true → bt l i' = true
def Clo (ps : List Int) (rows : List (List Int)) (l : List Bool) : Prop := ∀ i' q' : Nat, i' < rows.length → q' < ps.length → bt l (cel rows i' q') = true → bt l i' = true
def RIn (ps : List Int) (rows : List (List Int)) (l : List Bool) (t i q : Nat) : Prop := Clo ps rows l ∨ t + 1 ≤ cntT l ∨ (t ≤ cntT l ∧ CloTo ps rows l i q)
def RSt (ps : List Int) (rows : List (List Int)) (l : List Bool) (t : Nat) : Prop := Clo ps rows l ∨ t ≤ cntT l
theorem cnt_set : ∀ {l : List Bool} {i : Nat}, i < l.length → bt l i = false → cntT (l.set i true) = cntT l + 1
  | [], i, h, _ => by simp at h
  | b :: l, 0, _, hb => by
    have : b = false := hb
    subst this
    simp [cntT]
  | b :: l, i + 1, h, hb => by
    have ih := cnt_set (l := l) (i := i) (by simpa using h) hb
    unfold cntT at ih ⊢
    rw [List.set_cons_succ, List.countP_cons, List.countP_cons, ih]; omega
theorem cnt_le (l : List Bool) : cntT l ≤ l.length := List.countP_le_length
theorem cnt_all : ∀ {l : List Bool}, l.length ≤ cntT l → ∀ i, i < l.length → bt l i = true
  | [], _, i, h => by simp at h
  | b :: l, hl, i, hi => by
    have h1 := cnt_le l
    unfold cntT at hl h1
    rw [List.countP_cons, List.length_cons] at hl
    have hb : b = true := by
      cases b with
      | true => rfl
      | false => simp at hl; omega
    subst hb
    cases i with
    | zero => rfl
    | succ i => exact cnt_all (l := l) (by simp at hl; unfold cntT; omega) i (by simpa using hi)
theorem set_same {l : List Bool} {i : Nat} {b : Bool} (h : bt l i = b) : l.set i b = l := by
  apply List.ext_getElem?
  intro j
  rw [List.getElem?_set]
  by_cases hij : i = j
  · subst hij
    by_cases hi : i < l.length
    · rw [if_pos rfl, if_pos hi, ← h]; simp [bt, List.getD, hi]
    · rw [if_pos rfl, if_neg hi, List.getElem?_eq_none (by omega)]
  · rw [if_neg hij]
theorem RIn.put {l : List Bool} {t i q : Nat} (h : RIn ps rows l t i q) (hi : i < rows.length) (hq : q < ps.length) (hl : l.length = rows.length) : RIn ps rows (l.set i (bt l i || bt l (cel rows i q))) t i (q + 1) := by
  cases h1 : bt l i with
  | true =>
    rw [Bool.true_or, set_same h1]
    rcases h with h | h | ⟨h, h2⟩
    · exact .inl h
    · exact .inr (.inl h)
    · refine .inr (.inr ⟨h, fun i' q' a b c d => ?_⟩)
      by_cases e : i' = i
      · rw [e]; exact h1
      · exact h2 i' q' a b (by omega) d
  | false =>
    cases h3 : bt l (cel rows i q) with
    | false =>
      rw [Bool.or_self, set_same h1]
      rcases h with h | h | ⟨h, h2⟩
      · exact .inl h
      · exact .inr (.inl h)
      · refine .inr (.inr ⟨h, fun i' q' a b c d => ?_⟩)
        by_cases e : i' = i ∧ q' = q
        · rw [e.1, e.2, h3] at d; cases d
        · exact h2 i' q' a b (by omega) d
    | true =>
      rw [Bool.false_or]
      have hc := cnt_set (l := l) (i := i) (by omega) h1
      rcases h with h | h | ⟨h, h2⟩
      · have := h i q hi hq h3
        rw [h1] at this; cases this
      · exact .inr (.inl (by omega))
      · exact .inr (.inl (by omega))
theorem RIn.row {l : List Bool} {t i q : Nat} (h : RIn ps rows l t i q) (hq : ps.length ≤ q) : RIn ps rows l t (i + 1) 0 := by
  rcases h with h | h | ⟨h, h2⟩
  · exact .inl h
  · exact .inr (.inl h)
  · exact .inr (.inr ⟨h, fun i' q' a b c d => h2 i' q' a b (by omega) d⟩)
theorem RSt.start {l : List Bool} {t : Nat} (h : RSt ps rows l t) : RIn ps rows l t 0 0 := by
  rcases h with h | h
  · exact .inl h
  · exact .inr (.inr ⟨h, fun i' q' a b c d => by omega⟩)
theorem RIn.stop {l : List Bool} {t i : Nat} (h : RIn ps rows l t i 0) (hi : rows.length ≤ i) : RSt ps rows l (t + 1) := by
  rcases h with h | h | ⟨h, h2⟩
  · exact .inl h
  · exact .inr h
  · exact .inl fun i' q' a b d => h2 i' q' a b (by omega) d
theorem RSt.done (t : TabOk ps F rows) {l : List Bool} (h : RSt ps rows l l.length) (hl : LvS ps F rows l) : Clo ps rows l := by
  rcases h with h | h
  · exact h
  · exact fun i' q' a b d => cnt_all h i' (by rw [hl.len, ← t.len]; exact a)
def LiveL (ps : List Int) (F : List Bool) (rows : List (List Int)) (l : List Bool) : Prop := l.length = F.length ∧ ∀ q, q < F.length → (bt l q = true ↔ Live (tabA ps F rows) q)
theorem LvS.done (t : TabOk ps F rows) {l : List Bool} (hl : LvS ps F rows l) (hc : Clo ps rows l) : LiveL ps F rows l := by
  refine ⟨hl.len, fun q hq => ⟨hl.snd q, fun ⟨cs, hcs⟩ => ?_⟩⟩
  induction cs generalizing q with
  | nil => rw [tab_nil] at hcs; exact hl.fin q hcs
  | cons c cs ih =>
    rcases t.step hq c cs with ⟨_, h⟩ | ⟨k, hk, _, h⟩
    · rw [h] at hcs; cases hcs
    · rw [h] at hcs
      exact hc q k (by rw [t.len]; exact hq) hk (ih _ (t.cell_lt hq hk).1 ⟨cs, hcs⟩ hcs)
def alikeB (n : Nat) (rows : List (List Int)) (c : List Int) (i k : Nat) : Bool := (nm c i == nm c k) && (List.range n).all fun q => nm c (cel rows i q) == nm c (cel rows k q)
theorem alikeB_iff {n : Nat} {c : List Int} {i k : Nat} : alikeB n rows c i k = true ↔ nm c i = nm c k ∧ ∀ q, q < n → nm c (cel rows i q) = nm c (cel rows k q) := by
  unfold alikeB
  rw [Bool.and_eq_true, beq_iff_eq, List.all_eq_true]
  simp
theorem alikeB_symm {n : Nat} {c : List Int} {i k : Nat} (h : alikeB n rows c i k = true) : alikeB n rows c k i = true := by
  rw [alikeB_iff] at h ⊢
  exact ⟨h.1.symm, fun q hq => (h.2 q hq).symm⟩
theorem alikeB_trans {n : Nat} {c : List Int} {i j k : Nat} (h : alikeB n rows c i j = true) (h' : alikeB n rows c j k = true) : alikeB n rows c i k = true := by
  rw [alikeB_iff] at h h' ⊢
  exact ⟨h.1.trans h'.1, fun q hq => (h.2 q hq).trans (h'.2 q hq)⟩
theorem alikeB_refl {n : Nat} {c : List Int} {i : Nat} : alikeB n rows c i i = true := alikeB_iff.2 ⟨rfl, fun _ _ => rfl⟩
def splitB (n : Nat) (c d : List Int) : Prop := ∃ i k, i < n ∧ k < i ∧ nm c i = nm c k ∧ nm d i ≠ nm d k
structure DIn (n : Nat) (rows : List (List Int)) (c d : List Int) (N i cnt : Nat) : Prop where
  len : d.length = N
  rng : ∀ a, a < i → 0 ≤ nm d a ∧ nm d a < cnt
  eqv : ∀ a b, a < i → b < i → (nm d a = nm d b ↔ alikeB n rows c a b = true)
  cnt : cnt ≤ i
theorem DIn.old {n : Nat} {c d d' : List Int} {N i cnt k : Nat} (h : DIn n rows c d N i cnt) (hi : i < N) (hd : d'.length = N) (hlow : ∀ a, a < i → nm d' a = nm d a) (hk : k < i) (hki : nm d' i = nm d k) (ha : alikeB n rows c i k = true) : DIn n rows c d' N (i + 1) cnt := by
  have hv : ∀ a, a < i + 1 → ∃ b, b < i ∧ nm d' a = nm d b ∧ alikeB n rows c a b = true := fun a hai => by
    by_cases e : a = i
    · subst e; exact ⟨k, hk, hki, ha⟩
    · exact ⟨a, by omega, hlow a (by omega), alikeB_refl⟩
  refine ⟨hd, fun a hai => ?_, fun a b hai hbi => ?_, by have := h.cnt; omega⟩
  · obtain ⟨b, h1, h2, _⟩ := hv a hai
    rw [h2]; exact h.rng b h1
  · obtain ⟨a', h1, h2, h3⟩ := hv a hai
    obtain ⟨b', g1, g2, g3⟩ := hv b hbi
    rw [h2, g2, h.eqv a' b' h1 g1]
    exact ⟨fun e => alikeB_trans h3 (alikeB_trans e (alikeB_symm g3)), fun e => alikeB_trans (alikeB_symm h3) (alikeB_trans e g3)⟩
theorem DIn.new {n : Nat} {c d d' : List Int} {N i cnt : Nat} (h : DIn n rows c d N i cnt) (hi : i < N) (hd : d'.length = N) (hlow : ∀ a, a < i → nm d' a = nm d a) (hki : nm d' i = cnt) (ha : ∀ k, k < i → alikeB n rows c i k = false) : DIn n rows c d' N (i + 1) (cnt + 1) := by
  refine ⟨hd, fun a hai => ?_, fun a b hai hbi => ?_, by have := h.cnt; omega⟩
  · by_cases e : a = i
    · subst e; rw [hki]; omega
    · rw [hlow a (by omega)]; have := h.rng a (by omega); omega
  · by_cases e : a = i
    · by_cases e2 : b = i
      · rw [e, e2]; exact ⟨fun _ => alikeB_refl, fun _ => rfl⟩
      · rw [e, hki, hlow b (by omega)]
        have := h.rng b (by omega)
        exact ⟨fun e3 => by omega, fun e3 => by rw [ha b (by omega)] at e3; cases e3⟩
    · by_cases e2 : b = i
      · rw [e2, hki, hlow a (by omega)]
        have := h.rng a (by omega)
        exact ⟨fun e3 => by omega, fun e3 => by have := alikeB_symm e3; rw [ha a (by omega)] at this; cases this⟩
      · rw [hlow a (by omega), hlow b (by omega)]
        exact h.eqv a b (by omega) (by omega)
structure CIn (ps : List Int) (F : List Bool) (rows : List (List Int)) (c : List Int) : Prop where
  len : c.length = F.length
  fin : ∀ a b, a < F.length → b < F.length → nm c a = nm c b → bt F a = bt F b
  lan : ∀ a b : Nat, a < F.length → b < F.length → (∀ cs, acc (tabA ps F rows) a cs = acc (tabA ps F rows) b cs) → nm c a = nm c b
theorem CIn.next (t : TabOk ps F rows) {c d : List Int} {cnt : Nat} (h : CIn ps F rows c) (hd : DIn ps.length rows c d F.length F.length cnt) : CIn ps F rows d := by
  refine ⟨hd.len, fun a b ha hb e => h.fin a b ha hb (alikeB_iff.1 ((hd.eqv a b ha hb).1 e)).1, fun a b ha hb e => (hd.eqv a b ha hb).2 (alikeB_iff.2 ⟨h.lan a b ha hb e, fun q hq => h.lan _ _ (t.cell_lt ha hq).1 (t.cell_lt hb hq).1 fun cs => ?_⟩)⟩
  have := e (ps.getD q 0 :: cs)
  rwa [t.stepQ ha hq, t.stepQ hb hq] at this
structure ClsL (ps : List Int) (F : List Bool) (rows : List (List Int)) (d : List Int) : Prop where
  len : d.length = F.length
  rng : ∀ a, a < F.length → 0 ≤ nm d a ∧ nm d a < F.length
  eqv : ∀ a b : Nat, a < F.length → b < F.length → (nm d a = nm d b ↔ ∀ cs, acc (tabA ps F rows) a cs = acc (tabA ps F rows) b cs)
theorem CIn.done (t : TabOk ps F rows) {c d : List Int} {cnt : Nat} (h : CIn ps F rows c) (hd : DIn ps.length rows c d F.length F.length cnt) (hs : ¬ splitB F.length c d) : ClsL ps F rows d := by
  have h' := h.next t hd
  refine ⟨hd.len, fun a ha => by have := hd.rng a ha; have := hd.cnt; omega, fun a b ha hb => ⟨fun e cs => ?_, h'.lan a b ha hb⟩⟩
  have hcd : ∀ a b, a < F.length → b < F.length → nm c a = nm c b → nm d a = nm d b := fun a b ha hb e => by
    rcases Nat.lt_trichotomy a b with hlt | rfl | hlt
    · exact Classical.byContradiction fun hn => hs ⟨b, a, hb, hlt, e.symm, fun e2 => hn e2.symm⟩
    · rfl
    · exact Classical.byContradiction fun hn => hs ⟨a, b, ha, hlt, e, hn⟩
  induction cs generalizing a b with
  | nil => rw [tab_nil, tab_nil]; exact h'.fin a b ha hb e
  | cons x cs ih =>
    have hal := (alikeB_iff.1 ((hd.eqv a b ha hb).1 e)).2
    cases hx : okC x with
    | false =>
      have bad : ∀ i, i < F.length → acc (tabA ps F rows) i (x :: cs) = false := fun i hi => by
        rw [acc_cons, next_bad t.wf (by show (i : Int) < F.length; omega) hx]; exact acc_dead _ cs (by decide)
      rw [bad a ha, bad b hb]
    | true =>
      have hcr : 0 ≤ x ∧ x ≤ 1114111 := by simpa [okC] using hx
      obtain ⟨q, hq, h1, h2⟩ := pts_cover t.pts hcr
      rw [acc_cons, acc_cons, t.nextC ha hq h1 h2, t.nextC hb hq h1 h2]
      exact ih _ _ (t.cell_lt ha hq).1 (t.cell_lt hb hq).1 (hcd _ _ (t.cell_lt ha hq).1 (t.cell_lt hb hq).1 (hal q hq))
def cls1 (F : List Bool) : List Int := F.map fun b => if b then 1 else 0
theorem cls1_nm (F : List Bool) {a : Nat} (ha : a < F.length) : nm (cls1 F) a = if bt F a then 1 else 0 := by
  simp [nm, cls1, bt, List.getD, ha]
theorem cIn_init : CIn ps F rows (cls1 F) := by
  refine ⟨by simp [cls1], fun a b ha hb e => ?_, fun a b ha hb e => ?_⟩
  · rw [cls1_nm F ha, cls1_nm F hb] at e
    cases h1 : bt F a <;> cases h2 : bt F b <;> rw [h1, h2] at e <;> simp_all
  · have := e []
    rw [tab_nil, tab_nil] at this
    rw [cls1_nm F ha, cls1_nm F hb, this]
def prs (n : Nat) : List (Nat × Nat) := (List.range n).flatMap fun i => (List.range n).map fun k => (i, k)
def eqCnt (n : Nat) (c : List Int) : Nat := (prs n).countP fun p => nm c p.1 == nm c p.2
theorem countP_le' {α : Type} {p q : α → Bool} : ∀ {l : List α}, (∀ x ∈ l, p x = true → q x = true) → l.countP p ≤ l.countP q
  | [], _ => by simp
  | x :: l, h => by
    have h1 := h x (by simp)
    have h2 := countP_le' (l := l) fun y hy => h y (by simp [hy])
    rw [List.countP_cons, List.countP_cons]
    cases hp : p x with
    | false => simp; omega
    | true => rw [h1 hp]; simp; omega
theorem countP_lt' {α : Type} {p q : α → Bool} : ∀ {l : List α}, (∀ x ∈ l, p x = true → q x = true) → (∃ x ∈ l, p x = false ∧ q x = true) → l.countP p < l.countP q
  | [], _, ⟨x, hx, _⟩ => by simp at hx
  | x :: l, h, ⟨y, hy, h1, h2⟩ => by
    have g1 := h x (by simp)
    have g2 := countP_le' (l := l) fun y hy => h y (by simp [hy])
    rw [List.countP_cons, List.countP_cons]
    rcases List.mem_cons.1 hy with rfl | hy
    · rw [h1, h2]; simp; omega
    · have g3 := countP_lt' (l := l) (fun y hy => h y (by simp [hy])) ⟨y, hy, h1, h2⟩
      cases hp : p x with
      | false => simp; omega
      | true => rw [g1 hp]; simp; omega
theorem split_lt {c d : List Int} {n N cnt : Nat} (hd : DIn n rows c d N N cnt) (hs : splitB N c d) : eqCnt N d < eqCnt N c := by
  obtain ⟨i, k, hi, hk, h1, h2⟩ := hs
  have mem : ∀ p : Nat × Nat, p ∈ prs N ↔ p.1 < N ∧ p.2 < N := fun ⟨a, b⟩ => by
    simp [prs]
  refine countP_lt' (fun p hp e => ?_) ⟨(i, k), (mem _).2 ⟨hi, by show k < N; omega⟩, by simpa using h2, by simpa using h1⟩
  have hm := (mem p).1 hp
  rw [beq_iff_eq] at e ⊢
  exact (alikeB_iff.1 ((hd.eqv p.1 p.2 hm.1 hm.2).1 e)).1
def keepE (d : List Int) (lv : List Bool) (x : Arc3) : Option Arc3 := if bt lv x.2.2.toNat then some (x.1, x.2.1, nm d x.2.2.toNat) else none
def rawE (ps : List Int) (rows : List (List Int)) (d : List Int) (lv : List Bool) (s : Nat) : List Arc3 := (rawL ps (rows.getD s [])).filterMap (keepE d lv)
def clsL (d : List Int) (lv : List Bool) : List Int := (List.range d.length).map fun q => if bt lv q then nm d q else -1
theorem clsL_get (d : List Int) (lv : List Bool) {q : Nat} (hq : q < d.length) : (clsL d lv).getD q (-1) = if bt lv q then nm d q else -1 := by
  simp [clsL, List.getD, hq]
theorem keepE_find (d : List Int) (lv : List Bool) : ∀ {l : List Arc3} {p : Option Arc3}, AscA p l → (∀ x ∈ l, 0 ≤ x.2.2) → ∀ c, findA (l.filterMap (keepE d lv)) c = match findA l c with
    | some t => if bt lv t.toNat then some (nm d t.toNat) else none
    | none => none
  | [], _, _, _, c => rfl
  | x :: l, p, h, h0, c => by
    have ih := keepE_find d lv h.2.2 (fun y hy => h0 y (by simp [hy])) c
    rw [findA_cons]
    by_cases hh : hitA c x = true
    · rw [if_pos hh]
      have hlow := ascA_low h.2.2 ((hitA_iff _ _).1 hh).2
      rw [hlow] at ih
      rw [List.filterMap_cons]
      have hk : keepE d lv x = if bt lv x.2.2.toNat = true then some (x.1, x.2.1, nm d x.2.2.toNat) else none := rfl
      have hh2 : hitA c (x.1, x.2.1, nm d x.2.2.toNat) = true := (hitA_iff _ _).2 ((hitA_iff _ _).1 hh)
      by_cases hb : bt lv x.2.2.toNat = true
      · rw [hk, if_pos hb]
        simp only
        rw [findA_cons, if_pos hh2, if_pos hb]
      · rw [hk, if_neg hb]
        simp only
        rw [ih, if_neg hb]
    · rw [if_neg hh, ← ih, List.filterMap_cons]
      have hk : keepE d lv x = if bt lv x.2.2.toNat = true then some (x.1, x.2.1, nm d x.2.2.toNat) else none := rfl
      have hh2 : ¬ hitA c (x.1, x.2.1, nm d x.2.2.toNat) = true := fun h' => hh ((hitA_iff _ _).2 ((hitA_iff _ _).1 h'))
      by_cases hb : bt lv x.2.2.toNat = true
      · rw [hk, if_pos hb]
        simp only
        rw [findA_cons, if_neg hh2]
      · rw [hk, if_neg hb]
theorem keepE_mem {d : List Int} {lv : List Bool} {l : List Arc3} {y : Arc3} (h : y ∈ l.filterMap (keepE d lv)) : ∃ x ∈ l, bt lv x.2.2.toNat = true ∧ y = (x.1, x.2.1, nm d x.2.2.toNat) := by
  obtain ⟨x, hx, e⟩ := List.mem_filterMap.1 h
  unfold keepE at e
  split at e
  · rename_i hb; cases e; exact ⟨x, hx, hb, rfl⟩
  · cases e
theorem ascA_weak : ∀ {l : List Arc3} {p : Option Arc3} {b : Int}, AscA p l → (∀ x ∈ l, b < x.1) → ∀ q : Arc3, q.2.1 = b → AscA (some q) l
  | [], _, _, _, _, _, _ => trivial
  | x :: l, p, b, h, hb, q, hq => ⟨h.1, fun q' hq' => by cases hq'; rw [hq]; exact hb x (by simp), h.2.2⟩
theorem ascA_gt : ∀ {l : List Arc3} {p : Arc3}, AscA (some p) l → ∀ x ∈ l, p.2.1 < x.1
  | [], _, _, x, hx => by simp at hx
  | y :: l, p, h, x, hx => by
    rcases List.mem_cons.1 hx with rfl | hx
    · exact h.2.1 p rfl
    · have h1 := h.2.1 p rfl
      have h2 := ascA_gt h.2.2 x hx
      have := h.1; omega
theorem keepE_asc (d : List Int) (lv : List Bool) : ∀ {l : List Arc3} {p : Option Arc3}, AscA p l → AscA p (l.filterMap (keepE d lv))
  | [], _, _ => trivial
  | x :: l, p, h => by
    have ih := keepE_asc d lv h.2.2
    rw [List.filterMap_cons]
    cases hk : keepE d lv x with
    | none =>
      simp only
      cases p with
      | none =>
        generalize hL : l.filterMap (keepE d lv) = L at ih
        cases L with
        | nil => trivial
        | cons y L => exact ⟨ih.1, (fun q hq => by cases hq), ih.2.2⟩
      | some q => exact ascA_weak ih (fun y hy => by have h1 := ascA_gt ih y hy; have h2 := h.2.1 q rfl; have := h.1; omega) q rfl
    | some y =>
      unfold keepE at hk
      split at hk
      · cases hk
        refine ⟨h.1, h.2.1, ?_⟩
        exact ascA_weak ih (fun z hz => ascA_gt ih z hz) _ rfl
      · cases hk
theorem fmap_congr {α β : Type} {f g : α → Option β} : ∀ {l : List α}, (∀ x ∈ l, f x = g x) → l.filterMap f = l.filterMap g
  | [], _ => rfl
  | x :: l, h => by
    rw [List.filterMap_cons, List.filterMap_cons, h x (by simp), fmap_congr fun y hy => h y (by simp [hy])]
theorem getD_of {α : Type} {l : List α} {i : Nat} {d : α} (h : i < l.length) : l[i]? = some (l.getD i d) := by simp [List.getD, h]
def repI (d : List Int) (k : Int) : Nat := d.idxOf k
theorem repI_ok {d : List Int} {k : Int} {q : Nat} (hq : q < d.length) (h : nm d q = k) : repI d k < d.length ∧ nm d (repI d k) = k := by
  have hm : k ∈ d := List.mem_of_getElem? (show d[q]? = some k by rw [← h]; exact getD_of hq)
  exact ⟨List.idxOf_lt_length_of_mem hm, by unfold nm repI; simp [List.getD, getElem?_idxOf hm]⟩
theorem rawE_same (t : TabOk ps F rows) {d : List Int} {lv : List Bool} (hd : ClsL ps F rows d) (hl : LiveL ps F rows lv) {s s' : Nat} (hs : s < F.length) (hs' : s' < F.length) (e : nm d s = nm d s') : rawE ps rows d lv s = rawE ps rows d lv s' := by
  unfold rawE rawL
  rw [List.filterMap_map, List.filterMap_map]
  refine fmap_congr fun q hq => ?_
  have hq' : q < ps.length := by simpa using hq
  have hc := t.cell_lt hs hq'
  have hc' := t.cell_lt hs' hq'
  have he := (hd.eqv s s' hs hs').1 e
  have hn : ∀ cs, acc (tabA ps F rows) (cel rows s q) cs = acc (tabA ps F rows) (cel rows s' q) cs := fun cs => by
    have := he (ps.getD q 0 :: cs)
    rwa [t.stepQ hs hq', t.stepQ hs' hq'] at this
  have hnm := (hd.eqv _ _ hc.1 hc'.1).2 hn
  have hlv : bt lv (cel rows s q) = bt lv (cel rows s' q) := by
    rw [Bool.eq_iff_iff, hl.2 _ hc.1, hl.2 _ hc'.1]
    unfold Live
    simp only [hn]
  show keepE d lv (ps.getD q 0, endZ ps q, (rows.getD s []).getD q 0) = keepE d lv (ps.getD q 0, endZ ps q, (rows.getD s' []).getD q 0)
  unfold keepE
  simp only [hc.2, hc'.2, Int.toNat_natCast, hnm, hlv]
theorem tab_cls (t : TabOk ps F rows) {d : List Int} {lv : List Bool} (hd : ClsL ps F rows d) (hl : LiveL ps F rows lv) : Cls (tabA ps F rows) (clsL d lv) := by
  have g : ∀ q, q < F.length → (clsL d lv).getD q (-1) = if bt lv q then nm d q else -1 := fun q hq => clsL_get d lv (by rw [hd.len]; exact hq)
  refine ⟨by show (clsL d lv).length = F.length; simp [clsL, hd.len], fun q hq => ?_, fun q hq => ?_, fun q q' hq hq' h h' => ?_⟩
  · have hq : q < F.length := hq
    rw [g q hq, ← hl.2 q hq]
    have := hd.rng q hq
    cases bt lv q with
    | true => simp; omega
    | false => simp
  · have hq : q < F.length := hq
    rw [g q hq]
    have := hd.rng q hq
    show -1 ≤ _ ∧ _ < (F.length : Int)
    split <;> omega
  · have hq : q < F.length := hq
    have hq' : q' < F.length := hq'
    rw [g q hq, g q' hq', (hl.2 q hq).2 h, (hl.2 q' hq').2 h', if_pos rfl, if_pos rfl]
    exact hd.eqv q q' hq hq'
theorem tab_min (t : TabOk ps F rows) {d : List Int} {lv : List Bool} (hd : ClsL ps F rows d) (hl : LiveL ps F rows lv) : MinG (tabA ps F rows) (clsL d lv) (repI d) (fun k => rawE ps rows d lv (repI d k)) := by
  have g : ∀ q, q < F.length → (clsL d lv).getD q (-1) = if bt lv q then nm d q else -1 := fun q hq => clsL_get d lv (by rw [hd.len]; exact hq)
  have hrep : ∀ k : Int, minD (tabA ps F rows) (clsL d lv) k → repI d k < F.length ∧ nm d (repI d k) = k ∧ bt lv (repI d k) = true := fun k ⟨hk, q, hq, e⟩ => by
    have hq : q < F.length := hq
    rw [g q hq] at e
    have hbq : bt lv q = true := by
      cases hb : bt lv q with
      | true => rfl
      | false => rw [hb] at e; simp at e; omega
    rw [hbq, if_pos rfl] at e
    obtain ⟨r1, r2⟩ := repI_ok (d := d) (q := q) (by rw [hd.len]; exact hq) e
    rw [hd.len] at r1
    refine ⟨r1, r2, ?_⟩
    obtain ⟨cs, hcs⟩ := (hl.2 q hq).1 hbq
    exact (hl.2 _ r1).2 ⟨cs, by rw [(hd.eqv _ q r1 hq).1 (r2.trans e.symm)]; exact hcs⟩
  have hrow : ∀ s, s < F.length → ∃ r, rows.getD s [] = r ∧ r ∈ rows ∧ (tabA ps F rows).arcs.getD s [] = foldA (rawL ps r) := fun s hs => by
    obtain ⟨r, hr, _, _, h4⟩ := t.get hs
    exact ⟨r, by simp [List.getD, hr], List.mem_of_getElem? hr, by simp [List.getD, h4]⟩
  have htgt : ∀ r ∈ rows, ∀ x ∈ rawL ps r, 0 ≤ x.2.2 ∧ x.2.2 < F.length := fun r hr x hx => by
    obtain ⟨q, hq, e⟩ := rawL_tgt x hx
    rw [e]; exact t.cell hr hq
  refine ⟨t.wf, tab_cls t hd hl, fun k hk => ?_, fun k hk => ?_, fun k hk c => ?_, fun k hk y hy => ?_⟩
  · obtain ⟨r1, r2, r3⟩ := hrep k hk
    exact ⟨r1, by rw [g _ r1, r3, if_pos rfl]; exact r2⟩
  · obtain ⟨r1, r2, r3⟩ := hrep k hk
    refine ⟨keepE_asc d lv (raw_asc t.pts _), fun y hy => ?_⟩
    obtain ⟨x, hx, _, rfl⟩ := keepE_mem hy
    exact raw_in t.pts _ x hx
  · obtain ⟨r1, r2, r3⟩ := hrep k hk
    obtain ⟨r, e1, e2, e3⟩ := hrow _ r1
    show findA ((rawL ps (rows.getD (repI d k) [])).filterMap (keepE d lv)) c = _
    rw [e1, e3, keepE_find d lv (raw_asc t.pts r) (fun x hx => (htgt r e2 x hx).1) c, (foldA_ok (raw_asc t.pts r) fun x hx => (raw_in t.pts r x hx).1).2 c]
    cases hf : findA (rawL ps r) c with
    | none => rfl
    | some tt =>
      obtain ⟨x, hx, rfl⟩ := findA_mem hf
      have hx2 := htgt r e2 x hx
      have hn := hd.rng x.2.2.toNat (by omega)
      simp only [clsAt]
      rw [g _ (by omega)]
      cases bt lv x.2.2.toNat with
      | true => simp only [if_true]; rw [if_neg (by omega)]
      | false => simp
  · obtain ⟨r1, r2, r3⟩ := hrep k hk
    obtain ⟨r, e1, e2, e3⟩ := hrow _ r1
    have hy' : y ∈ (rawL ps (rows.getD (repI d k) [])).filterMap (keepE d lv) := hy
    rw [e1] at hy'
    obtain ⟨x, hx, hb, rfl⟩ := keepE_mem hy'
    have hx2 := htgt r e2 x hx
    have hn := hd.rng x.2.2.toNat (by omega)
    exact ⟨hn.1, x.2.2.toNat, by show _ < F.length; omega, by rw [g _ (by omega), hb, if_pos rfl]⟩
end
end Go.Proofs.YtlipmjpapkfaeaaGreatDoor.Fn
end
section
set_option linter.unusedSimpArgs false
set_option linter.unusedVariables false
set_option maxRecDepth 100000
namespace Go.Proofs.YtlipmjpapkfaeaaGreatDoor.Fn
open Go Go.Mach Go.RowKit Go.Proofs
attribute [local irreducible] AOps WPX DOps thenS blockS AOp GOps CPick
theorem TabV.rd {W : World} {h : AHeap} {pv fv nv : Value} {vs : List Value} {ps : List Int} {F : List Bool} {rows : List (List Int)} (t : TabV W h pv fv nv vs ps F rows) (ok : TabOk ps F rows) {i : Nat} (hi : i < F.length) :
    ∃ x da, idxV 1 nv (.int .i64 i) = some (.pointer (some da)) ∧ Rd W h da x ∧ (∃ xa xc, x = .slice xa ps.length xc) ∧ ∀ q, q < ps.length → ∃ db, idxV 1 x (.int .i64 q) = some (.pointer (some db)) ∧ Rd W h db (.int .i64 (cel rows i q : Nat)) := by
  obtain ⟨r, hr, hrl, _, _⟩ := ok.get hi
  have hil : i < vs.length := by rw [t.nxt.len, ok.len]; exact hi
  obtain ⟨x, hx⟩ : ∃ x, vs[i]? = some x := ⟨_, List.getElem?_eq_getElem hil⟩
  obtain ⟨da, h1, h2⟩ := Sl.one (f := hdrV) t.nxt.out hx (u := x) rfl
  have hs := t.nxt.inner i x r hx hr
  obtain ⟨xa, xc, e⟩ := hs.len
  rw [List.length_map, hrl] at e
  refine ⟨x, da, h1, h2, ⟨xa, xc, e⟩, fun q hq => ?_⟩
  have hq' : q < r.length := by rw [hrl]; exact hq
  have hv : r[q]? = some (cel rows i q : Int) := by
    have := (ok.cell_lt hi hq).2
    have e1 : rows.getD i [] = r := by simp [List.getD, hr]
    rw [e1] at this
    rw [← this]; exact getD_of hq'
  obtain ⟨db, g1, g2⟩ := Sl.one (f := numV) hs hv (u := .int .i64 (cel rows i q : Nat)) rfl
  exact ⟨db, g1, g2⟩
theorem cls_rd {W : World} {h : AHeap} {cv : Value} {c : List Int} (hc : Sl W h 1 cv (c.map numV)) {i : Nat} (hi : i < c.length) : ∃ da, idxV 1 cv (.int .i64 i) = some (.pointer (some da)) ∧ Rd W h da (.int .i64 (nm c i)) := by
  obtain ⟨da, h1, h2⟩ := Sl.one (f := numV) hc (getD_of (d := -1) hi) (u := .int .i64 (nm c i)) rfl
  exact ⟨da, h1, h2⟩
set_option maxHeartbeats 4000000 in
theorem f115_ok (W : World) (h : AHeap) (pv fv nv : Value) (vs : List Value) (ps : List Int) (F : List Bool) (rows : List (List Int)) (cv : Value) (c : List Int) (i k : Nat) (t : TabV W h pv fv nv vs ps F rows) (ok : TabOk ps F rows)
    (hc : Sl W h 1 cv (c.map numV)) (hcl : c.length = F.length) (hi : i < F.length) (hk : k < F.length) (hpl : ps.length < 1073741824) :
    ACalls Tryz.prog W 115 [.agg #[pv, fv, nv], cv, .int .i64 i, .int .i64 k] h (fun r h' => r = .bool (alikeB ps.length rows c i k) ∧ Keeps h h') := by
  refine ACalls_ofX hmix c115 (Nat.le_of_ble_eq_true rfl) ?_
  unfold r115
  dsimp only [Rc.t, Rc.u, Rc.v, Rc.o, Rc.i, Rc.p, Rc.q, Rc.s, Rc.b, Rc.k, Rc.g, Rc.S, Rc.D]
  simp only [envOf4]
  have hk1 : Keeps h (h.new (.cells [pv, fv, nv])) := (Keeps.refl h).new _
  have t1 := t.keeps hk1
  have c1 := hc.keeps hk1
  obtain ⟨pa, pc, hpe⟩ := t.pts.len
  obtain ⟨fa, fc, hfe⟩ := t.fin.len
  obtain ⟨na, nc, hne⟩ := t.nxt.out.len
  rw [List.length_map] at hpe hfe hne
  obtain ⟨nf, hnf⟩ : ∃ nf, nf = F.length := ⟨_, rfl⟩
  obtain ⟨nn, hnn⟩ : ∃ nn, nn = vs.length := ⟨_, rfl⟩
  rw [← hnf] at hfe
  rw [← hnn] at hne
  obtain ⟨np, hnp⟩ : ∃ np, np = ps.length := ⟨_, rfl⟩
  rw [← hnp] at hpe hpl ⊢
  obtain ⟨di, hdi, hri, _⟩ := cls_rd c1 (show i < c.length by omega)
  obtain ⟨dk, hdk, hrk, _⟩ := cls_rd c1 (show k < c.length by omega)
  obtain ⟨x, dx, hdx, ⟨hrx, _⟩, _, hx⟩ := t1.rd ok hi
  obtain ⟨y, dy, hdy, ⟨hry, _⟩, _, hy⟩ := t1.rd ok hk
  have hcx : ∀ q, q < np → cel rows i q < c.length := fun q hq => by rw [hcl]; exact (ok.cell_lt hi (by omega)).1
  have hcy : ∀ q, q < np → cel rows k q < c.length := fun q hq => by rw [hcl]; exact (ok.cell_lt hk (by omega)).1
  rw [← hnp] at hx hy
  subst hpe hfe hne
  clear hnp hnf hnn t hc t1 hi hk ok hcl
  by_cases hik : nm c i = nm c k
  · have hik' : Hid (nm c i = nm c k) := hik
    have hne : (nm c i != nm c k) = false := by simp [hik]
    obtain ⟨ci, hci⟩ : ∃ ci, ci = nm c i := ⟨_, rfl⟩
    obtain ⟨ck, hck⟩ : ∃ ck, ck = nm c k := ⟨_, rfl⟩
    rw [← hci] at hri hne
    rw [← hck] at hrk hne
    have hne' : decide (ci = ck) = true := decide_eq_true (by rw [hci, hck]; exact hik)
    clear hci hck hik hne
    repeat refine zs ?_
    refine WPX.loop hmix (fun K σ => ∃ q : Nat, q ≤ np ∧ K = np - q ∧ eget σ.e 1 = cv ∧ eget σ.e 2 = .int .i64 i ∧ eget σ.e 3 = .int .i64 k ∧ eget σ.e 4 = .pointer (some ⟨h.next, 0, some 0⟩) ∧ eget σ.e 21 = .int .i64 np ∧ eget σ.e 22 = .int .i64 (q : Nat) ∧
      σ.h = h.new (.cells [.slice pa np pc, .slice fa nf fc, .slice na nn nc]) ∧ Hid (∀ q', q' < q → nm c (cel rows i q') = nm c (cel rows k q'))) np ?h0 ?round
    case h0 => exact ⟨0, Nat.zero_le _, rfl, zv, zv, zv, zv, zv, zv, rfl, fun q hq => absurd hq (Nat.not_lt_zero q)⟩
    rintro K ⟨e, g⟩ ⟨q, hq, rfl, e1, e2, e3, e4, e21, e22, hg, hall⟩
    dsimp only at e1 e2 e3 e4 e21 e22 hg
    subst hg
    by_cases hlt : q < np
    · have hltI : (q : Int) < np := by omega
      have hwq : IntKind.i64.wrap ((q : Int) + 1) = ((q + 1 : Nat) : Int) := wrap_i64 (by omega) (by omega)
      obtain ⟨dxq, hdxq, hrxq, _⟩ := hx q hlt
      obtain ⟨dyq, hdyq, hryq, _⟩ := hy q hlt
      obtain ⟨d1, hd1, hr1, _⟩ := cls_rd c1 (hcx q hlt)
      obtain ⟨d2, hd2, hr2, _⟩ := cls_rd c1 (hcy q hlt)
      by_cases he : nm c (cel rows i q) = nm c (cel rows k q)
      · have hall' : Hid (∀ q', q' < q + 1 → nm c (cel rows i q') = nm c (cel rows k q')) := fun q' hq' => by
          rcases Nat.lt_or_ge q' q with h1 | h1
          · exact hall.out q' h1
          · obtain rfl : q' = q := by omega
            exact he
        obtain ⟨u1, hu1⟩ : ∃ u, u = nm c (cel rows i q) := ⟨_, rfl⟩
        obtain ⟨u2, hu2⟩ : ∃ u, u = nm c (cel rows k q) := ⟨_, rfl⟩
        rw [← hu1] at hr1
        rw [← hu2] at hr2
        have hne2 : decide (u1 = u2) = true := decide_eq_true (by rw [hu1, hu2]; exact he)
        clear hx hy hcx hcy he hall hu1 hu2
        repeat refine zs ?_
        exact ⟨np - (q + 1), by omega, q + 1, by omega, rfl, zv, zv, zv, zv, zv, zv, rfl, hall'⟩
      · have hF : alikeB np rows c i k = false := by
          cases hh : alikeB np rows c i k with
          | false => rfl
          | true => exact absurd ((alikeB_iff.1 hh).2 q hlt) he
        rw [hF]
        obtain ⟨u1, hu1⟩ : ∃ u, u = nm c (cel rows i q) := ⟨_, rfl⟩
        obtain ⟨u2, hu2⟩ : ∃ u, u = nm c (cel rows k q) := ⟨_, rfl⟩
        rw [← hu1] at hr1
        rw [← hu2] at hr2
        have hne2 : decide (u1 = u2) = false := decide_eq_false (by rw [hu1, hu2]; exact he)
        clear hx hy hcx hcy he hall hu1 hu2 hF
        repeat refine zs ?_
        refine ⟨.inr rfl, _, rfl, ?_, hk1⟩
        simp only [resOf, rop, opd, celsL, oneV, aadd, binV, isSh, intBin, scEq, keq, unV, fillL, oP, oA, oS, wantedA, BX, BL, BS, seval, *]
    · have hltI : ¬ (q : Int) < np := by omega
      have hT : alikeB np rows c i k = true := alikeB_iff.2 ⟨hik'.out, fun q' hq' => hall.out q' (by omega)⟩
      rw [hT]
      clear hx hy hcx hcy hall hT
      repeat refine zs ?_
      refine ⟨.inr rfl, _, rfl, ?_, hk1⟩
      simp only [resOf, rop, opd, celsL, oneV, aadd, binV, isSh, intBin, scEq, keq, unV, fillL, oP, oA, oS, wantedA, BX, BL, BS, seval, *]
  · have hF : alikeB np rows c i k = false := by
      cases hh : alikeB np rows c i k with
      | false => rfl
      | true => exact absurd (alikeB_iff.1 hh).1 hik
    rw [hF]
    obtain ⟨ci, hci⟩ : ∃ ci, ci = nm c i := ⟨_, rfl⟩
    obtain ⟨ck, hck⟩ : ∃ ck, ck = nm c k := ⟨_, rfl⟩
    rw [← hci] at hri
    rw [← hck] at hrk
    have hne' : decide (ci = ck) = false := decide_eq_false (by rw [hci, hck]; exact hik)
    clear hci hck hik hx hy hcx hcy hF
    repeat refine zs ?_
    refine ⟨.inr rfl, _, rfl, ?_, hk1⟩
    simp only [resOf, rop, opd, celsL, oneV, aadd, binV, isSh, intBin, scEq, keq, unV, fillL, oP, oA, oS, wantedA, BX, BL, BS, seval, *]
set_option maxHeartbeats 4000000 in
theorem f116_ok (W : World) (h : AHeap) (tv : Value) (htv : ∃ a n c a2 n2 c2 a3 n3 c3, tv = .agg #[.slice a n c, .slice a2 n2 c2, .slice a3 n3 c3]) (cv dv : Value) (c d : List Int) (n : Nat) (hc : Sl W h 1 cv (c.map numV)) (hd : Sl W h 1 dv (d.map numV)) (hcl : c.length = n) (hdl : d.length = n) (hn : n < 1073741824) :
    ACalls Tryz.prog W 116 [tv, cv, dv] h (fun r h' => (∃ b, r = .bool b ∧ (b = true ↔ splitB n c d)) ∧ Keeps h h') := by
  refine ACalls_ofX hmix c116 (Nat.le_of_ble_eq_true rfl) ?_
  unfold r116
  dsimp only [Rc.t, Rc.u, Rc.v, Rc.o, Rc.i, Rc.p, Rc.q, Rc.s, Rc.b, Rc.k, Rc.g, Rc.S, Rc.D]
  simp only [envOf3]
  obtain ⟨ta, tb, tc, ta2, tb2, tc2, ta3, tb3, tc3, rfl⟩ := htv
  have hk1 : Keeps h (h.new (.cells [.slice ta tb tc, .slice ta2 tb2 tc2, .slice ta3 tb3 tc3])) := (Keeps.refl h).new _
  have c1 := hc.keeps hk1
  have d1 := hd.keeps hk1
  obtain ⟨ca, cc, hce⟩ := hc.len
  rw [List.length_map, hcl] at hce
  subst hce
  clear hc hd
  repeat refine zs ?_
  refine WPX.loop hmix (fun K σ => ∃ i : Nat, i ≤ n ∧ K = n - i ∧ eget σ.e 1 = .slice ca n cc ∧ eget σ.e 2 = dv ∧ eget σ.e 10 = .int .i64 n ∧ eget σ.e 11 = .int .i64 (i : Nat) ∧
    σ.h = h.new (.cells [.slice ta tb tc, .slice ta2 tb2 tc2, .slice ta3 tb3 tc3]) ∧ Hid (∀ i' k', i' < i → k' < i' → nm c i' = nm c k' → nm d i' = nm d k')) n ?h0 ?round
  case h0 => exact ⟨0, Nat.zero_le _, rfl, zv, zv, zv, zv, rfl, fun q k hq => absurd hq (Nat.not_lt_zero q)⟩
  rintro K ⟨e, g⟩ ⟨i, hi, rfl, e1, e2, e10, e11, hg, hall⟩
  dsimp only at e1 e2 e10 e11 hg
  subst hg
  by_cases hlt : i < n
  · have hltI : (i : Int) < n := by omega
    have hwi : IntKind.i64.wrap ((i : Int) + 1) = ((i + 1 : Nat) : Int) := wrap_i64 (by omega) (by omega)
    obtain ⟨dc, hdc, hrc, _⟩ := cls_rd c1 (show i < c.length by omega)
    obtain ⟨dd, hdd, hrd, _⟩ := cls_rd d1 (show i < d.length by omega)
    repeat refine zs ?_
    refine WPX.loop hmix (fun K σ => ∃ k : Nat, k ≤ i ∧ K = i - k ∧ eget σ.e 1 = .slice ca n cc ∧ eget σ.e 2 = dv ∧ eget σ.e 10 = .int .i64 n ∧ eget σ.e 11 = .int .i64 (i : Nat) ∧ eget σ.e 7 = .int .i64 (i : Nat) ∧ eget σ.e 8 = .int .i64 (k : Nat) ∧
      σ.h = h.new (.cells [.slice ta tb tc, .slice ta2 tb2 tc2, .slice ta3 tb3 tc3]) ∧ Hid (∀ k', k' < k → nm c i = nm c k' → nm d i = nm d k')) i ?h1 ?round1
    case h1 => exact ⟨0, Nat.zero_le _, rfl, zv, zv, zv, zv, zv, zv, rfl, fun q hq => absurd hq (Nat.not_lt_zero q)⟩
    clear e1 e2 e10 e11
    rintro K ⟨e, g⟩ ⟨k, hk, rfl, e1, e2, e10, e11, e7, e8, hg, hin⟩
    dsimp only at e1 e2 e10 e11 e7 e8 hg
    subst hg
    by_cases hki : k < i
    · have hkiI : (k : Int) < i := by omega
      have hwk : IntKind.i64.wrap ((k : Int) + 1) = ((k + 1 : Nat) : Int) := wrap_i64 (by omega) (by omega)
      obtain ⟨dc2, hdc2, hrc2, _⟩ := cls_rd c1 (show k < c.length by omega)
      obtain ⟨dd2, hdd2, hrd2, _⟩ := cls_rd d1 (show k < d.length by omega)
      have key : ∀ b1 b2 : Bool, decide (nm c i = nm c k) = b1 → decide (nm d i = nm d k) = b2 → ((b1 = true ∧ b2 = false) ∨ (b1 = false ∨ b2 = true)) := fun b1 b2 _ _ => by cases b1 <;> cases b2 <;> simp
      obtain ⟨b1, hb1⟩ : ∃ b, decide (nm c i = nm c k) = b := ⟨_, rfl⟩
      obtain ⟨b2, hb2⟩ : ∃ b, decide (nm d i = nm d k) = b := ⟨_, rfl⟩
      have hstep : (b1 = false ∨ b2 = true) → Hid (∀ k', k' < k + 1 → nm c i = nm c k' → nm d i = nm d k') := fun hb k' hk' e => by
        rcases Nat.lt_or_ge k' k with h1 | h1
        · exact hin.out k' h1 e
        · obtain rfl : k' = k := by omega
          rcases hb with rfl | rfl
          · exact absurd e (of_decide_eq_false hb1)
          · exact of_decide_eq_true hb2
      have hsp : b1 = true ∧ b2 = false → splitB n c d := fun ⟨h1, h2⟩ => ⟨i, k, hlt, hki, of_decide_eq_true (hb1.trans h1), of_decide_eq_false (hb2.trans h2)⟩
      clear key
      cases b1 with
      | false =>
        have hs := hstep (.inl rfl)
        clear hstep hsp hall hin
        repeat refine zs ?_
        exact ⟨i - (k + 1), by omega, k + 1, by omega, rfl, zv, zv, zv, zv, zv, zv, rfl, hs⟩
      | true =>
        cases b2 with
        | true =>
          have hs := hstep (.inr rfl)
          clear hstep hsp hall hin
          repeat refine zs ?_
          exact ⟨i - (k + 1), by omega, k + 1, by omega, rfl, zv, zv, zv, zv, zv, zv, rfl, hs⟩
        | false =>
          have hs := hsp ⟨rfl, rfl⟩
          clear hstep hsp hall hin
          repeat refine zs ?_
          refine ⟨.inr rfl, _, rfl, ⟨true, ?_, fun _ => hs, fun _ => rfl⟩, hk1⟩
          simp only [resOf, rop, opd, celsL, oneV, aadd, binV, isSh, intBin, scEq, keq, unV, fillL, oP, oA, oS, wantedA, BX, BL, BS, seval, *]
    · have hkiI : ¬ (k : Int) < i := by omega
      have hall' : Hid (∀ i' k', i' < i + 1 → k' < i' → nm c i' = nm c k' → nm d i' = nm d k') := fun i' k' h1 h2 e => by
        rcases Nat.lt_or_ge i' i with h3 | h3
        · exact hall.out i' k' h3 h2 e
        · obtain rfl : i' = i := by omega
          exact hin.out k' (by omega) e
      clear hall hin
      repeat refine zs ?_
      exact ⟨n - (i + 1), by omega, i + 1, by omega, rfl, zv, zv, zv, zv, rfl, hall'⟩
  · have hltI : ¬ (i : Int) < n := by omega
    have hno : ¬ splitB n c d := fun ⟨i', k', h1, h2, h3, h4⟩ => h4 (hall.out i' k' (by omega) h2 h3)
    clear hall
    repeat refine zs ?_
    refine ⟨.inr rfl, _, rfl, ⟨false, ?_, (fun h => by cases h), fun h => absurd h hno⟩, hk1⟩
    simp only [resOf, rop, opd, celsL, oneV, aadd, binV, isSh, intBin, scEq, keq, unV, fillL, oP, oA, oS, wantedA, BX, BL, BS, seval, *]
end Go.Proofs.YtlipmjpapkfaeaaGreatDoor.Fn
end
section
set_option linter.unusedSimpArgs false
set_option linter.unusedVariables false
set_option maxRecDepth 100000
namespace Go.Proofs.YtlipmjpapkfaeaaGreatDoor.Fn
open Go Go.Mach Go.RowKit Go.Proofs
attribute [local irreducible] AOps WPX DOps thenS blockS AOp GOps CPick
theorem Ow.rd1 {h : AHeap} {b : Nat} {l : List Int} (o : Ow h b 1 (l.map numV)) {i : Nat} (hi : i < l.length) : ∃ C, h.own.get b = some (.cells C) ∧ C[i * 1]? = some (.int .i64 (nm l i)) :=
  o.get1 (f := numV) (getD_of (d := -1) hi) rfl
structure C1 (F : List Bool) (i : Nat) (cl : List Int) : Prop where
  len : cl.length = F.length
  v : ∀ q, q < F.length → nm cl q = if q < i ∧ bt F q = true then 1 else 0
theorem C1.set {F : List Bool} {i : Nat} {cl : List Int} (h : C1 F i cl) (hi : i < F.length) (hb : bt F i = true) : C1 F (i + 1) (cl.set i 1) := by
  refine ⟨by rw [List.length_set]; exact h.len, fun q hq => ?_⟩
  rw [nm_set (by rw [h.len]; exact hi)]
  by_cases e : q = i
  · subst e; rw [if_pos rfl, if_pos ⟨by omega, hb⟩]
  · rw [if_neg e, h.v q hq]
    by_cases h1 : q < i
    · simp [h1, show q < i + 1 by omega]
    · simp [h1, show ¬ q < i + 1 by omega]
theorem C1.keep {F : List Bool} {i : Nat} {cl : List Int} (h : C1 F i cl) (hb : bt F i = false) : C1 F (i + 1) cl := by
  refine ⟨h.len, fun q hq => ?_⟩
  rw [h.v q hq]
  by_cases e : q = i
  · subst e; simp [hb]
  · by_cases h1 : q < i
    · simp [h1, show q < i + 1 by omega]
    · simp [h1, show ¬ q < i + 1 by omega]
theorem C1.done {ps : List Int} {F : List Bool} {rows : List (List Int)} {cl : List Int} (h : C1 F F.length cl) : CIn ps F rows cl := by
  have e : cl = cls1 F := by
    refine List.ext_getElem? fun q => ?_
    by_cases hq : q < F.length
    · have h1 := h.v q hq
      have h2 := cls1_nm F hq
      rw [getD_of (d := -1) (show q < cl.length by rw [h.len]; exact hq), getD_of (d := -1) (show q < (cls1 F).length by simp [cls1]; exact hq)]
      unfold nm at h1 h2
      rw [h1, h2]; simp [hq]
    · rw [List.getElem?_eq_none (by rw [h.len]; omega), List.getElem?_eq_none (by simp [cls1]; omega)]
  rw [e]; exact cIn_init
def KIn (n : Nat) (rows : List (List Int)) (c d d' : List Int) (N i k : Nat) : Prop :=
  d'.length = N ∧ (∀ a, a < i → nm d' a = nm d a) ∧ ((nm d' i = -1 ∧ ∀ k', k' < k → alikeB n rows c i k' = false) ∨ ∃ k0, k0 < i ∧ nm d' i = nm d k0 ∧ alikeB n rows c i k0 = true)
theorem KIn.start {n : Nat} {rows : List (List Int)} {c d : List Int} {N i cnt : Nat} (h : DIn n rows c d N i cnt) (hi : i < N) : KIn n rows c d (d.set i (-1)) N i 0 :=
  ⟨by rw [List.length_set]; exact h.len, fun a ha => by rw [nm_set (by rw [h.len]; exact hi), if_neg (by omega)], .inl ⟨by rw [nm_set (by rw [h.len]; exact hi), if_pos rfl], fun k' hk' => absurd hk' (Nat.not_lt_zero k')⟩⟩
theorem KIn.hit {n : Nat} {rows : List (List Int)} {c d d' : List Int} {N i k cnt : Nat} (h : KIn n rows c d d' N i k) (hD : DIn n rows c d N i cnt) (hi : i < N) (hk : k < i) (ha : alikeB n rows c i k = true) : KIn n rows c d (d'.set i (nm d' k)) N i (k + 1) :=
  ⟨by rw [List.length_set]; exact h.1, fun a hai => by rw [nm_set (by rw [h.1]; exact hi), if_neg (by omega)]; exact h.2.1 a hai, .inr ⟨k, hk, by rw [nm_set (by rw [h.1]; exact hi), if_pos rfl]; exact h.2.1 k hk, ha⟩⟩
theorem KIn.miss {n : Nat} {rows : List (List Int)} {c d d' : List Int} {N i k : Nat} (h : KIn n rows c d d' N i k) (ha : alikeB n rows c i k = false) : KIn n rows c d d' N i (k + 1) := by
  refine ⟨h.1, h.2.1, ?_⟩
  rcases h.2.2 with ⟨h1, h2⟩ | h1
  · refine .inl ⟨h1, fun k' hk' => ?_⟩
    rcases Nat.lt_or_ge k' k with h3 | h3
    · exact h2 k' h3
    · obtain rfl : k' = k := by omega
      exact ha
  · exact .inr h1
theorem KIn.old {n : Nat} {rows : List (List Int)} {c d d' : List Int} {N i k cnt : Nat} (h : KIn n rows c d d' N i k) (hD : DIn n rows c d N i cnt) (hi : i < N) (h0 : ¬ nm d' i < 0) : DIn n rows c d' N (i + 1) cnt := by
  rcases h.2.2 with ⟨h1, h2⟩ | ⟨k0, h1, h2, h3⟩
  · omega
  · exact hD.old hi h.1 h.2.1 h1 h2 h3
theorem KIn.new {n : Nat} {rows : List (List Int)} {c d d' : List Int} {N i k cnt : Nat} (h : KIn n rows c d d' N i k) (hD : DIn n rows c d N i cnt) (hi : i < N) (hk : i ≤ k) (h0 : nm d' i < 0) : DIn n rows c (d'.set i cnt) N (i + 1) (cnt + 1) := by
  have hs : ∀ j, nm (d'.set i (cnt : Int)) j = if j = i then (cnt : Int) else nm d' j := fun j => nm_set (by rw [h.1]; exact hi)
  rcases h.2.2 with ⟨h1, h2⟩ | ⟨k0, h1, h2, h3⟩
  · refine hD.new hi (by rw [List.length_set]; exact h.1) (fun a ha => ?_) ?_ fun k' hk' => h2 k' (by omega)
    · rw [hs, if_neg (by omega)]; exact h.2.1 a ha
    · rw [hs, if_pos rfl]
  · have := hD.rng k0 h1; omega
set_option maxHeartbeats 16000000 in
theorem f90_ok (W : World) (h : AHeap) (pv fv nv : Value) (vs : List Value) (ps : List Int) (F : List Bool) (rows : List (List Int)) (t : TabV W h pv fv nv vs ps F rows) (ok : TabOk ps F rows) (hpl : ps.length < 1073741824) (hF : F.length ≤ 100000) :
    ACalls Tryz.prog W 90 [.agg #[pv, fv, nv]] h (fun r h' => (∃ b d, r = .slice (some ⟨b, 0, some 0⟩) F.length 1 ∧ h.next ≤ b ∧ Ow h' b 1 (d.map numV) ∧ ClsL ps F rows d) ∧ Keeps h h') := by
  refine ACalls_ofX hmix c90 (Nat.le_of_ble_eq_true rfl) ?_
  unfold r90
  dsimp only [Rc.t, Rc.u, Rc.v, Rc.o, Rc.i, Rc.p, Rc.q, Rc.s, Rc.b, Rc.k, Rc.g, Rc.S, Rc.D]
  simp only [envOf1]
  obtain ⟨pa, pc, hpe⟩ := t.pts.len
  obtain ⟨fa, fc, hfe⟩ := t.fin.len
  obtain ⟨na, nc, hne⟩ := t.nxt.out.len
  rw [List.length_map] at hpe hfe hne
  obtain ⟨np, hnp⟩ : ∃ nf, nf = ps.length := ⟨_, rfl⟩
  obtain ⟨nn, hnn2⟩ : ∃ nn, nn = vs.length := ⟨_, rfl⟩
  rw [← hnp] at hpe
  rw [← hnn2] at hne
  obtain ⟨n, hnn⟩ : ∃ n, n = F.length := ⟨_, rfl⟩
  rw [← hnn] at hfe hF ⊢
  subst hfe hpe hne
  clear hnp hnn2
  have hk0 : Keeps h (h.new (.cells [.slice pa np pc, .slice fa n fc, .slice na nn nc])) := (Keeps.refl h).new _
  have hld0 : aloadN W (h.new (.cells [.slice pa np pc, .slice fa n fc, .slice na nn nc])) ⟨h.next, 0, some 0⟩ 3 = some [.slice pa np pc, .slice fa n fc, .slice na nn nc] := aload3 (by rw [AHeap.new_get, if_pos rfl])
  obtain ⟨H0, hH0⟩ : ∃ H0, H0 = h.new (.cells [.slice pa np pc, .slice fa n fc, .slice na nn nc]) := ⟨_, rfl⟩
  have hbx0 : H0.own.get h.next = some (.cells [.slice pa np pc, .slice fa n fc, .slice na nn nc]) := by rw [hH0, AHeap.new_get, if_pos rfl]
  have hn0 : H0.next = h.next + 1 := by rw [hH0, AHeap.new_next]
  have hwn : IntKind.i64.wrap (n : Int) = n := wrap_i64 (by omega) (by omega)
  have h0n : (0 : Int) ≤ n := by omega
  have hle : (n : Int) ≤ n := Int.le_refl _
  have h8n : 8 * (n : Int) ≤ 1099511627776 := by omega
  have htn : (n : Int).toNat = n := rfl
  have ho0 : Ow (H0.new (.cells (repL [.int .i64 0] n))) H0.next 1 ((List.replicate n (0 : Int)).map numV) := by simpa [numV] using mk_ow (h := H0) (z := .int .i64 0) n
  have hc0 : C1 F 0 (List.replicate n 0) := ⟨by simp [hnn], fun q hq => by simp [nm, List.getD, hnn, hq]⟩
  have hk2 : Keeps H0 (H0.new (.cells (repL [.int .i64 0] n))) := (Keeps.refl H0).new _
  rw [← hH0] at hk0
  replace hnn : Hid (n = F.length) := hnn
  rw [hH0] at ho0 hk2
  rw [AHeap.new_next] at ho0
  clear hld0
  repeat refine zs ?_
  refine WPX.loop hmix (fun k σ => ∃ i cl, i ≤ n ∧ k = n - i ∧ eget σ.e 1 = .pointer (some ⟨h.next, 0, some 0⟩) ∧ eget σ.e 3 = .slice (some ⟨h.next + 1, 0, some 0⟩) n 1 ∧ eget σ.e 15 = .slice fa n fc ∧ eget σ.e 16 = .int .i64 n ∧ eget σ.e 17 = .int .i64 (i : Nat) ∧
    Keeps H0 σ.h ∧ Ow σ.h (h.next + 1) 1 (List.map numV cl) ∧ C1 F i cl) n ?h0 ?round
  case h0 => exact ⟨0, _, Nat.zero_le _, rfl, zv, zv, zv, zv, zv, by rw [hH0]; exact hk2, ho0, hc0⟩
  clear ho0 hc0 hk2
  rintro k ⟨e, hh⟩ ⟨i, cl, hi, rfl, e1, e3, e15, e16, e17, hk, ho, hc⟩
  dsimp only at e1 e3 e15 e16 e17 hk ho
  have hbx : hh.own.get h.next = some (.cells [.slice pa np pc, .slice fa n fc, .slice na nn nc]) := by rw [hk.same _ (by omega)]; exact hbx0
  by_cases hlt : i < n
  · have hltI : (i : Int) < n := by omega
    have hw1 : IntKind.i64.wrap ((i : Int) + 1) = ((i + 1 : Nat) : Int) := wrap_i64 (by omega) (by omega)
    have hiF : i < F.length := by have := hnn.out; omega
    obtain ⟨d, hd1, hr, _⟩ := Sl.one (f := boolV) ((t.fin.keeps hk0).keeps hk) (getD_of (d := false) hiF) (u := .bool (bt F i)) rfl
    have hidx : idxV 1 (.slice (some ⟨h.next + 1, 0, some 0⟩) n 1) (.int .i64 i) = some (.pointer (some ⟨h.next + 1, i * 1, some 0⟩)) := idx_own hlt
    cases hb : bt F i with
    | true =>
      obtain ⟨C, hC, hble, C2, hsp, ho2⟩ := ho.set1 (f := numV) (fun x => rfl) (i := i) (by rw [hc.len]; exact hiF) 1
      have hc2 := hc.set hiF hb
      have hkf : Keeps H0 (hh.put (h.next + 1) (.cells C2)) := hk.put (by omega) _
      rw [hb] at hr
      simp only [numV] at hsp
      clear hb
      repeat refine zs ?_
      exact ⟨n - (i + 1), by omega, i + 1, _, by omega, rfl, zv, zv, zv, zv, zv, hkf, ho2, hc2⟩
    | false =>
      have hc2 := hc.keep hb
      rw [hb] at hr
      clear hb
      repeat refine zs ?_
      exact ⟨n - (i + 1), by omega, i + 1, _, by omega, rfl, zv, zv, zv, zv, zv, hk, ho, hc2⟩
  · have hltI : ¬ (i : Int) < n := by omega
    have hin : i = F.length := by have := hnn.out; omega
    rw [hin] at hc
    have hR0 : CIn ps F rows cl := hc.done
    obtain ⟨bc, hbce⟩ : ∃ bc, bc = h.next + 1 := ⟨_, rfl⟩
    rw [← hbce] at e3 ho
    have hbc : h.next < bc := by omega
    clear hin hc hi hlt hbce
    repeat refine zs ?_
    refine WPX.loop hmix (fun k σ => ∃ c bc, k = eqCnt n c ∧ eget σ.e 1 = .pointer (some ⟨h.next, 0, some 0⟩) ∧ eget σ.e 3 = .slice (some ⟨bc, 0, some 0⟩) n 1 ∧ Keeps H0 σ.h ∧ Ow σ.h bc 1 (List.map numV c) ∧ h.next < bc ∧ CIn ps F rows c) (eqCnt n cl) ?h1 ?round1
    case h1 => exact ⟨cl, bc, rfl, zv, zv, hk, ho, hbc, hR0⟩
    clear e1 e3 e15 e16 e17 hk ho hbx hbc hR0 hltI
    rintro K ⟨e, G0⟩ ⟨c, bc, rfl, e1, e3, hk, ho, hbc, hR⟩
    dsimp only at e1 e3 hk ho
    have hbcl := ho.lt
    have hcl : c.length = n := hR.len.trans hnn.out.symm
    replace hcl : Hid (c.length = n) := hcl
    have ho1 : Ow (G0.new (.cells (repL [.int .i64 0] n))) G0.next 1 ((List.replicate n (0 : Int)).map numV) := by simpa [numV] using mk_ow (h := G0) (z := .int .i64 0) n
    have hk1 : Keeps G0 (G0.new (.cells (repL [.int .i64 0] n))) := (Keeps.refl G0).new _
    have hD0 : DIn ps.length rows c (List.replicate n 0) n 0 0 := ⟨by simp, fun a ha => absurd ha (Nat.not_lt_zero a), fun a b ha => absurd ha (Nat.not_lt_zero a), Nat.zero_le _⟩
    have hgn := hk.le
    repeat refine zs ?_
    refine WPX.loop hmix (fun k σ => ∃ i d cnt, i ≤ n ∧ k = n - i ∧ eget σ.e 1 = .pointer (some ⟨h.next, 0, some 0⟩) ∧ eget σ.e 3 = .slice (some ⟨bc, 0, some 0⟩) n 1 ∧ eget σ.e 6 = .slice (some ⟨G0.next, 0, some 0⟩) n 1 ∧ eget σ.e 7 = .int .i64 (cnt : Nat) ∧ eget σ.e 31 = .int .i64 n ∧ eget σ.e 32 = .int .i64 (i : Nat) ∧
      Keeps G0 σ.h ∧ Ow σ.h G0.next 1 (List.map numV d) ∧ DIn ps.length rows c d n i cnt) n ?h2 ?round2
    case h2 => exact ⟨0, _, 0, Nat.zero_le _, rfl, zv, zv, zv, zv, zv, zv, hk1, ho1, hD0⟩
    clear e1 e3 ho1 hk1 hD0
    rintro K ⟨e, g1⟩ ⟨i, d, cnt, hi, rfl, e1, e3, e6, e7, e31, e32, hkg, hod, hD⟩
    dsimp only at e1 e3 e6 e7 e31 e32 hkg hod
    have hbx1 : g1.own.get h.next = some (.cells [.slice pa np pc, .slice fa n fc, .slice na nn nc]) := by rw [hkg.same _ (by omega), hk.same _ (by omega)]; exact hbx0
    have hcnt := hD.cnt
    by_cases hlt : i < n
    · have hltI : (i : Int) < n := by omega
      have hwi : IntKind.i64.wrap ((i : Int) + 1) = ((i + 1 : Nat) : Int) := wrap_i64 (by omega) (by omega)
      have hwc : IntKind.i64.wrap ((cnt : Int) + 1) = ((cnt + 1 : Nat) : Int) := wrap_i64 (by omega) (by omega)
      have hwm : IntKind.i64.wrap (-1) = -1 := by decide
      have hidx : idxV 1 (.slice (some ⟨G0.next, 0, some 0⟩) n 1) (.int .i64 i) = some (.pointer (some ⟨G0.next, i * 1, some 0⟩)) := idx_own hlt
      obtain ⟨C, hC, hble, C2, hsp, ho2⟩ := hod.set1 (f := numV) (fun x => rfl) (i := i) (by rw [hD.len]; exact hlt) (-1)
      simp only [numV] at hsp
      have hK0 := KIn.start hD hlt
      have hkf : Keeps G0 (g1.put G0.next (.cells C2)) := hkg.put (Nat.le_refl _) _
      repeat refine zs ?_
      refine WPX.loop hmix (fun kk σ => ∃ k d', k ≤ i ∧ kk = i - k ∧ eget σ.e 1 = .pointer (some ⟨h.next, 0, some 0⟩) ∧ eget σ.e 3 = .slice (some ⟨bc, 0, some 0⟩) n 1 ∧ eget σ.e 6 = .slice (some ⟨G0.next, 0, some 0⟩) n 1 ∧ eget σ.e 7 = .int .i64 (cnt : Nat) ∧ eget σ.e 31 = .int .i64 n ∧ eget σ.e 32 = .int .i64 (i : Nat) ∧
        eget σ.e 8 = .int .i64 (i : Nat) ∧ eget σ.e 9 = .int .i64 (k : Nat) ∧ Keeps G0 σ.h ∧ Ow σ.h G0.next 1 (List.map numV d') ∧ KIn ps.length rows c d d' n i k) i ?h3 ?round3
      case h3 => exact ⟨0, _, Nat.zero_le _, rfl, zv, zv, zv, zv, zv, zv, zv, zv, hkf, ho2, hK0⟩
      clear e1 e3 e6 e7 e31 e32 hkg hod hC hble hsp ho2 hK0 hkf hbx1
      rintro K ⟨e, g2⟩ ⟨k, d', hki, rfl, e1, e3, e6, e7, e31, e32, e8, e9, hkg, hod, hK⟩
      dsimp only at e1 e3 e6 e7 e31 e32 e8 e9 hkg hod
      have hbx2 : g2.own.get h.next = some (.cells [.slice pa np pc, .slice fa n fc, .slice na nn nc]) := by rw [hkg.same _ (by omega), hk.same _ (by omega)]; exact hbx0
      have hdl : d'.length = n := hK.1
      replace hdl : Hid (d'.length = n) := hdl
      obtain ⟨C, hC, hCi⟩ := Ow.rd1 hod (i := i) (by rw [hdl.out]; exact hlt)
      have hidx := hidx
      by_cases hneg : nm d' i < 0
      · by_cases hlk : k < i
        · have hlkI : (k : Int) < i := by omega
          have hwk : IntKind.i64.wrap ((k : Int) + 1) = ((k + 1 : Nat) : Int) := wrap_i64 (by omega) (by omega)
          have hnegd : decide (nm d' i < 0) = true := decide_eq_true hneg
          have hld : aloadN W g2 ⟨h.next, 0, some 0⟩ 3 = some [.slice pa np pc, .slice fa n fc, .slice na nn nc] := aload3 hbx2
          have h115 := f115_ok W g2 (.slice pa np pc) (.slice fa n fc) (.slice na nn nc) vs ps F rows (.slice (some ⟨bc, 0, some 0⟩) n 1) c i k (((t.keeps hk0).keeps hk).keeps hkg) ok (by have := ((ho.keeps hkg).sl (W := W)); rwa [List.length_map, hcl.out] at this) (hcl.out.trans hnn.out) (by have := hnn.out; omega) (by have := hnn.out; omega) hpl
          repeat refine zs ?_
          refine ops_callK zv za h115 ?_
          rintro r3 g3 ⟨rfl, hk3⟩
          clear h115 hld
          have hod3 := hod.keeps hk3
          have hkg3 := hkg.trans hk3
          have hkgn := hkg.le
          have hbx3 : g3.own.get h.next = some (.cells [.slice pa np pc, .slice fa n fc, .slice na nn nc]) := by rw [hk3.same _ (by omega)]; exact hbx2
          cases hal : alikeB ps.length rows c i k with
          | true =>
            have hidk : idxV 1 (.slice (some ⟨G0.next, 0, some 0⟩) n 1) (.int .i64 k) = some (.pointer (some ⟨G0.next, k * 1, some 0⟩)) := idx_own (by omega)
            obtain ⟨C3, hC3, hC3k⟩ := Ow.rd1 hod3 (i := k) (by rw [hdl.out]; omega)
            obtain ⟨C4, hC4, hble, C5, hsp, ho2⟩ := hod3.set1 (f := numV) (fun x => rfl) (i := i) (by rw [hdl.out]; exact hlt) (nm d' k)
            simp only [numV] at hsp
            rw [hC3] at hC4
            cases hC4
            have hK2 := hK.hit hD hlt hlk hal
            have hkf : Keeps G0 (g3.put G0.next (.cells C5)) := hkg3.put (Nat.le_refl _) _
            clear hal hC hCi
            repeat refine zs ?_
            exact ⟨i - (k + 1), by omega, k + 1, _, by omega, rfl, zv, zv, zv, zv, zv, zv, zv, zv, hkf, ho2, hK2⟩
          | false =>
            have hK2 := hK.miss hal
            clear hal hC hCi
            repeat refine zs ?_
            exact ⟨i - (k + 1), by omega, k + 1, _, by omega, rfl, zv, zv, zv, zv, zv, zv, zv, zv, hkg3, hod3, hK2⟩
        · have hlkI : ¬ (k : Int) < i := by omega
          have hnegd : decide (nm d' i < 0) = true := decide_eq_true hneg
          have hD2 := hK.new hD hlt (by omega) hneg
          obtain ⟨C4, hC4, hble, C5, hsp, ho2⟩ := hod.set1 (f := numV) (fun x => rfl) (i := i) (by rw [hdl.out]; exact hlt) (cnt : Int)
          simp only [numV] at hsp
          rw [hC] at hC4
          cases hC4
          have hkf : Keeps G0 (g2.put G0.next (.cells C5)) := hkg.put (Nat.le_refl _) _
          clear hneg
          repeat refine zs ?_
          exact ⟨n - (i + 1), by omega, i + 1, _, _, by omega, rfl, zv, zv, zv, zv, zv, zv, hkf, ho2, hD2⟩
      · have hD2 := hK.old hD hlt hneg
        by_cases hlk : k < i
        · have hlkI : (k : Int) < i := by omega
          repeat refine zs ?_
          exact ⟨n - (i + 1), by omega, i + 1, _, _, by omega, rfl, zv, zv, zv, zv, zv, zv, hkg, hod, hD2⟩
        · have hlkI : ¬ (k : Int) < i := by omega
          repeat refine zs ?_
          exact ⟨n - (i + 1), by omega, i + 1, _, _, by omega, rfl, zv, zv, zv, zv, zv, zv, hkg, hod, hD2⟩
    · have hltI : ¬ (i : Int) < n := by omega
      have hin : i = n := by omega
      rw [hin] at hD
      have hDl : d.length = n := hD.len
      have hog := ho.keeps hkg
      have hcs := hog.sl (W := W)
      have hds := hod.sl (W := W)
      rw [List.length_map, hcl.out] at hcs
      rw [List.length_map, hDl] at hds
      have hld : aloadN W g1 ⟨h.next, 0, some 0⟩ 3 = some [.slice pa np pc, .slice fa n fc, .slice na nn nc] := aload3 hbx1
      have h116 := f116_ok W g1 (.agg #[.slice pa np pc, .slice fa n fc, .slice na nn nc]) ⟨_, _, _, _, _, _, _, _, _, rfl⟩ _ _ c d n hcs hds hcl.out hDl (by omega)
      replace hDl : Hid (d.length = n) := hDl
      clear hcs hds hin
      repeat refine zs ?_
      refine ops_callK zv za h116 ?_
      rintro r3 g3 ⟨⟨b, rfl, hb⟩, hk3⟩
      clear h116 hld
      have hkH : Keeps H0 g3 := (hk.trans hkg).trans hk3
      cases b with
      | true =>
        have hsp := hb.1 rfl
        have hlt2 := split_lt hD hsp
        have hR2 : CIn ps F rows d := hR.next ok (by rw [← hnn.out]; exact hD)
        have hod3 := hod.keeps hk3
        have hbd : h.next < G0.next := by omega
        clear hb hsp
        repeat refine zs ?_
        exact ⟨eqCnt n d, hlt2, d, G0.next, rfl, zv, zv, hkH, hod3, hbd, hR2⟩
      | false =>
        have hns : ¬ splitB n c d := fun hs => by have := hb.2 hs; cases this
        have hDn : ClsL ps F rows d := hR.done ok (by rw [← hnn.out]; exact hD) (by rw [← hnn.out]; exact hns)
        have hod3 := hod.keeps hk3
        clear hb hns
        repeat refine zs ?_
        refine ⟨.inr rfl, _, rfl, ⟨G0.next, d, ?_, by omega, hod3, hDn⟩, hk0.trans hkH⟩
        simp only [resOf, rop, opd, celsL, oneV, aadd, binV, isSh, intBin, scEq, keq, unV, fillL, oP, oA, oS, wantedA, BX, BL, BS, seval, *]
end Go.Proofs.YtlipmjpapkfaeaaGreatDoor.Fn
end
