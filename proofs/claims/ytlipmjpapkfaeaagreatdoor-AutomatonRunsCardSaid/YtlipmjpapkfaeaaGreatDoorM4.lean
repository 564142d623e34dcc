/- The abstract machine, part 4: what a resolved operation does, the model's operation does (the operations that make no block and change none). No condition. -/
import Derived.Test.YtlipmjpapkfaeaaGreatDoorM3
import Derived.Laws.Slices
import Derived.Laws.BytesString
set_option linter.unusedSimpArgs false
set_option linter.unusedVariables false
namespace Go.Mach
open Go Go.RowKit

/-- The model's computation does what the machine's does. -/
def Sim (P : Program) (W : World) (μ : PMap) (h : AHeap) (w : World) (s : Sem Next) (v : Value) (h' : AHeap) : Prop :=
  ∃ nx v' w' μ', s.run P w = .ok nx w' ∧ (nx = .value v' ∨ (nx = .skip ∧ v' = undef)) ∧ VR μ' v v' ∧ HR W μ' h' w' ∧ Ext μ h.next μ' ∧ h.next ≤ h'.next

section
variable {P : Program} {W : World} {μ : PMap} {h : AHeap} {w : World} {ρ ρ' : Operand → Value}

theorem Sim.val (H : HR W μ h w) {s : Sem Value} {v v' : Value} (hrun : s.run P w = .ok v' w) (hv : VR μ v v') :
    Sim P W μ h w (do pure (.value (← s))) v h :=
  ⟨.value v', v', w, μ, by simp [hrun], .inl rfl, hv, H, Ext.refl _ _, Nat.le_refl _⟩

theorem Sim.valw {s : Sem Value} {v v' : Value} {w' : World} {μ' : PMap} {h' : AHeap} (hrun : s.run P w = .ok v' w') (hv : VR μ' v v') (H : HR W μ' h' w')
    (he : Ext μ h.next μ') (hn : h.next ≤ h'.next) : Sim P W μ h w (do pure (.value (← s))) v h' :=
  ⟨.value v', v', w', μ', by simp [hrun], .inl rfl, hv, H, he, hn⟩

theorem Sim.unit {s : Sem Unit} {w' : World} {h' : AHeap} (hrun : s.run P w = .ok () w') (H : HR W μ h' w') (hn : h'.next = h.next) :
    Sim P W μ h w (do s; pure .skip) undef h' :=
  ⟨.skip, undef, w', μ, by simp [hrun], .inr ⟨rfl, rfl⟩, VR.undef, H, Ext.refl _ _, by omega⟩

theorem some_map {α β : Type} {o : Option α} {f : α → β} {b : β} (h : o.map f = some b) : ∃ a, o = some a ∧ f a = b := by
  cases o with
  | none => cases h
  | some a => exact ⟨a, rfl, Option.some.inj h⟩

/-! ### memory -/
theorem aggT_run {t : TypeId} {b : Bool} (hb : aggT P t = some b) (w : World) : (isAgg t).run P w = .ok b w := by
  unfold aggT at hb
  cases hu : P.underlying t with
  | none => simp [hu] at hb
  | some d =>
    simp only [hu] at hb
    unfold isAgg
    rw [Sem.run_bind, run_underlying hu]
    cases d <;> simp_all

theorem sizeT_run {t : TypeId} {n : Nat} (hn : sizeT P t = some n) (w : World) : (sizeOf t).run P w = .ok n w := by
  unfold sizeT at hn
  obtain ⟨i, hi, rfl⟩ := some_map hn
  simp [sizeOf, typeInfo, hi]

theorem bytesT_run {t : TypeId} {n : Nat} (hn : bytesT P t = some n) : ∃ i, P.info? t = some i ∧ i.bytes = n := by
  unfold bytesT at hn
  exact some_map hn

theorem zeroT_run {t : TypeId} {z : Value} (hz : zeroT P t = some z) (w : World) : (zeroValue t).run P w = .ok z w := by
  unfold zeroT at hz
  cases hi : P.info? t with
  | none => simp [hi] at hz
  | some i =>
    simp [hi] at hz
    simp [zeroValue, typeInfo, hi, hz]

theorem zerosT_spec {t : TypeId} {z : List Value} (hz : zerosT P t = some z) :
    ∃ v n, zeroT P t = some v ∧ sizeT P t = some n ∧ z = celsL v ∧ z.length = n ∧ z.all plainV = true := by
  unfold zerosT at hz
  cases h1 : zeroT P t with
  | none => simp [h1] at hz
  | some v =>
    cases h2 : sizeT P t with
    | none => simp [h1, h2] at hz
    | some n =>
      simp only [h1, h2] at hz
      split at hz
      · rename_i hc
        cases hz
        simp only [Bool.and_eq_true, beq_iff_eq] at hc
        exact ⟨v, n, rfl, rfl, rfl, hc.1, hc.2⟩
      · cases hz

theorem sim_load1 (H : HR W μ h w) {t : TypeId} (ht : aggT P t = some false) {x : Operand} {v : Value} (hx : VR μ (ρ x) (ρ' x)) {h' : AHeap}
    (hr : rop W ρ h (.load1 x) = some (v, h')) :
    Sim P W μ h w (do pure (.value (← Instr.loadAt t (ρ' x)))) v h' := by
  simp only [rop] at hr
  split at hr
  · rename_i a heq
    rw [heq] at hx
    obtain ⟨u, hu, he⟩ := some_map hr
    cases he
    obtain ⟨a', hx', ha⟩ := hx.ptr_AR
    obtain ⟨v', hc, hv, _⟩ := aload1_sim H ha hu
    refine Sim.val H (v' := v') ?_ hv
    simp [hx', Instr.loadAt, Instr.sureAddr, loadVar, aggT_run ht, hc]
  · cases hr

theorem sim_loadN (H : HR W μ h w) {t : TypeId} {n : Nat} (ht : aggT P t = some true) (hn : sizeT P t = some n) {x : Operand} {v : Value} (hx : VR μ (ρ x) (ρ' x)) {h' : AHeap}
    (hr : rop W ρ h (.loadN x n) = some (v, h')) :
    Sim P W μ h w (do pure (.value (← Instr.loadAt t (ρ' x)))) v h' := by
  simp only [rop] at hr
  split at hr
  · rename_i a heq
    rw [heq] at hx
    obtain ⟨l, hl, he⟩ := some_map hr
    cases he
    obtain ⟨a', hx', ha⟩ := hx.ptr_AR
    obtain ⟨l', hrs, hlen, hone, hcs⟩ := aloadN_sim H n ha hl
    refine Sim.val H (v' := .agg l'.toArray) ?_ hrs.agg
    have hl' : l'.length = n := by rw [← hrs.1, hlen]
    have := run_loadCells_list (P := P) w a' l' hcs
    rw [hl'] at this
    simp [hx', Instr.loadAt, Instr.sureAddr, loadVar, aggT_run ht, sizeT_run hn, this]
  · cases hr

theorem sim_store (H : HR W μ h w) {t : TypeId} {n : Nat} (hn : sizeT P t = some n) {x u : Operand} {v : Value} (hx : VR μ (ρ x) (ρ' x)) (hu : VR μ (ρ u) (ρ' u)) {h' : AHeap}
    (hr : rop W ρ h (.store x u n) = some (v, h')) :
    Sim P W μ h w (do Instr.storeAt t (ρ' x) (ρ' u); pure .skip) v h' := by
  simp only [rop] at hr
  split at hr
  · rename_i a heq
    rw [heq] at hx
    cases hb : Nat.beq (celsL (ρ u)).length n with
    | false => simp [hb] at hr
    | true =>
      simp only [hb, cond_true] at hr
      obtain ⟨h'', hs, he⟩ := some_map hr
      cases he
      obtain ⟨a', hx', ha⟩ := hx.ptr_AR
      obtain ⟨w', hrun, H', hnx⟩ := astore_sim H ha hu.cels hs P
      refine Sim.unit (w' := w') ?_ H' hnx
      have hlen : (celsL (ρ' u)).length = n := by rw [← hu.cels.1]; simpa [Tr.nbeq] using hb
      have hsz : (ρ' u).cells.size = n := by rw [← Array.length_toList, cells_toList]; exact hlen
      simp [hx', Instr.storeAt, Instr.sureAddr, storeVar, sizeT_run hn, hsz, cells_toList, hrun]
  · cases hr

/-! ### addresses and parts -/
theorem sim_addOff (H : HR W μ h w) {t : TypeId} {f : Nat} {fs : Array Field} {fd : Field} {n : Nat} (ht : P.underlying t = some (.struct fs)) (hf : fs[f]? = some fd)
    (hn : sizeT P fd.type = some n) (h0 : n ≠ 0) {x : Operand} {v : Value} (hx : VR μ (ρ x) (ρ' x)) {h' : AHeap}
    (hr : rop W ρ h (.addOff x fd.offset) = some (v, h')) :
    Sim P W μ h w (do pure (.value (← Instr.fieldAt t (ρ' x) f))) v h' := by
  simp only [rop] at hr
  split at hr
  · rename_i a heq
    rw [heq] at hx
    cases hr
    obtain ⟨a', hx', ha⟩ := hx.ptr_AR
    refine Sim.val H (v' := .pointer (some (a'.add fd.offset))) ?_ (ha.add _).ptr
    simp [hx', Instr.fieldAt, Instr.sureAddr, run_underlying ht, hf, fieldPlace, sizeT_run hn, h0]
  · cases hr

theorem sim_idxA (H : HR W μ h w) {t e : TypeId} {esz : Nat} (ht : P.underlying t = some (.slice e)) (hn : sizeT P e = some esz) {x x' i i' v : Value} (hx : VR μ x x') (hi : VR μ i i')
    (hr : idxV esz x i = some v) : Sim P W μ h w (do pure (.value (← Instr.indexAt t x' i'))) v h := by
  unfold idxV at hr
  split at hr
  · rename_i a n c k kk
    obtain rfl := hi.int
    cases hb : (decide (0 ≤ kk) && decide (kk < (n : Int)) && (a.spot.isNone || Nat.beq c esz)) with
    | false => simp [hb] at hr
    | true =>
      simp [hb] at hr
      subst hr
      simp only [Bool.and_eq_true, decide_eq_true_eq, Bool.or_eq_true, Tr.nbeq] at hb
      obtain ⟨⟨h1, h2⟩, h3⟩ := hb
      rcases hx.slice_inv with ⟨hs, rfl⟩ | ⟨hs, p, o', c', hp, hc, hnc, hfit, ho, rfl⟩ | ⟨_, hn1, _⟩
      rotate_left 2
      · exfalso; omega
      · refine Sim.val H (v' := .pointer (some (a.add (kk.toNat * esz)))) ?_ ?_
        · simp [Instr.indexAt, asIntOf, run_underlying ht, h1, h2, sizeT_run hn]
        · rw [aadd_base hs]; exact .plain (by simp [plainV, aadd, hs])
      · have hn0 : n ≠ 0 := by omega
        have := ho hn0
        subst this
        refine Sim.val H (v' := .pointer (some ((⟨p.blk, a.off + p.shift, none⟩ : Addr).add (kk.toNat * esz)))) ?_ ?_
        · simp [Instr.indexAt, asIntOf, run_underlying ht, h1, h2, sizeT_run hn]
        · have har : AR μ a ⟨p.blk, a.off + p.shift, none⟩ := .inr ⟨hs, p, hp, rfl⟩
          exact (har.add _).ptr
  · cases hr

theorem sim_idxArr (H : HR W μ h w) {t e : TypeId} {len esz : Nat} (ht : P.underlying t = some (.array len e)) (hn : sizeT P e = some esz) {x x' i i' v : Value} (hx : VR μ x x') (hi : VR μ i i')
    (hr : idxArrV len esz x i = some v) : Sim P W μ h w (do pure (.value (← Instr.indexAt t x' i'))) v h := by
  unfold idxArrV at hr
  split at hr
  · rename_i a k kk
    obtain rfl := hi.int
    cases hb : (decide (0 ≤ kk) && decide (kk < (len : Int))) with
    | false => simp [hb] at hr
    | true =>
      simp [hb] at hr
      subst hr
      simp only [Bool.and_eq_true, decide_eq_true_eq] at hb
      obtain ⟨h1, h2⟩ := hb
      obtain ⟨a', hx', ha⟩ := hx.ptr_AR
      refine Sim.val H (v' := .pointer (some (a'.add (kk.toNat * esz)))) ?_ (ha.add _).ptr
      simp [hx', Instr.indexAt, Instr.sureAddr, asIntOf, run_underlying ht, h1, h2, sizeT_run hn]
  · cases hr

theorem sim_idxStr (H : HR W μ h w) {t : TypeId} (ht : P.underlying t = some .string) {x x' i i' v : Value} (hx : VR μ x x') (hi : VR μ i i')
    (hr : idxStrV x i = some v) : Sim P W μ h w (do pure (.value (← Instr.index t x' i'))) v h := by
  unfold idxStrV at hr
  split at hr
  · rename_i s k kk
    obtain rfl := hi.int
    obtain rfl := hx.string
    cases hb : decide (0 ≤ kk) with
    | false => simp [hb] at hr
    | true =>
      simp only [hb, cond_true] at hr
      cases hg : s.data.toList[kk.toNat]? with
      | none => simp [hg] at hr
      | some b =>
        simp only [hg] at hr
        cases hr
        simp only [decide_eq_true_eq] at hb
        have hlt : kk.toNat < s.data.toList.length := by
          rcases Nat.lt_or_ge kk.toNat s.data.toList.length with h' | h'
          · exact h'
          · simp [List.getElem?_eq_none h'] at hg
        have hs : s[kk.toNat]? = some b := by
          have hlt' : kk.toNat < s.size := by simpa using hlt
          rw [getElem?_pos s kk.toNat hlt']
          rw [List.getElem?_eq_getElem hlt] at hg
          have e : s[kk.toNat]'hlt' = s.data.toList[kk.toNat]'hlt := rfl
          rw [e]; exact hg
        refine Sim.val H (v' := .int .u8 b.toNat) ?_ (.plain rfl)
        simp [Instr.index, asIntOf, run_underlying ht, hb, hs]
  · cases hr

theorem sim_part1 (H : HR W μ h w) {t : TypeId} {f : Nat} {fs : Array Field} {fd : Field} (ht : P.underlying t = some (.struct fs)) (hf : fs[f]? = some fd)
    (hn : aggT P fd.type = some false) {x : Operand} {v : Value} (hx : VR μ (ρ x) (ρ' x)) {h' : AHeap}
    (hr : rop W ρ h (.part1 x fd.offset) = some (v, h')) :
    Sim P W μ h w (do pure (.value (← Instr.field t (ρ' x) f))) v h' := by
  simp only [rop] at hr
  split at hr
  · rename_i cs heq
    rw [heq] at hx
    obtain ⟨ys, hx', hrs⟩ := hx.agg_inv
    cases hg : cs.toList[fd.offset]? with
    | none => simp [hg] at hr
    | some u =>
      simp only [hg] at hr
      cases hr
      obtain ⟨v', hv', hr'⟩ := hrs.2 _ _ hg
      refine Sim.val H (v' := v') ?_ hr'
      simp only [Array.getElem?_toList] at hv'
      simp [hx', Instr.field, run_underlying ht, hf, part, asAgg, aggT_run hn, hv']
  · cases hr

theorem extract_eq (l : Array Value) (o n : Nat) : l.extract o (o + n) = ((l.toList.drop o).take n).toArray := by
  apply Array.ext'
  simp [List.take_drop, Nat.add_sub_cancel_left]

theorem sim_partN (H : HR W μ h w) {t : TypeId} {f n : Nat} {fs : Array Field} {fd : Field} (ht : P.underlying t = some (.struct fs)) (hf : fs[f]? = some fd)
    (hn : aggT P fd.type = some true) (hs : sizeT P fd.type = some n) {x : Operand} {v : Value} (hx : VR μ (ρ x) (ρ' x)) {h' : AHeap}
    (hr : rop W ρ h (.partN x fd.offset n) = some (v, h')) :
    Sim P W μ h w (do pure (.value (← Instr.field t (ρ' x) f))) v h' := by
  simp only [rop] at hr
  split at hr
  · rename_i cs heq
    rw [heq] at hx
    obtain ⟨ys, hx', hrs⟩ := hx.agg_inv
    cases hr
    refine Sim.val H (v' := .agg ((ys.toList.drop fd.offset).take n).toArray) ?_ ((hrs.drop _).take _).agg
    simp only [hx', Instr.field, run_underlying ht, hf, part, asAgg, Sem.run_bind, Sem.run_pure, Result.andThen_ok, aggT_run hn, if_true, sizeT_run hs, extract_eq]
  · cases hr

/-! ### numbers and tests -/
theorem run_intBin {op : BinOp} {k : IntKind} {a b : Int} {v : Value} (hs : isSh op = false) (hr : intBin op k a b = some v) (t : TypeId) :
    (binOp op t (.int k a) (.int k b)).run P w = .ok v w ∧ plainV v = true := by
  cases op <;> simp [isSh] at hs <;> simp only [intBin] at hr <;>
    first
      | (cases hr; done)
      | (cases hb : (b == 0) with
         | true => simp [hb] at hr
         | false =>
           simp [hb] at hr; subst hr
           have hb' : b ≠ 0 := by simpa using hb
           exact ⟨by simp [binOp, Op.intDiv, hb'], rfl⟩)
      | (simp at hr; subst hr; exact ⟨by simp [binOp, Op.intArith, Op.intBits, Op.intCmp], rfl⟩)

theorem run_intSh {op : BinOp} {k k' : IntKind} {a b : Int} {v : Value} (hs : isSh op = true) (hr : intSh op k a b = some v) (t : TypeId) :
    (binOp op t (.int k a) (.int k' b)).run P w = .ok v w ∧ plainV v = true := by
  unfold intSh at hr
  cases hb : decide (b < 0) with
  | true => simp [hb] at hr
  | false =>
    have hb' : ¬ (b < 0) := by simpa using hb
    simp only [hb, cond_false] at hr
    cases op <;> simp [isSh] at hs <;> simp at hr <;> subst hr <;> exact ⟨by simp [binOp, Op.shift, hb'], rfl⟩

theorem run_strBin {op : BinOp} {a b : ByteArray} {v : Value} (hr : strBin op a b = some v) (t : TypeId) :
    (binOp op t (.string a) (.string b)).run P w = .ok v w ∧ plainV v = true := by
  cases op <;> simp only [strBin] at hr <;>
    first
      | (cases hr; done)
      | (cases hb : Nat.ble (a.size + b.size) 1099511627776 with
         | false => simp [hb] at hr
         | true =>
           simp [hb] at hr; subst hr
           have hb' : a.size + b.size ≤ 1099511627776 := by simpa using hb
           refine ⟨?_, rfl⟩
           have : ¬ (((a.size + b.size : Nat) : Int) > IntKind.i64.max) := by
             have : IntKind.i64.max = 9223372036854775807 := by decide
             rw [this]; omega
           simp only [binOp, Op.stringOp, this, if_false, Sem.run_pure])
      | (simp at hr; subst hr; exact ⟨by simp [binOp, Op.stringOp, ByteArray.toList_eq], rfl⟩)

theorem scT_spec {t : TypeId} {k : SK} (ht : scT P t = some k) : ∃ u, P.underlying t = some u ∧ ((k = .b ∧ u = .bool) ∨ (k = .i ∧ ∃ q, u = .int q) ∨ (k = .s ∧ u = .string)) := by
  unfold scT at ht
  cases hu : P.underlying t with
  | none => simp [hu] at ht
  | some u =>
    refine ⟨u, rfl, ?_⟩
    simp only [hu] at ht
    cases u <;> simp at ht <;> subst ht <;> simp

theorem scEq_run {t : TypeId} {k : SK} (ht : scT P t = some k) {x y : Value} {b : Bool} (hb : scEq k x y = some b) (d : Nat) (w : World) :
    (Op.equalIn (d + 1) t x y).run P w = .ok b w := by
  obtain ⟨u, hu, hk⟩ := scT_spec ht
  unfold scEq at hb
  split at hb
  · rename_i q a q' a'
    cases hq : decide (q = q') with
    | false => simp [hq] at hb
    | true =>
      simp [hq] at hb; subst hb
      have : q = q' := by simpa using hq
      subst this
      rcases hk with ⟨hk, _⟩ | ⟨_, r, rfl⟩ | ⟨hk, _⟩
      · cases hk
      · simp [Op.equalIn, run_underlying hu]
      · cases hk
  · simp at hb; subst hb
    rcases hk with ⟨_, rfl⟩ | ⟨hk, _⟩ | ⟨hk, _⟩
    · simp [Op.equalIn, run_underlying hu]
    · cases hk
    · cases hk
  · simp at hb; subst hb
    rcases hk with ⟨hk, _⟩ | ⟨hk, _⟩ | ⟨_, rfl⟩
    · cases hk
    · cases hk
    · simp [Op.equalIn, run_underlying hu, beq_toListBytes, ByteArray.toList_eq]
  · cases hb

theorem scEq_one {k : SK} {x y : Value} {b : Bool} (hb : scEq k x y = some b) : plainV x = true ∧ plainV y = true := by
  unfold scEq at hb
  split at hb <;> first | exact ⟨rfl, rfl⟩ | cases hb

theorem scT_agg {t : TypeId} {k : SK} (ht : scT P t = some k) : aggT P t = some false := by
  obtain ⟨u, hu, hk⟩ := scT_spec ht
  unfold aggT
  rw [hu]
  rcases hk with ⟨_, rfl⟩ | ⟨_, r, rfl⟩ | ⟨_, rfl⟩ <;> rfl

theorem run_part1 {t : TypeId} (ht : aggT P t = some false) {cs : Array Value} {o : Nat} {v : Value} (hv : cs.toList[o]? = some v) (w : World) : (part t cs o).run P w = .ok v w := by
  simp only [Array.getElem?_toList] at hv
  simp [part, aggT_run ht, hv]

theorem run_eqFields {d : Nat} {xs ys : Array Value} : ∀ (fs : List Field) (n : Nat) (ks : List SK), scFields P n fs = some ks → ∀ b, scEqs ks (xs.toList.drop n) (ys.toList.drop n) = some b →
    ∀ w, (Op.eqFields (d + 1) xs ys fs).run P w = .ok b w
  | [], n, ks, hk, b, hb, w => by
    simp [scFields] at hk; subst hk
    cases h1 : xs.toList.drop n with
    | nil =>
      cases h2 : ys.toList.drop n with
      | nil => rw [h1, h2] at hb; simp [scEqs] at hb; subst hb; simp [Op.eqFields]
      | cons y l => rw [h1, h2] at hb; simp [scEqs] at hb
    | cons x l => rw [h1] at hb; simp [scEqs] at hb
  | f :: fs, n, ks, hk, b, hb, w => by
    unfold scFields at hk
    split at hk
    · rename_i hc
      simp only [Bool.and_eq_true, bne_iff_ne, ne_eq, beq_iff_eq] at hc
      obtain ⟨hn, ho⟩ := hc
      cases h1 : scT P f.type with
      | none => simp [h1] at hk
      | some k =>
        cases h2 : scFields P (n + 1) fs with
        | none => simp [h1, h2] at hk
        | some ks' =>
          simp [h1, h2] at hk; subst hk
          cases h3 : xs.toList.drop n with
          | nil => rw [h3] at hb; simp [scEqs] at hb
          | cons x l =>
            cases h4 : ys.toList.drop n with
            | nil => rw [h3, h4] at hb; simp [scEqs] at hb
            | cons y m =>
              rw [h3, h4] at hb
              have hx : xs.toList[n]? = some x := by
                have := List.getElem?_drop (xs := xs.toList) (i := n) (j := 0)
                rw [h3] at this; simpa using this.symm
              have hy : ys.toList[n]? = some y := by
                have := List.getElem?_drop (xs := ys.toList) (i := n) (j := 0)
                rw [h4] at this; simpa using this.symm
              have hl : xs.toList.drop (n + 1) = l := by rw [← List.drop_drop, h3]; rfl
              have hm : ys.toList.drop (n + 1) = m := by rw [← List.drop_drop, h4]; rfl
              simp only [scEqs] at hb
              have px := run_part1 (P := P) (scT_agg h1) (ho ▸ hx)
              have py := run_part1 (P := P) (scT_agg h1) (ho ▸ hy)
              cases h5 : scEq k x y with
              | none => simp [h5] at hb
              | some r =>
                have he := scEq_run (P := P) h1 h5 d
                cases r with
                | false =>
                  simp [h5] at hb; subst hb
                  simp [Op.eqFields, hn, px, py, he]
                | true =>
                  simp only [h5] at hb
                  have := run_eqFields (d := d) (xs := xs) (ys := ys) fs (n + 1) ks' h2 b (by rw [hl, hm]; exact hb) w
                  simp [Op.eqFields, hn, px, py, he, this]
    · cases hk

end
end Go.Mach
