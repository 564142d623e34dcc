/- The abstract machine, part 4: what a resolved operation does, the model's operation does (the operations that make no block and change none). No condition.
Merged from 2 texts. -/
import Derived.Test.YtlipmjpapkfaeaaGreatDoorZD1
import Derived.Laws.Slices
import Derived.Laws.BytesString
section
set_option linter.unusedSimpArgs false
set_option linter.unusedVariables false
namespace Go.Mach
open Go Go.RowKit
def Sim (P : Program) (W : World) (μ : PMap) (h : AHeap) (w : World) (s : Sem Next) (v : Value) (h' : AHeap) : Prop :=
  ∃ nx v' w' μ', s.run P w = .ok nx w' ∧ (nx = .value v' ∨ (nx = .skip ∧ v' = undef)) ∧ VR μ' v v' ∧ HR W μ' h' w' ∧ Ext μ h.next μ' ∧ h.next ≤ h'.next
section
variable {P : Program} {W : World} {μ : PMap} {h : AHeap} {w : World} {ρ ρ' : Operand → Value}
theorem Sim.val (H : HR W μ h w) {s : Sem Value} {v v' : Value} (hrun : s.run P w = .ok v' w) (hv : VR μ v v') :
    Sim P W μ h w (do pure (.value (← s))) v h :=
  ⟨.value v', v', w, μ, by simp [hrun], .inl rfl, hv, H, Ext.refl _ _, Nat.le_refl _⟩
theorem Sim.valw {s : Sem Value} {v v' : Value} {w' : World} {μ' : PMap} {h' : AHeap} (hrun : s.run P w = .ok v' w') (hv : VR μ' v v') (H : HR W μ' h' w')
    (he : Ext μ h.next μ') (hn : h.next ≤ h'.next) : Sim P W μ h w (do pure (.value (← s))) v h' :=
  ⟨.value v', v', w', μ', by simp [hrun], .inl rfl, hv, H, he, hn⟩
theorem Sim.unit {s : Sem Unit} {w' : World} {h' : AHeap} (hrun : s.run P w = .ok () w') (H : HR W μ h' w') (hn : h'.next = h.next) :
    Sim P W μ h w (do s; pure .skip) undef h' :=
  ⟨.skip, undef, w', μ, by simp [hrun], .inr ⟨rfl, rfl⟩, VR.undef, H, Ext.refl _ _, by omega⟩
theorem some_map {α β : Type} {o : Option α} {f : α → β} {b : β} (h : o.map f = some b) : ∃ a, o = some a ∧ f a = b := by
  cases o with
  | none => cases h
  | some a => exact ⟨a, rfl, Option.some.inj h⟩
theorem aggT_run {t : TypeId} {b : Bool} (hb : aggT P t = some b) (w : World) : (isAgg t).run P w = .ok b w := by
  unfold aggT at hb
  cases hu : P.underlying t with
  | none => simp [hu] at hb
  | some d =>
    simp only [hu] at hb
    unfold isAgg
    rw [Sem.run_bind, run_underlying hu]
    cases d <;> simp_all
theorem sizeT_run {t : TypeId} {n : Nat} (hn : sizeT P t = some n) (w : World) : (sizeOf t).run P w = .ok n w := by
  unfold sizeT at hn
  obtain ⟨i, hi, rfl⟩ := some_map hn
  simp [sizeOf, typeInfo, hi]
theorem bytesT_run {t : TypeId} {n : Nat} (hn : bytesT P t = some n) : ∃ i, P.info? t = some i ∧ i.bytes = n := by
  unfold bytesT at hn
  exact some_map hn
theorem zeroT_run {t : TypeId} {z : Value} (hz : zeroT P t = some z) (w : World) : (zeroValue t).run P w = .ok z w := by
  unfold zeroT at hz
  cases hi : P.info? t with
  | none => simp [hi] at hz
  | some i =>
    simp [hi] at hz
    simp [zeroValue, typeInfo, hi, hz]
theorem zerosT_spec {t : TypeId} {z : List Value} (hz : zerosT P t = some z) :
    ∃ v n, zeroT P t = some v ∧ sizeT P t = some n ∧ z = celsL v ∧ z.length = n ∧ z.all plainV = true := by
  unfold zerosT at hz
  cases h1 : zeroT P t with
  | none => simp [h1] at hz
  | some v =>
    cases h2 : sizeT P t with
    | none => simp [h1, h2] at hz
    | some n =>
      simp only [h1, h2] at hz
      split at hz
      · rename_i hc
        cases hz
        simp only [Bool.and_eq_true, beq_iff_eq] at hc
        exact ⟨v, n, rfl, rfl, rfl, hc.1, hc.2⟩
      · cases hz
theorem sim_load1 (H : HR W μ h w) {t : TypeId} (ht : aggT P t = some false) {x : Operand} {v : Value} (hx : VR μ (ρ x) (ρ' x)) {h' : AHeap}
    (hr : rop W ρ h (.load1 x) = some (v, h')) :
    Sim P W μ h w (do pure (.value (← Instr.loadAt t (ρ' x)))) v h' := by
  simp only [rop] at hr
  split at hr
  · rename_i a heq
    rw [heq] at hx
    obtain ⟨u, hu, he⟩ := some_map hr
    cases he
    obtain ⟨a', hx', ha⟩ := hx.ptr_AR
    obtain ⟨v', hc, hv, _⟩ := aload1_sim H ha hu
    refine Sim.val H (v' := v') ?_ hv
    simp [hx', Instr.loadAt, Instr.sureAddr, loadVar, aggT_run ht, hc]
  · cases hr
theorem sim_loadN (H : HR W μ h w) {t : TypeId} {n : Nat} (ht : aggT P t = some true) (hn : sizeT P t = some n) {x : Operand} {v : Value} (hx : VR μ (ρ x) (ρ' x)) {h' : AHeap}
    (hr : rop W ρ h (.loadN x n) = some (v, h')) :
    Sim P W μ h w (do pure (.value (← Instr.loadAt t (ρ' x)))) v h' := by
  simp only [rop] at hr
  split at hr
  · rename_i a heq
    rw [heq] at hx
    obtain ⟨l, hl, he⟩ := some_map hr
    cases he
    obtain ⟨a', hx', ha⟩ := hx.ptr_AR
    obtain ⟨l', hrs, hlen, hone, hcs⟩ := aloadN_sim H n ha hl
    refine Sim.val H (v' := .agg l'.toArray) ?_ hrs.agg
    have hl' : l'.length = n := by rw [← hrs.1, hlen]
    have := run_loadCells_list (P := P) w a' l' hcs
    rw [hl'] at this
    simp [hx', Instr.loadAt, Instr.sureAddr, loadVar, aggT_run ht, sizeT_run hn, this]
  · cases hr
theorem sim_store (H : HR W μ h w) {t : TypeId} {n : Nat} (hn : sizeT P t = some n) {x u : Operand} {v : Value} (hx : VR μ (ρ x) (ρ' x)) (hu : VR μ (ρ u) (ρ' u)) {h' : AHeap}
    (hr : rop W ρ h (.store x u n) = some (v, h')) :
    Sim P W μ h w (do Instr.storeAt t (ρ' x) (ρ' u); pure .skip) v h' := by
  simp only [rop] at hr
  split at hr
  · rename_i a heq
    rw [heq] at hx
    cases hb : Nat.beq (celsL (ρ u)).length n with
    | false => simp [hb] at hr
    | true =>
      simp only [hb, cond_true] at hr
      obtain ⟨h'', hs, he⟩ := some_map hr
      cases he
      obtain ⟨a', hx', ha⟩ := hx.ptr_AR
      obtain ⟨w', hrun, H', hnx⟩ := astore_sim H ha hu.cels hs P
      refine Sim.unit (w' := w') ?_ H' hnx
      have hlen : (celsL (ρ' u)).length = n := by rw [← hu.cels.1]; simpa [Tr.nbeq] using hb
      have hsz : (ρ' u).cells.size = n := by rw [← Array.length_toList, cells_toList]; exact hlen
      simp [hx', Instr.storeAt, Instr.sureAddr, storeVar, sizeT_run hn, hsz, cells_toList, hrun]
  · cases hr
theorem sim_addOff (H : HR W μ h w) {t : TypeId} {f : Nat} {fs : Array Field} {fd : Field} {n : Nat} (ht : P.underlying t = some (.struct fs)) (hf : fs[f]? = some fd)
    (hn : sizeT P fd.type = some n) (h0 : n ≠ 0) {x : Operand} {v : Value} (hx : VR μ (ρ x) (ρ' x)) {h' : AHeap}
    (hr : rop W ρ h (.addOff x fd.offset) = some (v, h')) :
    Sim P W μ h w (do pure (.value (← Instr.fieldAt t (ρ' x) f))) v h' := by
  simp only [rop] at hr
  split at hr
  · rename_i a heq
    rw [heq] at hx
    cases hr
    obtain ⟨a', hx', ha⟩ := hx.ptr_AR
    refine Sim.val H (v' := .pointer (some (a'.add fd.offset))) ?_ (ha.add _).ptr
    simp [hx', Instr.fieldAt, Instr.sureAddr, run_underlying ht, hf, fieldPlace, sizeT_run hn, h0]
  · cases hr
theorem sim_idxA (H : HR W μ h w) {t e : TypeId} {esz : Nat} (ht : P.underlying t = some (.slice e)) (hn : sizeT P e = some esz) {x x' i i' v : Value} (hx : VR μ x x') (hi : VR μ i i')
    (hr : idxV esz x i = some v) : Sim P W μ h w (do pure (.value (← Instr.indexAt t x' i'))) v h := by
  unfold idxV at hr
  split at hr
  · rename_i a n c k kk
    obtain rfl := hi.int
    cases hb : (decide (0 ≤ kk) && decide (kk < (n : Int)) && (a.spot.isNone || Nat.beq c esz)) with
    | false => simp [hb] at hr
    | true =>
      simp [hb] at hr
      subst hr
      simp only [Bool.and_eq_true, decide_eq_true_eq, Bool.or_eq_true, Tr.nbeq] at hb
      obtain ⟨⟨h1, h2⟩, h3⟩ := hb
      rcases hx.slice_inv with ⟨hs, rfl⟩ | ⟨hs, p, o', c', hp, hc, hnc, hfit, ho, rfl⟩ | ⟨_, hn1, _⟩
      rotate_left 2
      · exfalso; omega
      · refine Sim.val H (v' := .pointer (some (a.add (kk.toNat * esz)))) ?_ ?_
        · simp [Instr.indexAt, asIntOf, run_underlying ht, h1, h2, sizeT_run hn]
        · rw [aadd_base hs]; exact .plain (by simp [plainV, aadd, hs])
      · have hn0 : n ≠ 0 := by omega
        have := ho hn0
        subst this
        refine Sim.val H (v' := .pointer (some ((⟨p.blk, a.off + p.shift, none⟩ : Addr).add (kk.toNat * esz)))) ?_ ?_
        · simp [Instr.indexAt, asIntOf, run_underlying ht, h1, h2, sizeT_run hn]
        · have har : AR μ a ⟨p.blk, a.off + p.shift, none⟩ := .inr ⟨hs, p, hp, rfl⟩
          exact (har.add _).ptr
  · cases hr
theorem sim_idxArr (H : HR W μ h w) {t e : TypeId} {len esz : Nat} (ht : P.underlying t = some (.array len e)) (hn : sizeT P e = some esz) {x x' i i' v : Value} (hx : VR μ x x') (hi : VR μ i i')
    (hr : idxArrV len esz x i = some v) : Sim P W μ h w (do pure (.value (← Instr.indexAt t x' i'))) v h := by
  unfold idxArrV at hr
  split at hr
  · rename_i a k kk
    obtain rfl := hi.int
    cases hb : (decide (0 ≤ kk) && decide (kk < (len : Int))) with
    | false => simp [hb] at hr
    | true =>
      simp [hb] at hr
      subst hr
      simp only [Bool.and_eq_true, decide_eq_true_eq] at hb
      obtain ⟨h1, h2⟩ := hb
      obtain ⟨a', hx', ha⟩ := hx.ptr_AR
      refine Sim.val H (v' := .pointer (some (a'.add (kk.toNat * esz)))) ?_ (ha.add _).ptr
      simp [hx', Instr.indexAt, Instr.sureAddr, asIntOf, run_underlying ht, h1, h2, sizeT_run hn]
  · cases hr
theorem sim_idxStr (H : HR W μ h w) {t : TypeId} (ht : P.underlying t = some .string) {x x' i i' v : Value} (hx : VR μ x x') (hi : VR μ i i')
    (hr : idxStrV x i = some v) : Sim P W μ h w (do pure (.value (← Instr.index t x' i'))) v h := by
  unfold idxStrV at hr
  split at hr
  · rename_i s k kk
    obtain rfl := hi.int
    obtain rfl := hx.string
    cases hb : decide (0 ≤ kk) with
    | false => simp [hb] at hr
    | true =>
      simp only [hb, cond_true] at hr
      cases hg : s.data.toList[kk.toNat]? with
      | none => simp [hg] at hr
      | some b =>
        simp only [hg] at hr
        cases hr
        simp only [decide_eq_true_eq] at hb
        have hlt : kk.toNat < s.data.toList.length := by
          rcases Nat.lt_or_ge kk.toNat s.data.toList.length with h' | h'
          · exact h'
          · simp [List.getElem?_eq_none h'] at hg
        have hs : s[kk.toNat]? = some b := by
          have hlt' : kk.toNat < s.size := by simpa using hlt
          rw [getElem?_pos s kk.toNat hlt']
          rw [List.getElem?_eq_getElem hlt] at hg
          have e : s[kk.toNat]'hlt' = s.data.toList[kk.toNat]'hlt := rfl
          rw [e]; exact hg
        refine Sim.val H (v' := .int .u8 b.toNat) ?_ (.plain rfl)
        simp [Instr.index, asIntOf, run_underlying ht, hb, hs]
  · cases hr
theorem sim_part1 (H : HR W μ h w) {t : TypeId} {f : Nat} {fs : Array Field} {fd : Field} (ht : P.underlying t = some (.struct fs)) (hf : fs[f]? = some fd)
    (hn : aggT P fd.type = some false) {x : Operand} {v : Value} (hx : VR μ (ρ x) (ρ' x)) {h' : AHeap}
    (hr : rop W ρ h (.part1 x fd.offset) = some (v, h')) :
    Sim P W μ h w (do pure (.value (← Instr.field t (ρ' x) f))) v h' := by
  simp only [rop] at hr
  split at hr
  · rename_i cs heq
    rw [heq] at hx
    obtain ⟨ys, hx', hrs⟩ := hx.agg_inv
    cases hg : cs.toList[fd.offset]? with
    | none => simp [hg] at hr
    | some u =>
      simp only [hg] at hr
      cases hr
      obtain ⟨v', hv', hr'⟩ := hrs.2 _ _ hg
      refine Sim.val H (v' := v') ?_ hr'
      simp only [Array.getElem?_toList] at hv'
      simp [hx', Instr.field, run_underlying ht, hf, part, asAgg, aggT_run hn, hv']
  · cases hr
theorem extract_eq (l : Array Value) (o n : Nat) : l.extract o (o + n) = ((l.toList.drop o).take n).toArray := by
  apply Array.ext'
  simp [List.take_drop, Nat.add_sub_cancel_left]
theorem sim_partN (H : HR W μ h w) {t : TypeId} {f n : Nat} {fs : Array Field} {fd : Field} (ht : P.underlying t = some (.struct fs)) (hf : fs[f]? = some fd)
    (hn : aggT P fd.type = some true) (hs : sizeT P fd.type = some n) {x : Operand} {v : Value} (hx : VR μ (ρ x) (ρ' x)) {h' : AHeap}
    (hr : rop W ρ h (.partN x fd.offset n) = some (v, h')) :
    Sim P W μ h w (do pure (.value (← Instr.field t (ρ' x) f))) v h' := by
  simp only [rop] at hr
  split at hr
  · rename_i cs heq
    rw [heq] at hx
    obtain ⟨ys, hx', hrs⟩ := hx.agg_inv
    cases hr
    refine Sim.val H (v' := .agg ((ys.toList.drop fd.offset).take n).toArray) ?_ ((hrs.drop _).take _).agg
    simp only [hx', Instr.field, run_underlying ht, hf, part, asAgg, Sem.run_bind, Sem.run_pure, Result.andThen_ok, aggT_run hn, if_true, sizeT_run hs, extract_eq]
  · cases hr
theorem run_intBin {op : BinOp} {k : IntKind} {a b : Int} {v : Value} (hs : isSh op = false) (hr : intBin op k a b = some v) (t : TypeId) :
    (binOp op t (.int k a) (.int k b)).run P w = .ok v w ∧ plainV v = true := by
  cases op <;> simp [isSh] at hs <;> simp only [intBin] at hr <;>
    first
      | (cases hr; done)
      | (cases hb : (b == 0) with
         | true => simp [hb] at hr
         | false =>
           simp [hb] at hr; subst hr
           have hb' : b ≠ 0 := by simpa using hb
           exact ⟨by simp [binOp, Op.intDiv, hb'], rfl⟩)
      | (simp at hr; subst hr; exact ⟨by simp [binOp, Op.intArith, Op.intBits, Op.intCmp], rfl⟩)
theorem run_intSh {op : BinOp} {k k' : IntKind} {a b : Int} {v : Value} (hs : isSh op = true) (hr : intSh op k a b = some v) (t : TypeId) :
    (binOp op t (.int k a) (.int k' b)).run P w = .ok v w ∧ plainV v = true := by
  unfold intSh at hr
  cases hb : decide (b < 0) with
  | true => simp [hb] at hr
  | false =>
    have hb' : ¬ (b < 0) := by simpa using hb
    simp only [hb, cond_false] at hr
    cases op <;> simp [isSh] at hs <;> simp at hr <;> subst hr <;> exact ⟨by simp [binOp, Op.shift, hb'], rfl⟩
theorem run_strBin {op : BinOp} {a b : ByteArray} {v : Value} (hr : strBin op a b = some v) (t : TypeId) :
    (binOp op t (.string a) (.string b)).run P w = .ok v w ∧ plainV v = true := by
  cases op <;> simp only [strBin] at hr <;>
    first
      | (cases hr; done)
      | (cases hb : Nat.ble (a.size + b.size) 1099511627776 with
         | false => simp [hb] at hr
         | true =>
           simp [hb] at hr; subst hr
           have hb' : a.size + b.size ≤ 1099511627776 := by simpa using hb
           refine ⟨?_, rfl⟩
           have : ¬ (((a.size + b.size : Nat) : Int) > IntKind.i64.max) := by
             have : IntKind.i64.max = 9223372036854775807 := by decide
             rw [this]; omega
           simp only [binOp, Op.stringOp, this, if_false, Sem.run_pure])
      | (simp at hr; subst hr; exact ⟨by simp [binOp, Op.stringOp, ByteArray.toList_eq], rfl⟩)
theorem scT_spec {t : TypeId} {k : SK} (ht : scT P t = some k) : ∃ u, P.underlying t = some u ∧ ((k = .b ∧ u = .bool) ∨ (k = .i ∧ ∃ q, u = .int q) ∨ (k = .s ∧ u = .string)) := by
  unfold scT at ht
  cases hu : P.underlying t with
  | none => simp [hu] at ht
  | some u =>
    refine ⟨u, rfl, ?_⟩
    simp only [hu] at ht
    cases u <;> simp at ht <;> subst ht <;> simp
theorem scEq_run {t : TypeId} {k : SK} (ht : scT P t = some k) {x y : Value} {b : Bool} (hb : scEq k x y = some b) (d : Nat) (w : World) :
    (Op.equalIn (d + 1) t x y).run P w = .ok b w := by
  obtain ⟨u, hu, hk⟩ := scT_spec ht
  unfold scEq at hb
  split at hb
  · rename_i q a q' a'
    cases hq : decide (q = q') with
    | false => simp [hq] at hb
    | true =>
      simp [hq] at hb; subst hb
      have : q = q' := by simpa using hq
      subst this
      rcases hk with ⟨hk, _⟩ | ⟨_, r, rfl⟩ | ⟨hk, _⟩
      · cases hk
      · simp [Op.equalIn, run_underlying hu]
      · cases hk
  · simp at hb; subst hb
    rcases hk with ⟨_, rfl⟩ | ⟨hk, _⟩ | ⟨hk, _⟩
    · simp [Op.equalIn, run_underlying hu]
    · cases hk
    · cases hk
  · simp at hb; subst hb
    rcases hk with ⟨hk, _⟩ | ⟨hk, _⟩ | ⟨_, rfl⟩
    · cases hk
    · cases hk
    · simp [Op.equalIn, run_underlying hu, beq_toListBytes, ByteArray.toList_eq]
  · cases hb
theorem scEq_one {k : SK} {x y : Value} {b : Bool} (hb : scEq k x y = some b) : plainV x = true ∧ plainV y = true := by
  unfold scEq at hb
  split at hb <;> first | exact ⟨rfl, rfl⟩ | cases hb
theorem scT_agg {t : TypeId} {k : SK} (ht : scT P t = some k) : aggT P t = some false := by
  obtain ⟨u, hu, hk⟩ := scT_spec ht
  unfold aggT
  rw [hu]
  rcases hk with ⟨_, rfl⟩ | ⟨_, r, rfl⟩ | ⟨_, rfl⟩ <;> rfl
theorem run_part1 {t : TypeId} (ht : aggT P t = some false) {cs : Array Value} {o : Nat} {v : Value} (hv : cs.toList[o]? = some v) (w : World) : (part t cs o).run P w = .ok v w := by
  simp only [Array.getElem?_toList] at hv
  simp [part, aggT_run ht, hv]
theorem run_eqFields {d : Nat} {xs ys : Array Value} : ∀ (fs : List Field) (n : Nat) (ks : List SK), scFields P n fs = some ks → ∀ b, scEqs ks (xs.toList.drop n) (ys.toList.drop n) = some b →
    ∀ w, (Op.eqFields (d + 1) xs ys fs).run P w = .ok b w
  | [], n, ks, hk, b, hb, w => by
    simp [scFields] at hk; subst hk
    cases h1 : xs.toList.drop n with
    | nil =>
      cases h2 : ys.toList.drop n with
      | nil => rw [h1, h2] at hb; simp [scEqs] at hb; subst hb; simp [Op.eqFields]
      | cons y l => rw [h1, h2] at hb; simp [scEqs] at hb
    | cons x l => rw [h1] at hb; simp [scEqs] at hb
  | f :: fs, n, ks, hk, b, hb, w => by
    unfold scFields at hk
    split at hk
    · rename_i hc
      simp only [Bool.and_eq_true, bne_iff_ne, ne_eq, beq_iff_eq] at hc
      obtain ⟨hn, ho⟩ := hc
      cases h1 : scT P f.type with
      | none => simp [h1] at hk
      | some k =>
        cases h2 : scFields P (n + 1) fs with
        | none => simp [h1, h2] at hk
        | some ks' =>
          simp [h1, h2] at hk; subst hk
          cases h3 : xs.toList.drop n with
          | nil => rw [h3] at hb; simp [scEqs] at hb
          | cons x l =>
            cases h4 : ys.toList.drop n with
            | nil => rw [h3, h4] at hb; simp [scEqs] at hb
            | cons y m =>
              rw [h3, h4] at hb
              have hx : xs.toList[n]? = some x := by
                have := List.getElem?_drop (xs := xs.toList) (i := n) (j := 0)
                rw [h3] at this; simpa using this.symm
              have hy : ys.toList[n]? = some y := by
                have := List.getElem?_drop (xs := ys.toList) (i := n) (j := 0)
                rw [h4] at this; simpa using this.symm
              have hl : xs.toList.drop (n + 1) = l := by rw [← List.drop_drop, h3]; rfl
              have hm : ys.toList.drop (n + 1) = m := by rw [← List.drop_drop, h4]; rfl
              simp only [scEqs] at hb
              have px := run_part1 (P := P) (scT_agg h1) (ho ▸ hx)
              have py := run_part1 (P := P) (scT_agg h1) (ho ▸ hy)
              cases h5 : scEq k x y with
              | none => simp [h5] at hb
              | some r =>
                have he := scEq_run (P := P) h1 h5 d
                cases r with
                | false =>
                  simp [h5] at hb; subst hb
                  simp [Op.eqFields, hn, px, py, he]
                | true =>
                  simp only [h5] at hb
                  have := run_eqFields (d := d) (xs := xs) (ys := ys) fs (n + 1) ks' h2 b (by rw [hl, hm]; exact hb) w
                  simp [Op.eqFields, hn, px, py, he, this]
    · cases hk
end
end Go.Mach
end
section
set_option linter.unusedSimpArgs false
set_option linter.unusedVariables false
namespace Go.Mach
open Go Go.RowKit
section
variable {P : Program} {W : World} {μ : PMap} {h : AHeap} {w : World} {ρ ρ' : Operand → Value}
def arrBody (d : Nat) (e : TypeId) (xs ys : Array Value) (i : Nat) : Sem (ForInStep (Option Bool × PUnit)) := do
  let a ← part e xs (i * 1)
  let b ← part e ys (i * 1)
  let c ← Op.equalIn (d + 1) e a b
  if (!c) = true then pure (ForInStep.done (some false, PUnit.unit)) else pure (ForInStep.yield (none, PUnit.unit))
theorem run_arrayLoop {d : Nat} {e : TypeId} {k : SK} (hk : scT P e = some k) {xs ys : Array Value} (w : World) : ∀ (m n : Nat) (b : Bool),
    scEqs (List.replicate m k) (xs.toList.drop n) (ys.toList.drop n) = some b →
    ∃ r, Sem.run P (forIn (List.range' n m) ((none : Option Bool), PUnit.unit) (fun i _ => arrBody d e xs ys i)) w = Result.ok r w ∧ (r.1 = if b then none else some false)
  | 0, n, b, hb => by
    have : b = true := by
      cases h1 : xs.toList.drop n <;> cases h2 : ys.toList.drop n <;> rw [h1, h2] at hb <;> simp [scEqs] at hb
      exact hb
    subst this
    exact ⟨(none, PUnit.unit), by simp, rfl⟩
  | m + 1, n, b, hb => by
    simp only [List.replicate_succ] at hb
    cases h3 : xs.toList.drop n with
    | nil => rw [h3] at hb; simp [scEqs] at hb
    | cons x l =>
      cases h4 : ys.toList.drop n with
      | nil => rw [h3, h4] at hb; simp [scEqs] at hb
      | cons y q =>
        rw [h3, h4] at hb
        have hx : xs.toList[n]? = some x := by
          have := List.getElem?_drop (xs := xs.toList) (i := n) (j := 0)
          rw [h3] at this; simpa using this.symm
        have hy : ys.toList[n]? = some y := by
          have := List.getElem?_drop (xs := ys.toList) (i := n) (j := 0)
          rw [h4] at this; simpa using this.symm
        have hl : xs.toList.drop (n + 1) = l := by rw [← List.drop_drop, h3]; rfl
        have hm : ys.toList.drop (n + 1) = q := by rw [← List.drop_drop, h4]; rfl
        simp only [scEqs] at hb
        have px := run_part1 (P := P) (scT_agg hk) hx w
        have py := run_part1 (P := P) (scT_agg hk) hy w
        cases h5 : scEq k x y with
        | none => simp [h5] at hb
        | some r =>
          have he := scEq_run (P := P) hk h5 d w
          cases r with
          | false =>
            simp [h5] at hb; subst hb
            refine ⟨(some false, PUnit.unit), ?_, rfl⟩
            simp [List.range'_succ, arrBody, px, py, he]
          | true =>
            simp only [h5] at hb
            obtain ⟨r', h6, h7⟩ := run_arrayLoop (d := d) hk (xs := xs) (ys := ys) w m (n + 1) b (by rw [hl, hm]; exact hb)
            refine ⟨r', ?_, h7⟩
            simp only [List.range'_succ, List.forIn_cons, arrBody, Sem.run_bind, Nat.mul_one, px, py, he, Result.andThen_ok, Bool.not_true, Bool.false_eq_true, if_false, Sem.run_pure]
            simpa [arrBody] using h6
theorem run_equalIn_array {d : Nat} {t e : TypeId} {len : Nat} {k : SK} (ht : P.underlying t = some (.array len e)) (hs : sizeT0 P e = some 1) (hk : scT P e = some k) {xs ys : Array Value} {b : Bool}
    (hb : scEqs (List.replicate len k) xs.toList ys.toList = some b) (w : World) : (Op.equalIn (d + 2) t (.agg xs) (.agg ys)).run P w = .ok b w := by
  have hs' : sizeT P e = some 1 := hs
  obtain ⟨r, h1, h2⟩ := run_arrayLoop (P := P) (d := d) hk (xs := xs) (ys := ys) w len 0 b (by simpa using hb)
  rw [Op.equalIn]
  simp only [Sem.run_bind, run_underlying ht, Result.andThen_ok, sizeT_run hs']
  simp only [Std.Legacy.Range.forIn_eq_forIn_range', Std.Legacy.Range.size, Nat.sub_zero, Nat.add_sub_cancel, Nat.div_one]
  have h1' : Sem.run P (forIn (List.range' 0 len) (none, ()) fun i (__s : Option Bool × Unit) => do
            let __do_lift ← part e xs (i * 1)
            let __do_lift_1 ← part e ys (i * 1)
            let __do_lift ← Op.equalIn (d + 1) e __do_lift __do_lift_1
            if (!__do_lift) = true then pure (ForInStep.done (some false, ())) else pure (ForInStep.yield (none, ()))) w = Result.ok r w := h1
  rw [h1', Result.andThen_ok, h2]
  cases b <;> simp
theorem eqTyOf_agg {t : TypeId} {ks : List SK} (ht : eqTyOf P t = some (.agg ks)) :
    P.eqGuardType P.depth t = false ∧
    ((∃ fs, P.underlying t = some (.struct fs) ∧ P.stoodInHeld t = false ∧ scFields P 0 fs.toList = some ks) ∨
     (∃ n e k, P.underlying t = some (.array n e) ∧ sizeT0 P e = some 1 ∧ scT P e = some k ∧ ks = List.replicate n k)) := by
  unfold eqTyOf at ht
  cases hu : P.underlying t with
  | none => simp [hu] at ht
  | some u =>
    simp only [hu] at ht
    cases u <;> simp at ht
    case struct fs =>
      obtain ⟨⟨h1, h2⟩, h3⟩ := ht
      exact ⟨h2, .inl ⟨fs, rfl, h1, h3⟩⟩
    case array n e =>
      obtain ⟨⟨h1, h2⟩, k, h3, h4⟩ := ht
      exact ⟨h1, .inr ⟨n, e, k, rfl, h2, h3, h4.symm⟩⟩
theorem eqTyOf_sc {t : TypeId} {k : SK} (ht : eqTyOf P t = some (.sc k)) : scT P t = some k := by
  unfold eqTyOf at ht
  unfold scT
  cases hu : P.underlying t with
  | none => simp [hu] at ht
  | some u =>
    simp only [hu] at ht ⊢
    cases u <;> simp at ht ⊢ <;> exact ht
theorem run_equal_agg {t : TypeId} {ks : List SK} (ht : eqTyOf P t = some (.agg ks)) {xs ys : Array Value} {b : Bool} (hb : scEqs ks xs.toList ys.toList = some b) (w : World) :
    (Op.equal t (.agg xs) (.agg ys)).run P w = .ok b w := by
  obtain ⟨_, h⟩ := eqTyOf_agg ht
  unfold Op.equal Op.maxDepth
  rcases h with ⟨fs, hu, hsi, hf⟩ | ⟨n, e, k, hu, hs, hk, rfl⟩
  · have hfo : P.fieldsOf t = fs := by unfold Program.fieldsOf; rw [hu]
    rw [run_equalIn_struct (P := P) w 9999 t xs ys (by rw [hfo]; exact hu) hsi, hfo]
    exact run_eqFields (d := 9998) fs.toList 0 ks hf b (by simpa using hb) w
  · exact run_equalIn_array (d := 9998) hu hs hk hb w
theorem equal_one {t : TypeId} {x y : Value} : Op.equal t x y = Op.equalIn (9999 + 1) t x y := rfl
theorem eq_ptr_l {t el : TypeId} (hu : P.underlying t = some (.pointer el)) (b : Option Addr) (w : World) : (Op.equal t (.pointer none) (.pointer b)).run P w = .ok b.isNone w := by
  rw [equal_one, Op.equalIn]
  simp only [Sem.run_bind, run_underlying hu, Result.andThen_ok]
  cases b <;> rfl
theorem eq_ptr_r {t el : TypeId} (hu : P.underlying t = some (.pointer el)) (a : Addr) (w : World) : (Op.equal t (.pointer (some a)) (.pointer none)).run P w = .ok false w := by
  rw [equal_one, Op.equalIn]
  simp only [Sem.run_bind, run_underlying hu, Result.andThen_ok]
  rfl
theorem eq_slc_l {t el : TypeId} (hu : P.underlying t = some (.slice el)) (b : Option Addr) (n c n' c' : Nat) (w : World) : (Op.equal t (.slice none n c) (.slice b n' c')).run P w = .ok b.isNone w := by
  rw [equal_one, Op.equalIn]
  simp only [Sem.run_bind, run_underlying hu, Result.andThen_ok]
  cases b <;> rfl
theorem eq_slc_r {t el : TypeId} (hu : P.underlying t = some (.slice el)) (a : Addr) (n c n' c' : Nat) (w : World) : (Op.equal t (.slice (some a) n c) (.slice none n' c')).run P w = .ok false w := by
  rw [equal_one, Op.equalIn]
  simp only [Sem.run_bind, run_underlying hu, Result.andThen_ok]
  rfl
theorem eq_fn {t : TypeId} {ps rs : Array TypeId} {va : Bool} (hu : P.underlying t = some (.func ps rs va)) (fn : Fn) (fs xs : Array Value) (w : World) :
    (Op.equal t .nilFunc .nilFunc).run P w = .ok true w ∧ (Op.equal t .nilFunc (.func fn fs xs)).run P w = .ok false w ∧ (Op.equal t (.func fn fs xs) .nilFunc).run P w = .ok false w := by
  refine ⟨?_, ?_, ?_⟩ <;> (rw [equal_one, Op.equalIn]; simp only [Sem.run_bind, run_underlying hu, Result.andThen_ok]; rfl)
theorem keq_run {t : TypeId} {e : EqTy} (ht : eqTyOf P t = some e) {x y : Value} {b : Bool} (hb : keq e x y = some b) {μ : PMap} {x' y' : Value} (hx : VR μ x x') (hy : VR μ y y') (w : World) :
    (Op.equal t x' y').run P w = .ok b w ∧ ∀ op xo yo, (eqGuard op t xo yo x' y').run P w = .ok () w := by
  unfold keq at hb
  split at hb
  · rename_i k x y
    obtain ⟨h1, h2⟩ := scEq_one hb
    obtain rfl := hx.plain_inv h1
    obtain rfl := hy.plain_inv h2
    have := scEq_run (P := P) (eqTyOf_sc ht) hb 9999 w
    refine ⟨this, fun op xo yo => ?_⟩
    unfold scEq at hb
    split at hb <;> first | (cases op <;> simp [eqGuard]; done) | cases hb
  · rename_i ks xs ys
    obtain ⟨xs', rfl, hxs⟩ := hx.agg_inv
    obtain ⟨ys', rfl, hys⟩ := hy.agg_inv
    have key : ∀ (ks : List SK) (l m l' m' : List Value) (b : Bool), scEqs ks l m = some b → VRs μ l l' → VRs μ m m' → scEqs ks l' m' = some b := by
      intro ks
      induction ks with
      | nil =>
        intro l m l' m' b hb hl hm
        cases l <;> cases m <;> simp [scEqs] at hb
        have h1 : l' = [] := List.eq_nil_of_length_eq_zero (by have := hl.1; simpa using this.symm)
        have h2 : m' = [] := List.eq_nil_of_length_eq_zero (by have := hm.1; simpa using this.symm)
        subst h1; subst h2; subst hb; rfl
      | cons k ks ih =>
        intro l m l' m' b hb hl hm
        cases l with
        | nil => simp [scEqs] at hb
        | cons a l =>
          cases m with
          | nil => simp [scEqs] at hb
          | cons c m =>
            cases l' with
            | nil => have := hl.1; simp at this
            | cons a' l' =>
              cases m' with
              | nil => have := hm.1; simp at this
              | cons c' m' =>
                simp only [scEqs] at hb ⊢
                have tl : VRs μ l l' := ⟨by have := hl.1; simpa using this, fun i v hv => by have := hl.2 (i + 1) v (by simpa using hv); simpa using this⟩
                have tm : VRs μ m m' := ⟨by have := hm.1; simpa using this, fun i v hv => by have := hm.2 (i + 1) v (by simpa using hv); simpa using this⟩
                obtain ⟨u, hu, ha⟩ := hl.2 0 a rfl
                obtain ⟨u', hu', hc⟩ := hm.2 0 c rfl
                simp at hu hu'; subst hu; subst hu'
                cases he : scEq k a c with
                | none => simp [he] at hb
                | some r =>
                  obtain ⟨p1, p2⟩ := scEq_one he
                  obtain rfl := ha.plain_inv p1
                  obtain rfl := hc.plain_inv p2
                  rw [he] at hb ⊢
                  cases r with
                  | true => exact ih l m l' m' b hb tl tm
                  | false => exact hb
    have hb' := key ks _ _ _ _ b hb hxs hys
    refine ⟨run_equal_agg ht hb' w, fun op xo yo => ?_⟩
    exact run_eqGuard_agg w op t xo yo xs' ys' (eqTyOf_agg ht).1
  · rename_i y
    obtain rfl := hx.plain_inv rfl
    have hu : ∃ el, P.underlying t = some (.pointer el) := by
      unfold eqTyOf at ht
      cases hu : P.underlying t with
      | none => simp [hu] at ht
      | some u => simp only [hu] at ht; cases u <;> simp at ht; exact ⟨_, rfl⟩
    obtain ⟨el, hu⟩ := hu
    cases hb
    refine ⟨?_, fun op xo yo => by cases y' <;> cases op <;> simp [eqGuard]⟩
    cases y with
    | none => obtain rfl := hy.plain_inv rfl; exact eq_ptr_l hu _ w
    | some a => obtain ⟨a', rfl, _⟩ := hy.ptr_AR; exact eq_ptr_l hu _ w
  · rename_i a
    obtain ⟨a', rfl, _⟩ := hx.ptr_AR
    obtain rfl := hy.plain_inv rfl
    have hu : ∃ el, P.underlying t = some (.pointer el) := by
      unfold eqTyOf at ht
      cases hu : P.underlying t with
      | none => simp [hu] at ht
      | some u => simp only [hu] at ht; cases u <;> simp at ht; exact ⟨_, rfl⟩
    obtain ⟨el, hu⟩ := hu
    cases hb
    exact ⟨eq_ptr_r hu _ w, fun op xo yo => by cases op <;> simp [eqGuard]⟩
  · rename_i n c y n' c'
    have hx' : ∃ n c, x' = .slice none n c := by cases hx with | plain _ => exact ⟨_, _, rfl⟩
    obtain ⟨n2, c2, rfl⟩ := hx'
    have hu : ∃ el, P.underlying t = some (.slice el) := by
      unfold eqTyOf at ht
      cases hu : P.underlying t with
      | none => simp [hu] at ht
      | some u => simp only [hu] at ht; cases u <;> simp at ht; exact ⟨_, rfl⟩
    obtain ⟨el, hu⟩ := hu
    cases hb
    refine ⟨?_, fun op xo yo => by cases y' <;> cases op <;> simp [eqGuard]⟩
    cases y with
    | none =>
      have hy' : ∃ n c, y' = .slice none n c := by cases hy with | plain _ => exact ⟨_, _, rfl⟩
      obtain ⟨n3, c3, rfl⟩ := hy'
      exact eq_slc_l hu _ _ _ _ _ w
    | some a =>
      rcases hy.slice_inv with ⟨_, rfl⟩ | ⟨_, p, o', c'', _, _, _, _, _, rfl⟩ | ⟨_, _, _, _, rfl⟩ <;> exact eq_slc_l hu _ _ _ _ _ w
  · rename_i a n c n' c'
    have hy' : ∃ n c, y' = .slice none n c := by cases hy with | plain _ => exact ⟨_, _, rfl⟩
    obtain ⟨n2, c2, rfl⟩ := hy'
    have hu : ∃ el, P.underlying t = some (.slice el) := by
      unfold eqTyOf at ht
      cases hu : P.underlying t with
      | none => simp [hu] at ht
      | some u => simp only [hu] at ht; cases u <;> simp at ht; exact ⟨_, rfl⟩
    obtain ⟨el, hu⟩ := hu
    cases hb
    rcases hx.slice_inv with ⟨_, rfl⟩ | ⟨_, p, o', c'', _, _, _, _, _, rfl⟩ | ⟨_, _, _, _, rfl⟩
    · exact ⟨eq_slc_r hu _ _ _ _ _ w, fun op xo yo => by cases op <;> simp [eqGuard]⟩
    · exact ⟨eq_slc_r hu _ _ _ _ _ w, fun op xo yo => by cases op <;> simp [eqGuard]⟩
    · exact ⟨eq_slc_r hu _ _ _ _ _ w, fun op xo yo => by cases op <;> simp [eqGuard]⟩
  · obtain rfl := hx.plain_inv rfl
    obtain rfl := hy.plain_inv rfl
    have hu : ∃ a b c, P.underlying t = some (.func a b c) := by
      unfold eqTyOf at ht
      cases hu : P.underlying t with
      | none => simp [hu] at ht
      | some u => simp only [hu] at ht; cases u <;> simp at ht; exact ⟨_, _, _, rfl⟩
    obtain ⟨_, _, _, hu⟩ := hu
    cases hb
    exact ⟨(eq_fn hu (.func 0) #[] #[] w).1, fun op xo yo => by cases op <;> simp [eqGuard]⟩
  · obtain rfl := hx.plain_inv rfl
    obtain ⟨_, ys, rfl, _⟩ := hy.func_inv
    have hu : ∃ a b c, P.underlying t = some (.func a b c) := by
      unfold eqTyOf at ht
      cases hu : P.underlying t with
      | none => simp [hu] at ht
      | some u => simp only [hu] at ht; cases u <;> simp at ht; exact ⟨_, _, _, rfl⟩
    obtain ⟨_, _, _, hu⟩ := hu
    cases hb
    exact ⟨(eq_fn hu _ _ _ w).2.1, fun op xo yo => by cases op <;> simp [eqGuard]⟩
  · obtain rfl := hy.plain_inv rfl
    obtain ⟨_, ys, rfl, _⟩ := hx.func_inv
    have hu : ∃ a b c, P.underlying t = some (.func a b c) := by
      unfold eqTyOf at ht
      cases hu : P.underlying t with
      | none => simp [hu] at ht
      | some u => simp only [hu] at ht; cases u <;> simp at ht; exact ⟨_, _, _, rfl⟩
    obtain ⟨_, _, _, hu⟩ := hu
    cases hb
    exact ⟨(eq_fn hu _ _ _ w).2.2, fun op xo yo => by cases op <;> simp [eqGuard]⟩
  · cases hb
theorem keq_shape {e : EqTy} {x y : Value} {b : Bool} (hb : keq e x y = some b) {μ : PMap} {x' y' : Value} (hx : VR μ x x') (hy : VR μ y y')
    (hni : ∀ k a k' a', ¬ (x = .int k a ∧ y = .int k' a')) (hns : ∀ a b, ¬ (x = .string a ∧ y = .string b)) (t : TypeId) :
    binOp .eql t x' y' = (do pure (.bool (← Op.equal t x' y'))) ∧ binOp .neq t x' y' = (do pure (.bool (!(← Op.equal t x' y')))) := by
  unfold keq at hb
  split at hb
  · rename_i k x y
    unfold scEq at hb
    split at hb
    · exact absurd ⟨rfl, rfl⟩ (hni _ _ _ _)
    · obtain rfl := hx.plain_inv rfl
      obtain rfl := hy.plain_inv rfl
      exact ⟨rfl, rfl⟩
    · exact absurd ⟨rfl, rfl⟩ (hns _ _)
    · cases hb
  · obtain ⟨xs', rfl, _⟩ := hx.agg_inv
    obtain ⟨ys', rfl, _⟩ := hy.agg_inv
    exact ⟨rfl, rfl⟩
  · rename_i y
    obtain rfl := hx.plain_inv rfl
    cases y with
    | none => obtain rfl := hy.plain_inv rfl; exact ⟨rfl, rfl⟩
    | some a => obtain ⟨a', rfl, _⟩ := hy.ptr_AR; exact ⟨rfl, rfl⟩
  · obtain ⟨a', rfl, _⟩ := hx.ptr_AR
    obtain rfl := hy.plain_inv rfl
    exact ⟨rfl, rfl⟩
  · cases hx with | plain _ => cases hy <;> exact ⟨rfl, rfl⟩
  · cases hy with | plain _ => cases hx <;> exact ⟨rfl, rfl⟩
  · obtain rfl := hx.plain_inv rfl
    obtain rfl := hy.plain_inv rfl
    exact ⟨rfl, rfl⟩
  · obtain rfl := hx.plain_inv rfl
    obtain ⟨_, ys, rfl, _⟩ := hy.func_inv
    exact ⟨rfl, rfl⟩
  · obtain rfl := hy.plain_inv rfl
    obtain ⟨_, ys, rfl, _⟩ := hx.func_inv
    exact ⟨rfl, rfl⟩
  · cases hb
theorem eqGuard_ints {op : BinOp} {t : TypeId} {xo yo : Operand} {k k' : IntKind} {a b : Int} : (eqGuard op t xo yo (.int k a) (.int k' b)).run P w = .ok () w := by
  cases op <;> simp [eqGuard]
theorem eqGuard_strs {op : BinOp} {t : TypeId} {xo yo : Operand} {a b : ByteArray} : (eqGuard op t xo yo (.string a) (.string b)).run P w = .ok () w := by
  cases op <;> simp [eqGuard]
theorem sim_bin (H : HR W μ h w) {op : BinOp} {t : TypeId} {e : EqTy} (ht : eqTyOf P t = some e) {x y : Operand} {v : Value} (hx : VR μ (ρ x) (ρ' x)) (hy : VR μ (ρ y) (ρ' y))
    (hr : binV op e (ρ x) (ρ y) = some v) : Sim P W μ h w (do pure (.value (← (do eqGuard op t x y (ρ' x) (ρ' y); binOp op t (ρ' x) (ρ' y))))) v h := by
  unfold binV at hr
  split at hr
  · rename_i k a k' b h1 h2
    rw [h1] at hx; rw [h2] at hy
    have e1 := hx.int; have e2 := hy.int
    cases hs : isSh op with
    | true =>
      simp only [hs, cond_true] at hr
      obtain ⟨hrun, hpl⟩ := run_intSh (P := P) (w := w) (k' := k') hs hr t
      refine Sim.val H (v' := v) ?_ (.plain hpl)
      rw [e1, e2, Sem.run_bind, eqGuard_ints, Result.andThen_ok, hrun]
    | false =>
      simp only [hs, cond_false] at hr
      cases hk : decide (k = k') with
      | false => simp [hk] at hr
      | true =>
        simp only [hk, cond_true] at hr
        have : k = k' := by simpa using hk
        subst this
        obtain ⟨hrun, hpl⟩ := run_intBin (P := P) (w := w) hs hr t
        refine Sim.val H (v' := v) ?_ (.plain hpl)
        rw [e1, e2, Sem.run_bind, eqGuard_ints, Result.andThen_ok, hrun]
  · rename_i a b h1 h2
    rw [h1] at hx; rw [h2] at hy
    have e1 := hx.string; have e2 := hy.string
    obtain ⟨hrun, hpl⟩ := run_strBin (P := P) (w := w) hr t
    refine Sim.val H (v' := v) ?_ (.plain hpl)
    rw [e1, e2, Sem.run_bind, eqGuard_strs, Result.andThen_ok, hrun]
  · rename_i h1 h2
    have hni : ∀ k a k' a', ¬ (ρ x = .int k a ∧ ρ y = .int k' a') := fun k a k' a' hc => h1 k a k' a' hc.1 hc.2
    have hns : ∀ a b, ¬ (ρ x = .string a ∧ ρ y = .string b) := fun a b hc => h2 a b hc.1 hc.2
    cases op with
    | eql =>
      obtain ⟨b, hb, rfl⟩ := some_map hr
      obtain ⟨hq, hg⟩ := keq_run (P := P) ht hb hx hy w
      have hsh := keq_shape hb hx hy hni hns t
      refine Sim.val H (v' := .bool b) ?_ (.plain rfl)
      rw [Sem.run_bind, hg, Result.andThen_ok, hsh.1]
      simp [hq]
    | neq =>
      obtain ⟨b, hb, rfl⟩ := some_map hr
      obtain ⟨hq, hg⟩ := keq_run (P := P) ht hb hx hy w
      have hsh := keq_shape hb hx hy hni hns t
      refine Sim.val H (v' := .bool (!b)) ?_ (.plain rfl)
      rw [Sem.run_bind, hg, Result.andThen_ok, hsh.2]
      simp [hq]
    | _ => cases hr
theorem sim_un (H : HR W μ h w) {op : UnOp} {x : Operand} {v : Value} (hx : VR μ (ρ x) (ρ' x)) (hr : unV op (ρ x) = some v) :
    Sim P W μ h w (do pure (.value (← Op.unary op (ρ' x)))) v h := by
  unfold unV at hr
  split at hr
  · rename_i k n h1
    rw [h1] at hx; have e := hx.int; cases hr
    exact Sim.val H (v' := .int k (k.wrap (0 - n))) (by rw [e]; simp [Op.unary, Op.intArith]) (.plain rfl)
  · rename_i k n h1
    rw [h1] at hx; have e := hx.int; cases hr
    exact Sim.val H (v' := _) (by rw [e]; simp only [Op.unary, Op.intBits]; rfl) (.plain rfl)
  · rename_i b h1
    rw [h1] at hx; have e := hx.bool; cases hr
    exact Sim.val H (v' := .bool (!b)) (by rw [e]; simp [Op.unary]) (.plain rfl)
  · cases hr
end
end Go.Mach
end
