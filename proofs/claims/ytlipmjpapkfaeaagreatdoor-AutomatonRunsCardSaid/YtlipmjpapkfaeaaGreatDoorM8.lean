/- The abstract machine, part 8: make, append, clear, iterators. No condition. -/
import Derived.Test.YtlipmjpapkfaeaaGreatDoorM7
set_option linter.unusedSimpArgs false
set_option linter.unusedVariables false
namespace Go.Mach
open Go Go.RowKit

section
variable {P : Program} {W : World} {μ : PMap} {h : AHeap} {w : World} {ρ ρ' : Operand → Value}

theorem sim_mkSlice (H : HR W μ h w) {t e : TypeId} {z : List Value} {b : Nat} (ht : P.underlying t = some (.slice e)) (hz : zerosT P e = some z) (hb : bytesT P e = some b) (hz0 : z.length ≠ 0)
    {l c : Operand} {v : Value} {h' : AHeap} (hl : VR μ (ρ l) (ρ' l)) (hc : VR μ (ρ c) (ρ' c)) (hr : rop W ρ h (.mkSlice z b l c) = some (v, h')) :
    Sim P W μ h w (do pure (.value (← Instr.makeSlice t (ρ' l) (ρ' c)))) v h' := by
  simp only [rop] at hr
  split at hr
  · rename_i k1 a k2 d h1 h2
    rw [h1] at hl; rw [h2] at hc
    have hla := hl.int
    have hca := hc.int
    generalize hA : IntKind.i64.wrap a = A at hr
    generalize hD : IntKind.i64.wrap d = D at hr
    cases hcond : (decide (0 ≤ A) && decide (A ≤ D) && decide ((b : Int) * D ≤ 1099511627776)) with
    | false => simp [hcond] at hr
    | true =>
      simp only [hcond, cond_true] at hr
      cases hr
      simp only [Bool.and_eq_true, decide_eq_true_eq] at hcond
      obtain ⟨⟨c1, c2⟩, c3⟩ := hcond
      obtain ⟨u, n, g1, g2, g3, g4, g5⟩ := zerosT_spec hz
      subst g4
      obtain ⟨i, hi, hib⟩ := bytesT_run hb
      have hrep : repL z D.toNat = repL z A.toNat ++ repL z (D.toNat - A.toNat) := by rw [← repL_add]; congr 1; omega
      have ha := H.allocCells (VR.plains (repL_plain g5 A.toNat)) (plain_all_one (repL_plain g5 A.toNat)) (repL z (D.toNat - A.toNat)) e z.length
      rw [← hrep] at ha
      have hlen : (repL z D.toNat).length = D.toNat * z.length := repL_length z _
      refine Sim.valw (v' := .slice (some ⟨w.heap.size, 0, none⟩) A.toNat D.toNat) (w' := w.alloc (.cells (repL z D.toNat).toArray e)) ?_ (VR.newS (by omega) (by omega)) ha.1 ha.2 (by simp [AHeap.new])
      have hu : u.cells = z.toArray := Array.ext' (by rw [cells_toList, g3])
      have t1 : (decide (D < 0) || decide ((b : Int) * D > 2 ^ 48)) = false := by
        have : ¬ (D < 0) := by omega
        have : ¬ ((b : Int) * D > 2 ^ 48) := by omega
        simp only [decide_eq_false ‹¬ (D < 0)›, decide_eq_false this, Bool.or_false]
      have t2 : ¬ (A < 0) := by omega
      have t3 : ¬ (A > D) := by omega
      rw [hla, hca]
      by_cases h0 : D.toNat * z.length = 0
      · have hr0 : (Array.range (D.toNat * z.length)).map (fun i => (#[] : Array Value)[i % (#[] : Array Value).size]!) = (repL z D.toNat).toArray := by
          rw [h0]; apply Array.ext'
          have : repL z D.toNat = [] := List.eq_nil_of_length_eq_zero (by rw [hlen]; exact h0)
          simp [this]
        rw [h0] at hr0
        simp only [Instr.makeSlice, Sem.run_bind, run_underlying ht, Result.andThen_ok, asInt, asIntOf, Sem.run_pure, typeInfo, run_program, hi, hib, hA, hD, t1, t2, t3, decide_false, Bool.or_false, Bool.false_eq_true, if_false, run_askRoom, sizeT_run g2, h0, if_true, hr0, newRow, run_newObj]
        rfl
      · simp only [Instr.makeSlice, Sem.run_bind, run_underlying ht, Result.andThen_ok, asInt, asIntOf, Sem.run_pure, typeInfo, run_program, hi, hib, hA, hD, t1, t2, t3, decide_false, Bool.or_false, Bool.false_eq_true, if_false, run_askRoom, sizeT_run g2, h0, zeroT_run g1, hu, zeros_eq, newRow, run_newObj]
        rfl
  · cases hr

theorem sim_rangeStr (H : HR W μ h w) {t : TypeId} (ht : P.underlying t = some .string) {x : Operand} {v : Value} {h' : AHeap} (hx : VR μ (ρ x) (ρ' x)) (hr : rop W ρ h (.rangeStr x) = some (v, h')) :
    Sim P W μ h w (do pure (.value (← Instr.range t (ρ' x)))) v h' := by
  simp only [rop] at hr
  split at hr
  · rename_i s heq
    rw [heq] at hx
    cases hr
    have ha := H.alloc (.stringIter s 0) ⟨w.heap.size, 0, 0, 0⟩ (.iter s 0) rfl ⟨H.below.size, heap_alloc_new w _, rfl⟩
    refine Sim.valw (v' := .pointer (some ⟨w.heap.size, 0, none⟩)) (w' := w.alloc (.stringIter s 0)) ?_ VR.newP ha.1 ha.2 (by simp [AHeap.new])
    rw [hx.string]
    simp [Instr.range, run_underlying ht]
  · cases hr

theorem sim_nextStr (H : HR W μ h w) {x : Operand} {ty : TypeId} {v : Value} {h' : AHeap} (hx : VR μ (ρ x) (ρ' x)) (hr : rop W ρ h (.nextStr x) = some (v, h')) :
    Sim P W μ h w (do pure (.value (← Instr.next (ρ' x) true ty))) v h' := by
  simp only [rop] at hr
  split at hr
  · rename_i i heq
    split at hr
    · rename_i s pos hg
      have hx0 := hx
      rw [heq] at hx
      rcases hx.ptr_inv with ⟨h1, _⟩ | ⟨_, p, hp, hx'⟩
      · cases h1
      · have hit := H.rep _ _ _ hp hg
        have hsh := hit.2.2
        have hx'' : ρ' x = .pointer (some ⟨p.blk, 0, none⟩) := by rw [hx']; simp [hsh]
        have hget : (getObj p.blk).run P w = .ok (.stringIter s pos) w := by simp [getObj, Sem.run, hit.2.1]
        cases hb : Nat.blt pos s.size with
        | false =>
          simp only [hb, cond_false] at hr
          cases hr
          have hb' : ¬ (pos < s.size) := by intro hc; have : Nat.blt pos s.size = true := Nat.ble_eq_true_of_le hc; rw [this] at hb; cases hb
          refine Sim.val H (v' := .tuple #[.bool false]) ?_ ((VRs.cons (.plain rfl) VRs.nil).tuple)
          rw [hx'']
          simp [Instr.next, hget, hb']
        | true =>
          simp only [hb, cond_true] at hr
          have hb' : pos < s.size := Nat.le_of_ble_eq_true hb
          generalize hd : Utf8.decode s pos = cw at hr
          obtain ⟨c, wd⟩ := cw
          simp only at hr
          cases hr
          have hlt : p.blk < w.heap.size := by
            rcases Nat.lt_or_ge p.blk w.heap.size with h' | h'
            · exact h'
            · have := hit.2.1; simp [Array.getElem?_eq_none h'] at this
          have hset : (setObj p.blk (.stringIter s (pos + wd))).run P w = .ok () { w with heap := w.heap.setIfInBounds p.blk (.stringIter s (pos + wd)) } := by simp [setObj, Sem.run, hit.2.1]
          refine Sim.valw (v' := .tuple #[.bool true, .int .i64 pos, .int .i32 c]) (w' := { w with heap := w.heap.setIfInBounds p.blk (.stringIter s (pos + wd)) }) ?_ ((VRs.cons (.plain rfl) (VRs.cons (.plain rfl) (VRs.cons (.plain rfl) VRs.nil))).tuple) (μ' := μ) ?_ (Ext.refl _ _) (by simp [AHeap.put])
          · rw [hx'']
            simp [Instr.next, hget, hb', hd, hset, goInt]
          · refine H.write i p (.iter s pos) _ hp hg rfl rfl ?_ ?_ ?_
            · refine H.below.trans ⟨rfl, rfl, rfl, by simp, fun k hk => ?_⟩
              show (w.heap.setIfInBounds p.blk _)[k]? = _
              have := hit.1
              rw [Array.getElem?_setIfInBounds_ne (by omega)]
            · intro k hk
              show (w.heap.setIfInBounds p.blk _)[k]? = _
              rw [Array.getElem?_setIfInBounds_ne (Ne.symm hk)]
            · refine ⟨hit.1, ?_, hsh⟩
              show (w.heap.setIfInBounds p.blk _)[p.blk]? = _
              simp [hlt]
    · cases hr
  · cases hr

theorem runesFrom_plain (s : ByteArray) : ∀ (b i : Nat) (acc : Array Value), acc.toList.all plainV = true → (Conv.runesFrom s b i acc).toList.all plainV = true
  | 0, i, acc, h => h
  | b + 1, i, acc, h => by
    unfold Conv.runesFrom
    split
    · exact runesFrom_plain s b _ _ (by simp [List.all_append] at h ⊢; exact ⟨h, rfl⟩)
    · exact h

theorem sim_strRunes (H : HR W μ h w) {s d e : TypeId} (hs : P.underlying s = some .string) (hd : P.underlying d = some (.slice e)) (he : P.underlying e = some (.int .i32)) {x : Operand} {v : Value} {h' : AHeap}
    (hx : VR μ (ρ x) (ρ' x)) (hr : rop W ρ h (.strRunes x) = some (v, h')) : Sim P W μ h w (do pure (.value (← convert s d (ρ' x)))) v h' := by
  simp only [rop] at hr
  split at hr
  · rename_i st heq
    rw [heq] at hx
    generalize hL : Conv.runesFrom st st.size 0 #[] = L at hr
    have hpl : L.toList.all plainV = true := by rw [← hL]; exact runesFrom_plain st st.size 0 #[] rfl
    cases hb : Nat.ble L.toList.length 1073741824 with
    | false => simp only [hb, cond_false] at hr; cases hr
    | true =>
      simp only [hb, cond_true] at hr
      cases hr
      generalize hcap : Question.cut (.appendCap L.size 0 e) (w.tape w.drawn (.appendCap L.size 0 e)) = cap
      have hge : L.size ≤ cap := by rw [← hcap]; simp [Question.cut]
      have ha := (H.drew).allocCells (VR.plains hpl) (plain_all_one hpl) (List.replicate (cap - L.size) (.int .i32 0)) e 1
      have hlen : (L.toList ++ List.replicate (cap - L.size) (Value.int .i32 0)).length = cap := by simp; omega
      refine Sim.valw (v' := .slice (some ⟨w.heap.size, 0, none⟩) L.toList.length cap) (w' := w.drew.alloc (.cells (L.toList ++ List.replicate (cap - L.size) (Value.int .i32 0)).toArray e)) ?_
        (VR.newS (by simp; exact hge) (by rw [hlen]; omega)) ha.1 ha.2 (by simp [AHeap.new])
      rw [hx.string]
      have harr : (L.toList ++ List.replicate (cap - L.size) (Value.int .i32 0)).toArray = L ++ Array.replicate (cap - L.size) (Value.int .i32 0) := Array.ext' (by simp)
      rw [harr]
      simp [convert, run_underlying hs, run_underlying hd, run_underlying he, Conv.stringToRunes, hL, Question.forced, hcap, newRow]
  · cases hr

theorem VR.sliceNone {n c : Nat} {v' : Value} (hv : VR μ (.slice none n c) v') : v' = .slice none n c := by
  cases hv with
  | plain _ => rfl

theorem sim_clr (H : HR W μ h w) {t e ty : TypeId} {z : List Value} (ht : P.underlying t = some (.slice e)) (hz : zerosT P e = some z) {x : Operand} {v : Value} {h' : AHeap} (hx : VR μ (ρ x) (ρ' x)) (hr : rop W ρ h (.clr z x) = some (v, h')) :
    Sim P W μ h w (do pure (.value (← Builtin.clear_ #[t] ty #[ρ' x]))) v h' := by
  obtain ⟨u, n, g1, g2, g3, g4, g5⟩ := zerosT_spec hz
  simp only [rop] at hr
  split at hr
  · rename_i n c heq
    rw [heq] at hx; cases hr
    refine Sim.val H (v' := undef) ?_ VR.undef
    have hx' : ρ' x = .slice none n c := VR.sliceNone hx
    rw [hx']
    simp [Builtin.clear_, run_underlying ht, undef]
  · rename_i a c heq
    rw [heq] at hx; cases hr
    refine Sim.val H (v' := undef) ?_ VR.undef
    rcases hx.slice_inv with ⟨_, hx'⟩ | ⟨_, p, o', c', _, _, _, _, _, hx'⟩ | ⟨_, _, _, _, hx'⟩ <;> (rw [hx']; simp [Builtin.clear_, run_underlying ht, undef])
  · rename_i a m c heq
    rw [heq] at hx
    cases hb : Nat.beq c z.length with
    | false => simp [hb] at hr
    | true =>
      simp only [hb, cond_true] at hr
      obtain ⟨h'', hs, he⟩ := some_map hr
      cases he
      rcases hx.slice_inv with ⟨hs0, hx'⟩ | ⟨hs0, p, o', c', hp, hcc, hnc, hfit, ho, hx'⟩ | ⟨_, hn1, _⟩
      rotate_left 2
      · exfalso; omega
      · unfold astore at hs; simp [hs0] at hs
      · have := ho (by omega)
        subst this
        have har : AR μ a ⟨p.blk, a.off + p.shift, none⟩ := .inr ⟨hs0, p, hp, rfl⟩
        obtain ⟨w', hrun, H', hnx⟩ := astore_sim H har (VR.plains (repL_plain g5 (m + 1))) hs P
        refine Sim.valw (v' := undef) (w' := w') ?_ VR.undef (μ' := μ) H' (Ext.refl _ _) (by omega)
        rw [hx']
        have hu : u.cells = z.toArray := Array.ext' (by rw [cells_toList, g3])
        have hzc : (Builtin.zeroCells u.cells (m + 1)).toList = repL z (m + 1) := by
          unfold Builtin.zeroCells
          rw [hu]
          have := zeros_eq z (m + 1)
          have hsz : z.toArray.size = z.length := by simp
          rw [hsz] at this ⊢
          rw [this]
        simp only [Builtin.clear_, List.getElem?_toArray, List.getElem?_cons_zero, Sem.run_bind, run_underlying ht, Result.andThen_ok, zeroT_run g1, hzc, hrun, Sem.run_pure]
        simp [run_underlying ht, zeroT_run g1, hzc, hrun, undef]
  · cases hr

end
end Go.Mach
