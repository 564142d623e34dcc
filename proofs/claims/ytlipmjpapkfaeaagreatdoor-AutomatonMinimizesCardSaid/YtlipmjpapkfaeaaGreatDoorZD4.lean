/- The abstract machine, part 7: the operations that make blocks or change them. No condition.
Merged from 3 texts. -/
import Derived.Test.YtlipmjpapkfaeaaGreatDoorZD3
section
set_option linter.unusedSimpArgs false
set_option linter.unusedVariables false
namespace Go.Mach
open Go Go.RowKit
section
variable {P : Program} {W : World} {μ : PMap} {h : AHeap} {w : World} {ρ ρ' : Operand → Value}
theorem HR.allocCells (H : HR W μ h w) {l l' : List Value} (hl : VRs μ l l') (h1 : ∀ v ∈ l, v.oneCell' = true) (rest : List Value) (e esz : Nat) :
    HR W (μ.upd h.next ⟨w.heap.size, 0, (l' ++ rest).length, esz⟩) (h.new (.cells l)) (w.alloc (.cells (l' ++ rest).toArray e)) ∧ Ext μ h.next (μ.upd h.next ⟨w.heap.size, 0, (l' ++ rest).length, esz⟩) := by
  have hext : Ext μ h.next (μ.upd h.next ⟨w.heap.size, 0, (l' ++ rest).length, esz⟩) := fun i hi => PMap.upd_ne μ _ (by omega)
  refine H.alloc _ ⟨w.heap.size, 0, (l' ++ rest).length, esz⟩ _ rfl ?_
  refine ⟨H.below.size, (l' ++ rest).toArray, e, heap_alloc_new w _, by simp, ?_, ?_⟩
  · have := hl.1; simp; omega
  · intro k v hv
    obtain ⟨v', h2, h3⟩ := hl.2 k v hv
    have h4 := h1 v (List.mem_of_getElem? hv)
    refine ⟨h4, v', ?_, by rw [h3.oneCell]; exact h4, h3.ext hext H.dom⟩
    simp only [Nat.zero_add, List.getElem?_toArray]
    have hk : k < l'.length := by
      rcases Nat.lt_or_ge k l'.length with h' | h'
      · exact h'
      · rw [List.getElem?_eq_none h'] at h2; cases h2
    rw [List.getElem?_append, if_pos hk]; exact h2
theorem Ext.upd (μ : PMap) (n : Nat) (p : Place) : Ext μ n (μ.upd n p) := fun i hi => PMap.upd_ne μ p (by omega)
theorem VR.newP {n : Nat} {b s z : Nat} : VR (μ.upd n ⟨b, 0, s, z⟩) (oP n 0) (.pointer (some ⟨b, 0, none⟩)) :=
  VR.ptr (p := ⟨b, 0, s, z⟩) (PMap.upd_self μ n _)
theorem VR.newS {n : Nat} {b s z k c : Nat} (hk : k ≤ c) (hc : c * z ≤ s) : VR (μ.upd n ⟨b, 0, s, z⟩) (oS n 0 k z) (.slice (some ⟨b, 0, none⟩) k c) :=
  VR.slice (p := ⟨b, 0, s, z⟩) (PMap.upd_self μ n _) hk (by simpa using hc) (by intro _; simp)
theorem plain_all_one {z : List Value} (h : z.all plainV = true) : ∀ v ∈ z, v.oneCell' = true := fun v hv => plain_oneCell (List.all_eq_true.1 h v hv)
theorem sim_newv (H : HR W μ h w) {e : TypeId} {z : List Value} (hz : zerosT P e = some z) {v : Value} {h' : AHeap} (hr : rop W ρ h (.newv z) = some (v, h')) :
    Sim P W μ h w (do pure (.value (← Instr.alloc e true (.tuple #[])))) v h' := by
  simp only [rop] at hr
  cases hr
  obtain ⟨u, n, h1, h2, h3, h4, h5⟩ := zerosT_spec hz
  have ha := H.allocCells (VR.plains h5) (plain_all_one h5) [] e 0
  simp only [List.append_nil] at ha
  refine Sim.valw (v' := .pointer (some ⟨w.heap.size, 0, none⟩)) (w' := w.alloc (.cells z.toArray e)) ?_ VR.newP ha.1 ha.2 (by simp [AHeap.new])
  have : u.cells = z.toArray := Array.ext' (by rw [cells_toList, h3])
  simp [Instr.alloc, zeroT_run h1, newVar, newRow, this]
theorem sim_box (H : HR W μ h w) {e : TypeId} {x : Operand} (hx : VR μ (ρ x) (ρ' x)) {v : Value} {h' : AHeap} (hr : rop W ρ h (.box x) = some (v, h')) :
    Sim P W μ h w (do pure (.value (← Instr.box e (ρ' x)))) v h' := by
  simp only [rop] at hr
  cases hb : (celsL (ρ x)).all oneV with
  | false => simp [hb] at hr
  | true =>
    simp only [hb, cond_true] at hr
    cases hr
    have h1 : ∀ v ∈ celsL (ρ x), v.oneCell' = true := fun v hv => by rw [← oneV_eq]; exact List.all_eq_true.1 hb v hv
    have ha := H.allocCells hx.cels h1 [] e 0
    simp only [List.append_nil] at ha
    refine Sim.valw (v' := .pointer (some ⟨w.heap.size, 0, none⟩)) (w' := w.alloc (.cells (celsL (ρ' x)).toArray e)) ?_ VR.newP ha.1 ha.2 (by simp [AHeap.new])
    have : (ρ' x).cells = (celsL (ρ' x)).toArray := Array.ext' (by rw [cells_toList])
    simp [Instr.box, newVar, newRow, this]
theorem foldl_sets (off : Nat) : ∀ (vs : List Value) (k : Nat) (cs : Array Value), off + k + vs.length ≤ cs.size →
    ((vs.zipIdx k).foldl (fun (cs : Array Value) (x : Value × Nat) => cs.setIfInBounds (off + x.2) x.1) cs).toList = cs.toList.take (off + k) ++ vs ++ cs.toList.drop (off + k + vs.length)
  | [], k, cs, _ => by simp
  | v :: vs, k, cs, hl => by
    simp only [List.length_cons] at hl
    simp only [List.zipIdx_cons, List.foldl_cons]
    rw [foldl_sets off vs (k + 1) _ (by simp; omega)]
    have e := list_seg_step cs.toList (off + k) v vs (by simp; omega)
    simpa [Array.toList_setIfInBounds, Nat.add_assoc, Nat.add_comm 1] using e
theorem fill_step (v : Value) (off : Nat) (cs : Array Value) (hl : off + v.cells.size ≤ cs.size) :
    (v.cells.zipIdx.foldl (fun (cs : Array Value) (x : Value × Nat) => cs.setIfInBounds (off + x.2) x.1) cs).toList = splice cs.toList off (celsL v) := by
  rw [← Array.foldl_toList, Array.toList_zipIdx, cells_toList]
  have : v.cells.size = (celsL v).length := by rw [← cells_toList]; simp
  rw [foldl_sets off (celsL v) 0 cs (by omega)]
  simp [splice]
theorem splice_length (l : List Value) (o : Nat) (vs : List Value) (hl : o + vs.length ≤ l.length) : (splice l o vs).length = l.length := by
  unfold splice; simp; omega
theorem fill_run (place : Nat → Option (Nat × Nat)) : ∀ (ps : List (Nat × Operand)) (qs : List (Nat × Nat × Operand)) (z z' : List Value) (l : List Value),
    ps.length = qs.length → (∀ k : Nat, ∀ p q, ps[k]? = some p → qs[k]? = some q → place p.1 = some (q.1, q.2.1) ∧ p.2 = q.2.2) → (∀ p ∈ ps, VR μ (ρ p.2) (ρ' p.2)) →
    VRs μ z z' → fillL ρ z qs = some l → ∃ l', Instr.fill place z'.toArray (ps.map fun p => (p.1, ρ' p.2)) = some l'.toArray ∧ VRs μ l l' ∧ l.length = z.length
  | [], qs, z, z', l, hlen, _, _, hz, hf => by
    cases qs with
    | nil => simp [fillL] at hf; subst hf; exact ⟨z', rfl, hz, rfl⟩
    | cons q qs => simp at hlen
  | p :: ps, qs, z, z', l, hlen, hpl, hv, hz, hf => by
    cases qs with
    | nil => simp at hlen
    | cons q qs =>
      obtain ⟨off, size, x⟩ := q
      obtain ⟨i, y⟩ := p
      have h0 := hpl 0 _ _ rfl rfl
      simp only at h0
      obtain ⟨hp, rfl⟩ := h0
      simp only [fillL] at hf
      cases hb : (Nat.beq (celsL (ρ y)).length size && Nat.ble (off + size) z.length) with
      | false => simp [hb] at hf
      | true =>
        simp only [hb, cond_true] at hf
        simp only [Bool.and_eq_true, Tr.nbeq, decide_eq_true_eq, Nat.ble_eq] at hb
        have hvy := hv (i, y) (by simp)
        simp only at hvy
        have hsz : (ρ' y).cells.size = size := by rw [← Array.length_toList, cells_toList, ← hvy.cels.1]; exact hb.1
        have hle : off + (ρ' y).cells.size ≤ z'.length := by rw [hsz, ← hz.1]; exact hb.2
        obtain ⟨l', h1, h2, h3⟩ := fill_run place ps qs (splice z off (celsL (ρ y))) (splice z' off (celsL (ρ' y))) l (by simpa using hlen)
          (fun k p q hp hq => hpl (k + 1) p q (by simpa using hp) (by simpa using hq)) (fun p hp => hv p (by simp [hp])) (hz.splice hvy.cels off) hf
        refine ⟨l', ?_, h2, by rw [h3, splice_length _ _ _ (by rw [hb.1]; exact hb.2)]⟩
        simp only [List.map_cons, Instr.fill, hp]
        have hc : ((ρ' y).cells.size ≠ size || off + (ρ' y).cells.size > z'.toArray.size) = false := by
          simp [hsz]; rw [hsz] at hle; exact hle
        simp only [hc, Bool.false_eq_true, if_false]
        have hst := fill_step (ρ' y) off z'.toArray (by simpa using hle)
        have : ((ρ' y).cells.zipIdx.foldl (fun (cs : Array Value) (x : Value × Nat) => cs.setIfInBounds (off + x.2) x.1) z'.toArray) = (splice z' off (celsL (ρ' y))).toArray := by
          apply Array.ext'; rw [hst]
        rw [← h1]
        show Instr.fill place ((ρ' y).cells.zipIdx.foldl (fun (cs : Array Value) (x : Value × Nat) => cs.setIfInBounds (off + x.2) x.1) z'.toArray) _ = _
        rw [this]
theorem mapM_places (fs : List Field) (hs : (fs.all fun f => (sizeT P f.type).isSome) = true) (w : World) :
    (fs.mapM fun f => (do pure (f.offset, ← sizeOf f.type) : Sem (Nat × Nat))).run P w = .ok (fs.map fun f => (f.offset, (sizeT P f.type).getD 0)) w := by
  induction fs with
  | nil => simp
  | cons f fs ih =>
    simp only [List.all_cons, Bool.and_eq_true] at hs
    obtain ⟨n, hn⟩ := Option.isSome_iff_exists.1 hs.1
    simp only [List.mapM_cons, Sem.run_bind, sizeT_run hn, Result.andThen_ok, Sem.run_pure, ih hs.2, List.map_cons, hn, Option.getD_some]
theorem sim_build_struct (H : HR W μ h w) {t : TypeId} {z : List Value} {fs : Array Field} (hz : zerosT P t = some z) (ht : P.underlying t = some (.struct fs)) (hs : (fs.toList.all fun f => (sizeT P f.type).isSome) = true)
    {ps : Array (Nat × Operand)} {qs : List (Nat × Nat × Operand)} (hq : fieldParts P fs ps.toList = some qs) (hv : ∀ p ∈ ps.toList, VR μ (ρ p.2) (ρ' p.2)) {v : Value} {h' : AHeap} (hr : rop W ρ h (.build z qs) = some (v, h')) :
    Sim P W μ h w (do pure (.value (← Instr.build t (ps.map fun (i, x) => (i, ρ' x))))) v h' := by
  simp only [rop] at hr
  split at hr
  · rename_i l hl
    cases hr
    obtain ⟨u, n, h1, h2, h3, h4, h5⟩ := zerosT_spec hz
    have hparts : ∀ (l : List (Nat × Operand)) (qs : List (Nat × Nat × Operand)), fieldParts P fs l = some qs → l.length = qs.length ∧ ∀ k : Nat, ∀ p q, l[k]? = some p → qs[k]? = some q →
        ((fs.map fun f => (f.offset, (sizeT P f.type).getD 0))[p.1]?) = some (q.1, q.2.1) ∧ p.2 = q.2.2 := by
      intro l
      induction l with
      | nil => intro qs hq; simp [fieldParts] at hq; subst hq; exact ⟨rfl, fun k p q hp => by simp at hp⟩
      | cons a l ih =>
        intro qs hq
        obtain ⟨i, x⟩ := a
        simp only [fieldParts] at hq
        cases hf : fs[i]? with
        | none => simp [hf] at hq
        | some f =>
          cases hq' : fieldParts P fs l with
          | none => simp [hf, hq'] at hq
          | some qs' =>
            simp only [hf, hq'] at hq
            obtain ⟨n, hn, rfl⟩ := some_map hq
            obtain ⟨e1, e2⟩ := ih qs' hq'
            refine ⟨by simp [e1], fun k p q hp hq => ?_⟩
            cases k with
            | zero => simp at hp hq; subst hp; subst hq; simp [hf, hn]
            | succ k => exact e2 k p q (by simpa using hp) (by simpa using hq)
    obtain ⟨e1, e2⟩ := hparts ps.toList qs hq
    obtain ⟨l', g1, g2, g3⟩ := fill_run (fun i => (fs.map fun f => (f.offset, (sizeT P f.type).getD 0))[i]?) ps.toList qs z z l e1 e2 hv (VR.plains h5) hl
    refine Sim.val H (v' := .agg l'.toArray) ?_ g2.agg
    have hu : u.cells = z.toArray := Array.ext' (by rw [cells_toList, h3])
    have hm : (fs.mapM fun f => (do pure (f.offset, ← sizeOf f.type) : Sem (Nat × Nat))).run P w = .ok (fs.map fun f => (f.offset, (sizeT P f.type).getD 0)) w := by
      rw [Array.mapM_eq_mapM_toList, Sem.run_map, mapM_places fs.toList hs w, Result.andThen_ok]
      congr 1
      exact Array.ext' (by simp)
    have hps : (ps.map fun (i, x) => (i, ρ' x)).toList = ps.toList.map fun p => (p.1, ρ' p.2) := by simp
    simp only [Instr.build, Sem.run_bind, zeroT_run h1, Result.andThen_ok, run_underlying ht, hm, hps, hu, g1, Sem.run_pure]
  · cases hr
theorem elemParts_spec (size : Nat) : ∀ (l : List (Nat × Operand)), l.length = (elemParts size l).length ∧ ∀ k : Nat, ∀ p q, l[k]? = some p → (elemParts size l)[k]? = some q →
    (some (p.1 * size, size) : Option (Nat × Nat)) = some (q.1, q.2.1) ∧ p.2 = q.2.2
  | [] => ⟨rfl, fun k p q hp => by simp at hp⟩
  | (i, x) :: l => by
    obtain ⟨e1, e2⟩ := elemParts_spec size l
    refine ⟨by simp [elemParts, ← e1], fun k p q hp hq => ?_⟩
    cases k with
    | zero => simp [elemParts] at hp hq; subst hp; subst hq; simp
    | succ k => exact e2 k p q (by simpa using hp) (by simpa [elemParts] using hq)
theorem sim_build_array (H : HR W μ h w) {t e : TypeId} {z : List Value} {len n : Nat} (hz : zerosT P t = some z) (ht : P.underlying t = some (.array len e)) (hs : sizeT P e = some n)
    {ps : Array (Nat × Operand)} (hv : ∀ p ∈ ps.toList, VR μ (ρ p.2) (ρ' p.2)) {v : Value} {h' : AHeap} (hr : rop W ρ h (.build z (elemParts n ps.toList)) = some (v, h')) :
    Sim P W μ h w (do pure (.value (← Instr.build t (ps.map fun (i, x) => (i, ρ' x))))) v h' := by
  simp only [rop] at hr
  split at hr
  · rename_i l hl
    cases hr
    obtain ⟨u, m, h1, h2, h3, h4, h5⟩ := zerosT_spec hz
    obtain ⟨e1, e2⟩ := elemParts_spec n ps.toList
    obtain ⟨l', g1, g2, g3⟩ := fill_run (fun i => some (i * n, n)) ps.toList _ z z l e1 e2 hv (VR.plains h5) hl
    refine Sim.val H (v' := .agg l'.toArray) ?_ g2.agg
    have hu : u.cells = z.toArray := Array.ext' (by rw [cells_toList, h3])
    have hps : (ps.map fun (i, x) => (i, ρ' x)).toList = ps.toList.map fun p => (p.1, ρ' p.2) := by simp
    simp only [Instr.build, Sem.run_bind, zeroT_run h1, Result.andThen_ok, run_underlying ht, sizeT_run hs, hps, hu, g1, Sem.run_pure]
  · cases hr
theorem repL_length (z : List Value) : ∀ n, (repL z n).length = n * z.length
  | 0 => by simp [repL]
  | n + 1 => by simp [repL, repL_length z n, Nat.add_mul, Nat.add_comm]
theorem repL_get (z : List Value) : ∀ (n k : Nat), k < n * z.length → (repL z n)[k]? = z[k % z.length]?
  | 0, k, h => by simp at h
  | n + 1, k, h => by
    have hz : 0 < z.length := by
      rcases Nat.eq_zero_or_pos z.length with h0 | h0
      · rw [h0] at h; simp at h
      · exact h0
    unfold repL
    rw [List.getElem?_append]
    by_cases hk : k < z.length
    · rw [if_pos hk, Nat.mod_eq_of_lt hk]
    · have e : k % z.length = (k - z.length) % z.length := Nat.mod_eq_sub_mod (by omega)
      have hm : (n + 1) * z.length = n * z.length + z.length := Nat.succ_mul n z.length
      rw [if_neg hk, repL_get z n (k - z.length) (by omega), e]
theorem repL_plain {z : List Value} (hz : z.all plainV = true) : ∀ n, (repL z n).all plainV = true
  | 0 => rfl
  | n + 1 => by simp [repL, List.all_append, hz, repL_plain hz n]
theorem repL_add (z : List Value) : ∀ a b, repL z (a + b) = repL z a ++ repL z b
  | 0, b => by simp [repL]
  | a + 1, b => by rw [show a + 1 + b = (a + b) + 1 by omega]; simp [repL, repL_add z a b, List.append_assoc]
theorem zeros_eq (z : List Value) (n : Nat) : ((Array.range (n * z.length)).map fun i => z.toArray[i % z.toArray.size]!) = (repL z n).toArray := by
  apply Array.ext'
  apply List.ext_getElem?
  intro k
  simp only [Array.toList_map, Array.toList_range, List.getElem?_map, List.size_toArray]
  by_cases hk : k < n * z.length
  · have hz : 0 < z.length := by
      rcases Nat.eq_zero_or_pos z.length with h0 | h0
      · rw [h0] at hk; simp at hk
      · exact h0
    rw [List.getElem?_range hk, repL_get z n k hk]
    have hm : k % z.length < z.length := Nat.mod_lt _ hz
    simp [hm]
  · rw [List.getElem?_eq_none (by simp; omega), List.getElem?_eq_none (by rw [repL_length]; omega)]
    rfl
theorem sim_buildSl (H : HR W μ h w) {t e : TypeId} {z : List Value} {n : Nat} (ht : P.underlying t = some (.slice e)) (hz : zerosT P e = some z) (hn : n * z.length ≤ 2 ^ 24)
    {ps : Array (Nat × Operand)} (hv : ∀ p ∈ ps.toList, VR μ (ρ p.2) (ρ' p.2)) {v : Value} {h' : AHeap} (hr : rop W ρ h (.buildSl (repL z n) (elemParts z.length ps.toList) n z.length) = some (v, h')) :
    Sim P W μ h w (do pure (.value (← Instr.buildSlice t n (ps.map fun (i, x) => (i, ρ' x))))) v h' := by
  simp only [rop] at hr
  split at hr
  · rename_i l hl
    cases hb : l.all oneV with
    | false => simp [hb] at hr
    | true =>
      simp only [hb, cond_true] at hr
      cases hr
      obtain ⟨u, m, h1, h2, h3, h4, h5⟩ := zerosT_spec hz
      subst h4
      obtain ⟨e1, e2⟩ := elemParts_spec z.length ps.toList
      obtain ⟨l', g1, g2, g3⟩ := fill_run (fun i => some (i * z.length, z.length)) ps.toList _ (repL z n) (repL z n) l e1 e2 hv (VR.plains (repL_plain h5 n)) hl
      have ho : ∀ v ∈ l, v.oneCell' = true := fun v hv => by rw [← oneV_eq]; exact List.all_eq_true.1 hb v hv
      have ha := H.allocCells g2 ho [] e z.length
      simp only [List.append_nil] at ha
      have hlen : l'.length = n * z.length := by rw [← g2.1, g3, repL_length]
      refine Sim.valw (v' := .slice (some ⟨w.heap.size, 0, none⟩) n n) (w' := w.alloc (.cells l'.toArray e)) ?_ (VR.newS (Nat.le_refl n) (by omega)) ha.1 ha.2 (by simp [AHeap.new])
      have hu : u.cells = z.toArray := Array.ext' (by rw [cells_toList, h3])
      have hps : (ps.map fun (i, x) => (i, ρ' x)).toList = ps.toList.map fun p => (p.1, ρ' p.2) := by simp
      have hn' : ¬ (n * z.length > 2 ^ 24) := by omega
      by_cases h0 : n * z.length = 0
      · have hr0 : (Array.range (n * z.length)).map (fun i => (#[] : Array Value)[i % (#[] : Array Value).size]!) = (repL z n).toArray := by
          rw [h0]; apply Array.ext'
          have : repL z n = [] := List.eq_nil_of_length_eq_zero (by rw [repL_length]; exact h0)
          simp [this]
        rw [h0] at hr0 hn'
        simp only [Instr.buildSlice, Sem.run_bind, run_underlying ht, Result.andThen_ok, sizeT_run h2, h0, hn', if_false, if_true, Sem.run_pure, hr0, hps, g1, newRow, run_newObj]
        rfl
      · simp only [Instr.buildSlice, Sem.run_bind, run_underlying ht, Result.andThen_ok, sizeT_run h2, h0, hn', if_false, zeroT_run h1, Sem.run_pure, hu, zeros_eq, hps, g1, newRow, run_newObj]
        rfl
  · cases hr
theorem sim_mkMap (H : HR W μ h w) {t : TypeId} {v : Value} {h' : AHeap} (hr : rop W ρ h .mkMap = some (v, h')) :
    Sim P W μ h w (do pure (.value (← Instr.makeMap t none))) v h' := by
  simp only [rop] at hr
  cases hr
  have ha := H.alloc (.map #[] 0) ⟨w.heap.size, 0, 0, 0⟩ (.map []) rfl ⟨H.below.size, #[], 0, heap_alloc_new w _, rfl, fun k x hx => by simp at hx⟩
  refine Sim.valw (v' := .map (some w.heap.size)) (w' := w.alloc (.map #[] 0)) ?_ (VR.map (p := ⟨w.heap.size, 0, 0, 0⟩) (PMap.upd_self μ _ _)) ha.1 ha.2 (by simp [AHeap.new])
  simp [Instr.makeMap]
theorem sameBits_sc {k : SK} {a b : Value} (h : scEq k a b = some true) (n : Nat) : Instr.sameBits n b a = true := by
  unfold scEq at h
  split at h
  · rename_i q x q' y
    cases hq : decide (q = q') with
    | false => simp [hq] at h
    | true =>
      simp [hq] at h
      have : q = q' := by simpa using hq
      subst this; subst h
      simp [Instr.sameBits]
  · simp at h; subst h; simp [Instr.sameBits]
  · rename_i x y
    simp at h
    have : x = y := by cases x; cases y; congr 1
    subst this
    simp only [Instr.sameBits]
    rw [beq_toListBytes]; simp
  · cases h
theorem sameBits_scs : ∀ {ks : List SK} {a b : List Value}, scEqs ks a b = some true → ∀ n, a.length = b.length ∧ ((b.zip a).all fun (x, y) => Instr.sameBits n x y) = true
  | [], [], [], _, n => ⟨rfl, rfl⟩
  | k :: ks, x :: xs, y :: ys, h, n => by
    simp only [scEqs] at h
    cases hc : scEq k x y with
    | none => simp [hc] at h
    | some r =>
      cases r with
      | false => simp [hc] at h
      | true =>
        simp only [hc] at h
        obtain ⟨h1, h2⟩ := sameBits_scs h n
        refine ⟨by simp [h1], ?_⟩
        simp only [List.zip_cons_cons, List.all_cons, sameBits_sc hc n, Bool.true_and]
        exact h2
  | [], [], _ :: _, h, _ => by simp [scEqs] at h
  | [], _ :: _, _, h, _ => by simp [scEqs] at h
  | _ :: _, [], _, h, _ => by simp [scEqs] at h
  | _ :: _, _ :: _, [], h, _ => by simp [scEqs] at h
theorem keyStays {e : EqTy} {k old : Value} (hg : goodKey e k = true) (hk : keq e k old = some true) (w : World) : (Instr.keyThatStays old k).run P w = .ok k w := by
  have : Instr.sameBits 10000 old k = true := by
    unfold goodKey at hg
    split at hg
    · exact sameBits_sc hk 10000
    · rename_i ks xs
      cases old <;> first | (simp [keq] at hk; done) | skip
      rename_i ys
      simp only [keq] at hk
      obtain ⟨h1, h2⟩ := sameBits_scs hk 9999
      rw [Instr.sameBits]
      simp only [Bool.and_eq_true, beq_iff_eq]
      exact ⟨by simpa using h1.symm, h2⟩
    · cases hg
  simp [Instr.keyThatStays, this]
theorem findK_spec {e : EqTy} {k : Value} : ∀ {es : List (Value × Value)} {i j : Nat} {v : Value}, findK e k es i = some (some (j, v)) → i ≤ j ∧ ∃ k', es[j - i]? = some (k', v) ∧ keq e k k' = some true
  | [], i, j, v, h => by simp [findK] at h
  | (k', u) :: es, i, j, v, h => by
    simp only [findK] at h
    cases hc : keq e k k' with
    | none => simp [hc] at h
    | some b =>
      cases b with
      | true => simp [hc] at h; obtain ⟨rfl, rfl⟩ := h; exact ⟨Nat.le_refl _, k', by simp, hc⟩
      | false =>
        simp only [hc] at h
        obtain ⟨h1, k'', h2, h3⟩ := findK_spec h
        refine ⟨by omega, k'', ?_, h3⟩
        rw [show j - i = (j - (i + 1)) + 1 by omega]
        simpa using h2
theorem sim_mapUpd (H : HR W μ h w) {t kt el : TypeId} {e : EqTy} (ht : P.underlying t = some (.map kt el)) (hk : keyTyOf P kt = some e)
    {m k u : Operand} {v : Value} {h' : AHeap} (hm : VR μ (ρ m) (ρ' m)) (hkv : VR μ (ρ k) (ρ' k)) (hu : VR μ (ρ u) (ρ' u)) (hr : rop W ρ h (.mapUpd e m k u) = some (v, h')) :
    Sim P W μ h w (do Instr.mapUpdate t (ρ' m) (ρ' k) (ρ' u); pure .skip) v h' := by
  simp only [rop] at hr
  obtain ⟨h'', hr', he⟩ := some_map hr
  cases he
  unfold mapUpdH at hr'
  cases hg : goodKey e (ρ k) with
  | false => simp [hg] at hr'
  | true =>
    simp only [hg, cond_true] at hr'
    have hke := goodKey_eq hg hkv
    split at hr'
    · rename_i i heq
      rw [heq] at hm
      obtain ⟨p, hp, hm'⟩ := hm.map_inv
      split at hr'
      · rename_i es hes
        obtain ⟨hN, ents, clock, h4, h5, h6⟩ := H.rep _ _ _ hp hes
        have hers : ERs μ es ents.toList := ⟨h5, h6⟩
        have hget : (getObj p.blk).run P w = .ok (.map ents clock) w := by simp [getObj, Sem.run, h4]
        have h1 := checkKey_run (P := P) hk hg false w
        have hset : ∀ o, (setObj p.blk (.map o clock)).run P w = .ok () { w with heap := w.heap.setIfInBounds p.blk (.map o clock) } := by intro o; simp [setObj, Sem.run, h4]
        have hset' : ∀ o c, (setObj p.blk (.map o c)).run P w = .ok () { w with heap := w.heap.setIfInBounds p.blk (.map o c) } := by intro o c; simp [setObj, Sem.run, h4]
        have hlt : p.blk < w.heap.size := by
          rcases Nat.lt_or_ge p.blk w.heap.size with h' | h'
          · exact h'
          · simp [Array.getElem?_eq_none h'] at h4
        have hw : ∀ o c (es' : List (Value × Value)), ERs μ es' o.toList → HR W μ (h.put i (.map es')) { w with heap := w.heap.setIfInBounds p.blk (.map o c) } := by
          intro o c es' her
          refine H.write i p (.map es) _ hp hes rfl rfl ?_ ?_ ?_
          · refine H.below.trans ⟨rfl, rfl, rfl, by simp, fun k hk => ?_⟩
            show (w.heap.setIfInBounds p.blk _)[k]? = _
            rw [Array.getElem?_setIfInBounds_ne (by omega)]
          · intro k hk
            show (w.heap.setIfInBounds p.blk _)[k]? = _
            rw [Array.getElem?_setIfInBounds_ne (Ne.symm hk)]
          · refine ⟨hN, o, c, ?_, her.1, her.2⟩
            show (w.heap.setIfInBounds p.blk _)[p.blk]? = _
            simp [hlt]
        split at hr'
        · rename_i j x hf
          cases hr'
          obtain ⟨r', h2, h3⟩ := findKey_run (P := P) (μ := μ) hk hg hers hf w
          obtain ⟨v', rfl, hv⟩ := h3
          obtain ⟨_, k', h7, h8⟩ := findK_spec hf
          simp only [Nat.sub_zero] at h7
          obtain ⟨y, h9, h10, h11⟩ := hers.2 _ _ h7
          have hyk : ((ents[j]?).map (·.key)).getD (ρ k) = k' := by
            simp only [Array.getElem?_toList] at h9
            simp [h9, h10]
          have hst := keyStays (P := P) hg h8 w
          refine Sim.unit (w' := { w with heap := w.heap.setIfInBounds p.blk (.map (ents.modify j fun en => { en with key := ρ k, val := ρ' u }) clock) }) ?_ (hw _ _ _ ?_) rfl
          · rw [hm', hke]
            simp only [Instr.mapUpdate, Sem.run_bind, run_underlying ht, hget, Result.andThen_ok, h1, h2, hyk, hst, hset]
          · refine ⟨by simp [h5], ?_⟩
            intro q x hx
            rw [List.getElem?_set] at hx
            by_cases hq : j = q
            · subst hq
              have hjl : j < es.length := by
                rcases Nat.lt_or_ge j es.length with h' | h'
                · exact h'
                · rw [List.getElem?_eq_none h'] at h7; cases h7
              simp [hjl] at hx
              subst hx
              refine ⟨{ y with key := ρ k, val := ρ' u }, ?_, rfl, hu⟩
              simp only [Array.getElem?_toList] at h9
              simp [Array.getElem?_modify, h9]
            · simp [hq] at hx
              obtain ⟨z, h12, h13, h14⟩ := hers.2 _ _ hx
              refine ⟨z, ?_, h13, h14⟩
              simp only [Array.getElem?_toList] at h12
              simp [Array.getElem?_modify, hq, h12]
        · rename_i hf
          cases hr'
          obtain ⟨r', h2, h3⟩ := findKey_run (P := P) (μ := μ) hk hg hers hf w
          have h3 : r' = none := h3
          subst h3
          refine Sim.unit (w' := { w with heap := w.heap.setIfInBounds p.blk (.map (ents.push { key := ρ k, val := ρ' u, born := clock }) (clock + 1)) }) ?_ (hw _ _ _ ?_) rfl
          · rw [hm', hke]
            simp only [Instr.mapUpdate, Sem.run_bind, run_underlying ht, hget, Result.andThen_ok, h1, h2, hset']
          · refine ⟨by simp [← h5], ?_⟩
            intro q x hx
            have hes5 : ents.size = es.length := by rw [← h5]; simp
            rw [List.getElem?_append] at hx
            by_cases hq : q < es.length
            · rw [if_pos hq] at hx
              obtain ⟨z, h12, h13, h14⟩ := hers.2 _ _ hx
              refine ⟨z, ?_, h13, h14⟩
              simp only [Array.getElem?_toList] at h12 ⊢
              rw [Array.getElem?_push, if_neg (by omega)]; exact h12
            · rw [if_neg hq] at hx
              have hq0 : q - es.length = 0 := by
                rcases Nat.eq_zero_or_pos (q - es.length) with h0 | h0
                · exact h0
                · rw [List.getElem?_eq_none (by simp; omega)] at hx; cases hx
              rw [hq0] at hx
              simp at hx; subst hx
              refine ⟨{ key := ρ k, val := ρ' u, born := clock }, ?_, rfl, hu⟩
              simp only [Array.getElem?_toList]
              rw [Array.getElem?_push, if_pos (by omega)]
        · cases hr'
      · cases hr'
    · cases hr'
end
end Go.Mach
end
section
set_option linter.unusedSimpArgs false
set_option linter.unusedVariables false
namespace Go.Mach
open Go Go.RowKit
section
variable {P : Program} {W : World} {μ : PMap} {h : AHeap} {w : World} {ρ ρ' : Operand → Value}
theorem sim_mkSlice (H : HR W μ h w) {t e : TypeId} {z : List Value} {b : Nat} (ht : P.underlying t = some (.slice e)) (hz : zerosT P e = some z) (hb : bytesT P e = some b) (hz0 : z.length ≠ 0)
    {l c : Operand} {v : Value} {h' : AHeap} (hl : VR μ (ρ l) (ρ' l)) (hc : VR μ (ρ c) (ρ' c)) (hr : rop W ρ h (.mkSlice z b l c) = some (v, h')) :
    Sim P W μ h w (do pure (.value (← Instr.makeSlice t (ρ' l) (ρ' c)))) v h' := by
  simp only [rop] at hr
  split at hr
  · rename_i k1 a k2 d h1 h2
    rw [h1] at hl; rw [h2] at hc
    have hla := hl.int
    have hca := hc.int
    generalize hA : IntKind.i64.wrap a = A at hr
    generalize hD : IntKind.i64.wrap d = D at hr
    cases hcond : (decide (0 ≤ A) && decide (A ≤ D) && decide ((b : Int) * D ≤ 1099511627776)) with
    | false => simp [hcond] at hr
    | true =>
      simp only [hcond, cond_true] at hr
      cases hr
      simp only [Bool.and_eq_true, decide_eq_true_eq] at hcond
      obtain ⟨⟨c1, c2⟩, c3⟩ := hcond
      obtain ⟨u, n, g1, g2, g3, g4, g5⟩ := zerosT_spec hz
      subst g4
      obtain ⟨i, hi, hib⟩ := bytesT_run hb
      have hrep : repL z D.toNat = repL z A.toNat ++ repL z (D.toNat - A.toNat) := by rw [← repL_add]; congr 1; omega
      have ha := H.allocCells (VR.plains (repL_plain g5 A.toNat)) (plain_all_one (repL_plain g5 A.toNat)) (repL z (D.toNat - A.toNat)) e z.length
      rw [← hrep] at ha
      have hlen : (repL z D.toNat).length = D.toNat * z.length := repL_length z _
      refine Sim.valw (v' := .slice (some ⟨w.heap.size, 0, none⟩) A.toNat D.toNat) (w' := w.alloc (.cells (repL z D.toNat).toArray e)) ?_ (VR.newS (by omega) (by omega)) ha.1 ha.2 (by simp [AHeap.new])
      have hu : u.cells = z.toArray := Array.ext' (by rw [cells_toList, g3])
      have t1 : (decide (D < 0) || decide ((b : Int) * D > 2 ^ 48)) = false := by
        have : ¬ (D < 0) := by omega
        have : ¬ ((b : Int) * D > 2 ^ 48) := by omega
        simp only [decide_eq_false ‹¬ (D < 0)›, decide_eq_false this, Bool.or_false]
      have t2 : ¬ (A < 0) := by omega
      have t3 : ¬ (A > D) := by omega
      rw [hla, hca]
      by_cases h0 : D.toNat * z.length = 0
      · have hr0 : (Array.range (D.toNat * z.length)).map (fun i => (#[] : Array Value)[i % (#[] : Array Value).size]!) = (repL z D.toNat).toArray := by
          rw [h0]; apply Array.ext'
          have : repL z D.toNat = [] := List.eq_nil_of_length_eq_zero (by rw [hlen]; exact h0)
          simp [this]
        rw [h0] at hr0
        simp only [Instr.makeSlice, Sem.run_bind, run_underlying ht, Result.andThen_ok, asInt, asIntOf, Sem.run_pure, typeInfo, run_program, hi, hib, hA, hD, t1, t2, t3, decide_false, Bool.or_false, Bool.false_eq_true, if_false, run_askRoom, sizeT_run g2, h0, if_true, hr0, newRow, run_newObj]
        rfl
      · simp only [Instr.makeSlice, Sem.run_bind, run_underlying ht, Result.andThen_ok, asInt, asIntOf, Sem.run_pure, typeInfo, run_program, hi, hib, hA, hD, t1, t2, t3, decide_false, Bool.or_false, Bool.false_eq_true, if_false, run_askRoom, sizeT_run g2, h0, zeroT_run g1, hu, zeros_eq, newRow, run_newObj]
        rfl
  · cases hr
theorem sim_rangeStr (H : HR W μ h w) {t : TypeId} (ht : P.underlying t = some .string) {x : Operand} {v : Value} {h' : AHeap} (hx : VR μ (ρ x) (ρ' x)) (hr : rop W ρ h (.rangeStr x) = some (v, h')) :
    Sim P W μ h w (do pure (.value (← Instr.range t (ρ' x)))) v h' := by
  simp only [rop] at hr
  split at hr
  · rename_i s heq
    rw [heq] at hx
    cases hr
    have ha := H.alloc (.stringIter s 0) ⟨w.heap.size, 0, 0, 0⟩ (.iter s 0) rfl ⟨H.below.size, heap_alloc_new w _, rfl⟩
    refine Sim.valw (v' := .pointer (some ⟨w.heap.size, 0, none⟩)) (w' := w.alloc (.stringIter s 0)) ?_ VR.newP ha.1 ha.2 (by simp [AHeap.new])
    rw [hx.string]
    simp [Instr.range, run_underlying ht]
  · cases hr
theorem sim_nextStr (H : HR W μ h w) {x : Operand} {ty : TypeId} {v : Value} {h' : AHeap} (hx : VR μ (ρ x) (ρ' x)) (hr : rop W ρ h (.nextStr x) = some (v, h')) :
    Sim P W μ h w (do pure (.value (← Instr.next (ρ' x) true ty))) v h' := by
  simp only [rop] at hr
  split at hr
  · rename_i i heq
    split at hr
    · rename_i s pos hg
      have hx0 := hx
      rw [heq] at hx
      rcases hx.ptr_inv with ⟨h1, _⟩ | ⟨_, p, hp, hx'⟩
      · cases h1
      · have hit := H.rep _ _ _ hp hg
        have hsh := hit.2.2
        have hx'' : ρ' x = .pointer (some ⟨p.blk, 0, none⟩) := by rw [hx']; simp [hsh]
        have hget : (getObj p.blk).run P w = .ok (.stringIter s pos) w := by simp [getObj, Sem.run, hit.2.1]
        cases hb : Nat.blt pos s.size with
        | false =>
          simp only [hb, cond_false] at hr
          cases hr
          have hb' : ¬ (pos < s.size) := by intro hc; have : Nat.blt pos s.size = true := Nat.ble_eq_true_of_le hc; rw [this] at hb; cases hb
          refine Sim.val H (v' := .tuple #[.bool false]) ?_ ((VRs.cons (.plain rfl) VRs.nil).tuple)
          rw [hx'']
          simp [Instr.next, hget, hb']
        | true =>
          simp only [hb, cond_true] at hr
          have hb' : pos < s.size := Nat.le_of_ble_eq_true hb
          generalize hd : Utf8.decode s pos = cw at hr
          obtain ⟨c, wd⟩ := cw
          simp only at hr
          cases hr
          have hlt : p.blk < w.heap.size := by
            rcases Nat.lt_or_ge p.blk w.heap.size with h' | h'
            · exact h'
            · have := hit.2.1; simp [Array.getElem?_eq_none h'] at this
          have hset : (setObj p.blk (.stringIter s (pos + wd))).run P w = .ok () { w with heap := w.heap.setIfInBounds p.blk (.stringIter s (pos + wd)) } := by simp [setObj, Sem.run, hit.2.1]
          refine Sim.valw (v' := .tuple #[.bool true, .int .i64 pos, .int .i32 c]) (w' := { w with heap := w.heap.setIfInBounds p.blk (.stringIter s (pos + wd)) }) ?_ ((VRs.cons (.plain rfl) (VRs.cons (.plain rfl) (VRs.cons (.plain rfl) VRs.nil))).tuple) (μ' := μ) ?_ (Ext.refl _ _) (by simp [AHeap.put])
          · rw [hx'']
            simp [Instr.next, hget, hb', hd, hset, goInt]
          · refine H.write i p (.iter s pos) _ hp hg rfl rfl ?_ ?_ ?_
            · refine H.below.trans ⟨rfl, rfl, rfl, by simp, fun k hk => ?_⟩
              show (w.heap.setIfInBounds p.blk _)[k]? = _
              have := hit.1
              rw [Array.getElem?_setIfInBounds_ne (by omega)]
            · intro k hk
              show (w.heap.setIfInBounds p.blk _)[k]? = _
              rw [Array.getElem?_setIfInBounds_ne (Ne.symm hk)]
            · refine ⟨hit.1, ?_, hsh⟩
              show (w.heap.setIfInBounds p.blk _)[p.blk]? = _
              simp [hlt]
    · cases hr
  · cases hr
theorem runesFrom_plain (s : ByteArray) : ∀ (b i : Nat) (acc : Array Value), acc.toList.all plainV = true → (Conv.runesFrom s b i acc).toList.all plainV = true
  | 0, i, acc, h => h
  | b + 1, i, acc, h => by
    unfold Conv.runesFrom
    split
    · exact runesFrom_plain s b _ _ (by simp [List.all_append] at h ⊢; exact ⟨h, rfl⟩)
    · exact h
theorem sim_strRunes (H : HR W μ h w) {s d e : TypeId} (hs : P.underlying s = some .string) (hd : P.underlying d = some (.slice e)) (he : P.underlying e = some (.int .i32)) {x : Operand} {v : Value} {h' : AHeap}
    (hx : VR μ (ρ x) (ρ' x)) (hr : rop W ρ h (.strRunes x) = some (v, h')) : Sim P W μ h w (do pure (.value (← convert s d (ρ' x)))) v h' := by
  simp only [rop] at hr
  split at hr
  · rename_i st heq
    rw [heq] at hx
    generalize hL : Conv.runesFrom st st.size 0 #[] = L at hr
    have hpl : L.toList.all plainV = true := by rw [← hL]; exact runesFrom_plain st st.size 0 #[] rfl
    cases hb : Nat.ble L.toList.length 1073741824 with
    | false => simp only [hb, cond_false] at hr; cases hr
    | true =>
      simp only [hb, cond_true] at hr
      cases hr
      generalize hcap : Question.cut (.appendCap L.size 0 e) (w.tape w.drawn (.appendCap L.size 0 e)) = cap
      have hge : L.size ≤ cap := by rw [← hcap]; simp [Question.cut]
      have ha := (H.drew).allocCells (VR.plains hpl) (plain_all_one hpl) (List.replicate (cap - L.size) (.int .i32 0)) e 1
      have hlen : (L.toList ++ List.replicate (cap - L.size) (Value.int .i32 0)).length = cap := by simp; omega
      refine Sim.valw (v' := .slice (some ⟨w.heap.size, 0, none⟩) L.toList.length cap) (w' := w.drew.alloc (.cells (L.toList ++ List.replicate (cap - L.size) (Value.int .i32 0)).toArray e)) ?_
        (VR.newS (by simp; exact hge) (by rw [hlen]; omega)) ha.1 ha.2 (by simp [AHeap.new])
      rw [hx.string]
      have harr : (L.toList ++ List.replicate (cap - L.size) (Value.int .i32 0)).toArray = L ++ Array.replicate (cap - L.size) (Value.int .i32 0) := Array.ext' (by simp)
      rw [harr]
      simp [convert, run_underlying hs, run_underlying hd, run_underlying he, Conv.stringToRunes, hL, Question.forced, hcap, newRow]
  · cases hr
theorem VR.sliceNone {n c : Nat} {v' : Value} (hv : VR μ (.slice none n c) v') : v' = .slice none n c := by
  cases hv with
  | plain _ => rfl
theorem sim_clr (H : HR W μ h w) {t e ty : TypeId} {z : List Value} (ht : P.underlying t = some (.slice e)) (hz : zerosT P e = some z) {x : Operand} {v : Value} {h' : AHeap} (hx : VR μ (ρ x) (ρ' x)) (hr : rop W ρ h (.clr z x) = some (v, h')) :
    Sim P W μ h w (do pure (.value (← Builtin.clear_ #[t] ty #[ρ' x]))) v h' := by
  obtain ⟨u, n, g1, g2, g3, g4, g5⟩ := zerosT_spec hz
  simp only [rop] at hr
  split at hr
  · rename_i n c heq
    rw [heq] at hx; cases hr
    refine Sim.val H (v' := undef) ?_ VR.undef
    have hx' : ρ' x = .slice none n c := VR.sliceNone hx
    rw [hx']
    simp [Builtin.clear_, run_underlying ht, undef]
  · rename_i a c heq
    rw [heq] at hx; cases hr
    refine Sim.val H (v' := undef) ?_ VR.undef
    rcases hx.slice_inv with ⟨_, hx'⟩ | ⟨_, p, o', c', _, _, _, _, _, hx'⟩ | ⟨_, _, _, _, hx'⟩ <;> (rw [hx']; simp [Builtin.clear_, run_underlying ht, undef])
  · rename_i a m c heq
    rw [heq] at hx
    cases hb : Nat.beq c z.length with
    | false => simp [hb] at hr
    | true =>
      simp only [hb, cond_true] at hr
      obtain ⟨h'', hs, he⟩ := some_map hr
      cases he
      rcases hx.slice_inv with ⟨hs0, hx'⟩ | ⟨hs0, p, o', c', hp, hcc, hnc, hfit, ho, hx'⟩ | ⟨_, hn1, _⟩
      rotate_left 2
      · exfalso; omega
      · unfold astore at hs; simp [hs0] at hs
      · have := ho (by omega)
        subst this
        have har : AR μ a ⟨p.blk, a.off + p.shift, none⟩ := .inr ⟨hs0, p, hp, rfl⟩
        obtain ⟨w', hrun, H', hnx⟩ := astore_sim H har (VR.plains (repL_plain g5 (m + 1))) hs P
        refine Sim.valw (v' := undef) (w' := w') ?_ VR.undef (μ' := μ) H' (Ext.refl _ _) (by omega)
        rw [hx']
        have hu : u.cells = z.toArray := Array.ext' (by rw [cells_toList, g3])
        have hzc : (Builtin.zeroCells u.cells (m + 1)).toList = repL z (m + 1) := by
          unfold Builtin.zeroCells
          rw [hu]
          have := zeros_eq z (m + 1)
          have hsz : z.toArray.size = z.length := by simp
          rw [hsz] at this ⊢
          rw [this]
        simp only [Builtin.clear_, List.getElem?_toArray, List.getElem?_cons_zero, Sem.run_bind, run_underlying ht, Result.andThen_ok, zeroT_run g1, hzc, hrun, Sem.run_pure]
        simp [run_underlying ht, zeroT_run g1, hzc, hrun, undef]
  · cases hr
end
end Go.Mach
end
section
set_option linter.unusedSimpArgs false
set_option linter.unusedVariables false
namespace Go.Mach
open Go Go.RowKit
section
variable {P : Program} {W : World} {μ : PMap} {h : AHeap} {w : World} {ρ ρ' : Operand → Value}
theorem HR.adopt {w' : World} (H : HR W μ h w) (q : Place) (b : ABlk)
    (hfree : ∀ j r c, μ j = some r → h.own.get j = some c → c.live = true → r.blk ≠ q.blk)
    (hbelow : Below W.heap.size W w') (hother : ∀ k, k ≠ q.blk → w'.heap[k]? = w.heap[k]?) (hb : BR W (μ.upd h.next q) q w' b) :
    HR W (μ.upd h.next q) (h.new b) w' ∧ Ext μ h.next (μ.upd h.next q) := by
  have hext := Ext.upd μ h.next q
  have hm := hext.le H.dom
  refine ⟨⟨hbelow, ?_, ?_, ?_, ?_⟩, hext⟩
  · intro i r hr
    by_cases e : i = h.next
    · subst e; simp [AHeap.new]
    · rw [PMap.upd_ne μ q e] at hr
      have := H.dom i r hr
      simp only [AHeap.new]; omega
  · intro i hi
    simp only [AHeap.new] at hi ⊢
    rw [Tr.get_set_ne _ _ _ _ (by omega)]
    exact H.fresh i (by omega)
  · intro i r c hr hc
    simp only [AHeap.new, Tr.get_set] at hc
    by_cases e : i = h.next
    · subst e
      rw [PMap.upd_self] at hr
      simp only [if_true] at hc
      cases hr; cases hc; exact hb
    · rw [PMap.upd_ne μ q e] at hr
      rw [if_neg e] at hc
      exact (H.rep i r c hr hc).mono hm (fun hl => hother _ (hfree i r c hr hc hl))
  · intro i j r s b' c' hr hs hb' hc' hl hl' hqr
    simp only [AHeap.new, Tr.get_set] at hb' hc'
    by_cases e : i = h.next
    · by_cases e' : j = h.next
      · omega
      · exfalso
        rw [if_neg e'] at hc'
        rw [PMap.upd_ne μ q e'] at hs
        subst e
        rw [PMap.upd_self] at hr; cases hr
        exact hfree j s c' hs hc' hl' hqr.symm
    · rw [if_neg e] at hb'
      rw [PMap.upd_ne μ q e] at hr
      by_cases e' : j = h.next
      · exfalso
        subst e'
        rw [PMap.upd_self] at hs; cases hs
        exact hfree i r b' hr hb' hl hqr
      · rw [if_neg e'] at hc'
        rw [PMap.upd_ne μ q e'] at hs
        exact H.inj i j r s b' c' hr hs hb' hc' hl hl' hqr
theorem news_run (H : HR W μ h w) {esz m : Nat} {y y' : Value} {news : List Value} (hy : VR μ y y') (hn : newsOf W h esz y = some (m, news)) :
    ∃ news', VRs μ news news' ∧ (∀ v ∈ news, v.oneCell' = true) ∧ news.length = m * esz ∧ (∀ w, (Builtin.lenOf y').run P w = .ok m w) ∧
      (∀ w1 : World, w1.heap = w.heap → (Builtin.firstCells esz m y').run P w1 = .ok news'.toArray w1) ∧ (∃ a c, y' = .slice a m c ∨ ∃ s, y' = .string s ∧ esz = 1) := by
  unfold newsOf at hn
  split at hn
  · cases hn
    rw [hy.plain_inv rfl]
    exact ⟨[], VRs.nil, by simp, by simp, fun w => rfl, fun w1 _ => rfl, none, 0, .inl rfl⟩
  · rename_i a k c
    cases hc : (a.spot.isNone || Nat.beq c esz) with
    | false => simp [hc] at hn
    | true =>
      simp only [hc, cond_true] at hn
      obtain ⟨l, hl, he⟩ := some_map hn
      cases he
      have key : ∀ (a' : Addr) (c' : Nat), AR μ a a' → ∃ news', VRs μ news news' ∧ (∀ v ∈ news, v.oneCell' = true) ∧ news.length = m * esz ∧ (∀ w, (Builtin.lenOf (.slice (some a') m c')).run P w = .ok m w) ∧
          (∀ w1 : World, w1.heap = w.heap → (Builtin.firstCells esz m (.slice (some a') m c')).run P w1 = .ok news'.toArray w1) ∧ (∃ a c, Value.slice (some a') m c' = .slice a m c ∨ ∃ s, Value.slice (some a') m c' = .string s ∧ esz = 1) := by
        intro a' c' ha
        obtain ⟨l', hrs, hlen, hone, hcs⟩ := aloadN_sim H (m * esz) ha hl
        refine ⟨l', hrs, hone, hlen, fun w => rfl, fun w1 hw1 => ?_, _, _, .inl rfl⟩
        have := run_loadCells_list (P := P) w1 a' l' (fun j v hv => by rw [World.cell?_of_block (w := w) (by rw [hw1])]; exact hcs j v hv)
        rw [← hrs.1, hlen] at this
        exact this
      rcases hy.slice_inv with ⟨hs0, hy'⟩ | ⟨hs0, p, o', c', hp, hcc, hnc, hfit, ho, hy'⟩ | ⟨hs0, hn1, hc1, b1, hy'⟩
      rotate_left 2
      · subst hn1
        rw [hy']
        have hl0 : news = [] := by rw [Nat.zero_mul] at hl; simp [aloadN] at hl; exact hl
        subst hl0
        exact ⟨[], VRs.nil, by simp, by simp, fun w => rfl, fun w1 _ => by simp [Builtin.firstCells, loadCells, loadCellsFrom], _, _, .inl rfl⟩
      · rw [hy']; exact key _ _ (.inl ⟨hs0, rfl⟩)
      · rw [hy']
        by_cases hm : m = 0
        · subst hm
          have hl0 : news = [] := by rw [Nat.zero_mul] at hl; simp [aloadN] at hl; exact hl
          subst hl0
          exact ⟨[], VRs.nil, by simp, by simp, fun w => rfl, fun w1 _ => by simp [Builtin.firstCells, loadCells, loadCellsFrom], _, _, .inl rfl⟩
        · have := ho hm
          subst this
          exact key _ _ (.inr ⟨hs0, p, hp, rfl⟩)
  · rename_i s
    cases hc : Nat.beq esz 1 with
    | false => simp [hc] at hn
    | true =>
      simp only [hc, cond_true] at hn
      cases hn
      have he1 : esz = 1 := by simpa [Tr.nbeq] using hc
      subst he1
      rw [hy.string]
      have hpl : (s.data.toList.map fun b => Value.int .u8 b.toNat).all plainV = true := by
        rw [List.all_eq_true]; intro v hv; obtain ⟨b, _, rfl⟩ := List.mem_map.1 hv; rfl
      refine ⟨_, VR.plains hpl, plain_all_one hpl, by simp, fun w => rfl, fun w1 _ => ?_, none, 0, .inr ⟨s, rfl, rfl⟩⟩
      have e : s.extract 0 s.size = s := by
        cases s; simp [ByteArray.ext_iff]
      have e2 : (s.data.map fun b => Value.int .u8 b.toNat) = (s.data.toList.map fun b => Value.int .u8 b.toNat).toArray := Array.ext' (by simp)
      simp [Builtin.firstCells, e, e2]
  · cases hn
theorem app_room {t u e ty : TypeId} {d : TypeDesc} {esz n m c' : Nat} (ht : P.underlying t = some (.slice e)) (hs : sizeT P e = some esz) (hu : P.underlying u = some d) (hd : d = .slice e ∨ d = .string)
    {base : Option Addr} {y' : Value} {news' : List Value} (hl : (Builtin.lenOf y').run P w = .ok m w) (hf : (Builtin.firstCells esz m y').run P w = .ok news'.toArray w) (hfit : n + m ≤ c') {w' : World}
    (hst : ∀ a, base = some a → (storeCells (a.add (n * esz)) news').run P w = .ok () w') (hnone : base = none → w' = w) :
    (Builtin.append_ #[t, u] ty #[.slice base n c', y']).run P w = .ok (.slice base (n + m) c') w' := by
  have key : (Builtin.append_ #[t, u] ty #[.slice base n c', y']).run P w = ((match base with | some a => (do storeCells (a.add (n * esz)) news'; pure (.slice base (n + m) c') : Sem Value) | none => pure (.slice base (n + m) c')).run P w) := by
    rcases hd with rfl | rfl <;>
      (simp only [Builtin.append_, List.getElem?_toArray, List.getElem?_cons_zero, List.getElem?_cons_succ, Sem.run_bind, run_underlying ht, run_underlying hu, Result.andThen_ok, sizeT_run hs, Sem.run_pure, Bool.false_eq_true, if_false, hl, hfit, if_true, Bool.not_false, hf]
       cases base <;> rfl)
  rw [key]
  cases base with
  | none => rw [hnone rfl]; rfl
  | some a => simp [hst a rfl]
theorem app_grow {t u e ty : TypeId} {d : TypeDesc} {esz n m c' b : Nat} {z : List Value} (ht : P.underlying t = some (.slice e)) (hz : zerosT P e = some z) (hes : z.length = esz) (hb : bytesT P e = some b) (hb1 : b ≤ 1024)
    (hu : P.underlying u = some d) (hd : d = .slice e ∨ d = .string) {base : Option Addr} {y' : Value} {old' news' : List Value} (hl : (Builtin.lenOf y').run P w = .ok m w)
    (hf : (Builtin.firstCells esz m y').run P w.drew = .ok news'.toArray w.drew) (ho : (Builtin.firstCells esz n (.slice base n c')).run P w.drew = .ok old'.toArray w.drew)
    (hol : old'.length = n * esz) (hnl : news'.length = m * esz) (hgt : c' < n + m) (hle : n + m ≤ 1073741824) :
    ∃ cap, n + m ≤ cap ∧ (Builtin.append_ #[t, u] ty #[.slice base n c', y']).run P w =
      .ok (.slice (some ⟨w.heap.size, 0, none⟩) (n + m) cap) (w.drew.alloc (.cells (old' ++ news' ++ repL z (cap - (n + m))).toArray e)) ∧ (old' ++ news' ++ repL z (cap - (n + m))).length = cap * esz := by
  obtain ⟨v, k, g1, g2, g3, g4, g5⟩ := zerosT_spec hz
  subst hes
  subst g4
  obtain ⟨i, hi, hib⟩ := bytesT_run hb
  generalize hcap : Question.cut (.appendCap (n + m) c' e) (w.tape w.drawn (.appendCap (n + m) c' e)) = cap
  have hge : n + m ≤ cap := by rw [← hcap]; simp [Question.cut]
  refine ⟨cap, hge, ?_, ?_⟩
  · have hfits : ¬ (Builtin.nextslicecap (n + m) c' * b > 2 ^ 48) := by
      have := growslice_fits (bytes := b) hgt (Nat.le_trans (Nat.mul_le_mul hle hb1) (by decide))
      omega
    have h63 : ¬ (((n + m : Nat) : Int) > IntKind.i64.max ∧ (False ∨ b = 0)) := by
      have : IntKind.i64.max = 9223372036854775807 := by decide
      rw [this]; omega
    have hng : ¬ (n + m ≤ c') := by omega
    have hvc : v.cells = z.toArray := Array.ext' (by rw [cells_toList, g3])
    have hzc : Builtin.zeroCells z.toArray (cap - (n + m)) = (repL z (cap - (n + m))).toArray := by
      unfold Builtin.zeroCells
      have := zeros_eq z (cap - (n + m))
      have hsz : z.toArray.size = z.length := by simp
      rw [hsz] at this ⊢
      exact this
    have harr : old'.toArray ++ news'.toArray ++ (repL z (cap - (n + m))).toArray = (old' ++ news' ++ repL z (cap - (n + m))).toArray := Array.ext' (by simp)
    have hti : ∀ w, (typeInfo e).run P w = .ok i w := fun w => by simp [typeInfo, hi]
    have hch : (choose (.appendCap (n + m) c' e)).run P w = .ok cap w.drew := by simp [Question.forced, hcap]
    subst hib
    rcases hd with rfl | rfl <;>
      (simp only [Builtin.append_, List.getElem?_toArray, List.getElem?_cons_zero, List.getElem?_cons_succ, Sem.run_bind, run_underlying ht, run_underlying hu, Result.andThen_ok, sizeT_run g2, Sem.run_pure, Bool.false_eq_true, if_false, hl,
        hng, Bool.not_false, hti, h63, hfits, hch, run_askRoom, ho, hf, if_true, zeroT_run g1, hvc, hzc, harr, newRow, run_newObj]
       rfl)
  · simp only [List.length_append, repL_length, hol, hnl]
    rw [← Nat.add_mul, ← Nat.add_mul]; congr 1; omega
theorem sim_app (H : HR W μ h w) {t u e ty : TypeId} {d : TypeDesc} {b : Nat} {z : List Value} (ht : P.underlying t = some (.slice e)) (hz : zerosT P e = some z) (hz0 : z.length ≠ 0) (hb : bytesT P e = some b) (hb1 : b ≤ 1024)
    (hu : P.underlying u = some d) (hd : d = .slice e ∨ d = .string) {x y : Operand} {v : Value} {h' : AHeap} (hx : VR μ (ρ x) (ρ' x)) (hy : VR μ (ρ y) (ρ' y)) (hr : rop W ρ h (.app z.length x y) = some (v, h')) :
    Sim P W μ h w (do pure (.value (← Builtin.append_ #[t, u] ty #[ρ' x, ρ' y]))) v h' := by
  obtain ⟨zv, zn, g1, g2, g3, g4, g5⟩ := zerosT_spec hz
  subst g4
  simp only [rop] at hr
  unfold appA at hr
  cases hnw : newsOf W h z.length (ρ y) with
  | none => simp [hnw] at hr
  | some mn =>
    obtain ⟨m, news⟩ := mn
    simp only [hnw] at hr
    obtain ⟨news', n1, n2, n3, n4, n5, _⟩ := news_run (P := P) H hy hnw
    have hnl' : news'.length = m * z.length := by rw [← n1.1, n3]
    split at hr
    · rename_i heq
      rw [heq] at hx
      have hx' := hx.plain_inv rfl
      cases m with
      | zero =>
        simp only at hr
        cases hr
        rw [heq]
        refine Sim.valw (v' := .slice none 0 0) (w' := w) ?_ (.plain rfl) (μ' := μ) H (Ext.refl _ _) (Nat.le_refl _)
        rw [hx']
        have := app_room (P := P) (w := w) (w' := w) (ty := ty) (base := none) (n := 0) (c' := 0) ht g2 hu hd (n4 w) (n5 w rfl) (Nat.le_refl _) (fun a ha => by cases ha) (fun _ => rfl)
        exact this
      | succ m' =>
        simp only at hr
        cases hc : (Nat.ble (m' + 1) 1073741824 && news.all oneV) with
        | false => simp [hc] at hr
        | true =>
          simp only [hc, cond_true] at hr
          cases hr
          simp only [Bool.and_eq_true, Nat.ble_eq] at hc
          obtain ⟨cap, h1, h2, h3⟩ := app_grow (P := P) (w := w) (ty := ty) (base := none) (n := 0) (c' := 0) (old' := []) ht hz rfl hb hb1 hu hd (n4 w) (n5 w.drew rfl) (by simp [Builtin.firstCells]) (by simp) hnl' (by omega) (by omega)
          simp only [Nat.zero_add, List.nil_append] at h1 h2 h3
          have ha := (H.drew).allocCells n1 n2 (repL z (cap - (m' + 1))) e z.length
          refine Sim.valw (v' := .slice (some ⟨w.heap.size, 0, none⟩) (m' + 1) cap) (w' := _) ?_ (VR.newS h1 ?_) ha.1 ha.2 (by simp [AHeap.new])
          · rw [hx']; exact h2
          · rw [h3]; exact Nat.le_refl _
    · rename_i a n c heq
      rw [heq] at hx
      cases hce : Nat.beq c z.length with
      | false => simp [hce] at hr
      | true =>
        simp only [hce, cond_true] at hr
        have hee : c = z.length := by simpa [Tr.nbeq] using hce
        split at hr
        · rename_i hsp
          rcases hx.slice_inv with ⟨hs0, _⟩ | ⟨hs0, p, o', c', hp, hcc, hnc, hfit, ho, hx'⟩ | ⟨hs0, _⟩
          rotate_left 2
          · rw [hsp] at hs0; cases hs0
          · rw [hsp] at hs0; cases hs0
          · have hpe : p.esz = z.length := by rw [← hcc, hee]
            rw [hpe] at hfit
            have hadd : ∀ k, (⟨p.blk, o', none⟩ : Addr).add k = ⟨p.blk, o' + k, none⟩ := by intro k; unfold Addr.add; split <;> simp_all
            cases m with
            | zero =>
              simp only at hr
              cases hr
              have hn0 : news' = [] := List.eq_nil_of_length_eq_zero (by rw [hnl']; simp)
              subst hn0
              refine Sim.valw (v' := ρ' x) (w' := w) ?_ (by rw [heq]; exact hx) (μ' := μ) H (Ext.refl _ _) (Nat.le_refl _)
              rw [hx']
              exact app_room (P := P) (w := w) (w' := w) (ty := ty) (base := some ⟨p.blk, o', none⟩) (n := n) (c' := c') ht g2 hu hd (n4 w) (n5 w rfl) hnc (fun a ha => by simp [storeCells]) (fun h => by cases h)
            | succ m' =>
              simp only at hr
              split at hr
              · rename_i old _ ho1 ho2
                cases hc : (Nat.ble (n + (m' + 1)) 1073741824 && news.all oneV) with
                | false => simp [hc] at hr
                | true =>
                  simp only [hc, cond_true] at hr
                  cases hr
                  simp only [Bool.and_eq_true, Nat.ble_eq] at hc
                  have hlt : a.block < h.next := H.dom _ _ hp
                  -- the old cells
                  have hold : ∃ old', VRs μ old old' ∧ (∀ v ∈ old, v.oneCell' = true) ∧ old.length = n * z.length ∧ (∀ j v, old'[j]? = some v → w.cell? ⟨p.blk, o' + j, none⟩ = some v) := by
                    by_cases hn : n = 0
                    · subst hn
                      rw [Nat.zero_mul] at ho1
                      simp [aloadN] at ho1
                      subst ho1
                      exact ⟨[], VRs.nil, by simp, by simp, by simp⟩
                    · have := ho hn
                      subst this
                      obtain ⟨l', q1, q2, q3, q4⟩ := aloadN_sim H (n * z.length) (a := a) (a' := ⟨p.blk, a.off + p.shift, none⟩) (.inr ⟨hs0, p, hp, rfl⟩) ho1
                      exact ⟨l', q1, q3, q2, fun j v hv => by rw [← hadd]; exact q4 j v hv⟩
                  obtain ⟨old', q1, q2, q3, q4⟩ := hold
                  have hol' : old'.length = n * z.length := by rw [← q1.1, q3]
                  by_cases hroom : n + (m' + 1) ≤ c'
                  · -- in place
                    obtain ⟨hN, cs, el, r1, r2, r3, r4⟩ := H.rep _ _ _ hp ho2
                    have hmul : (n + (m' + 1)) * z.length ≤ c' * z.length := Nat.mul_le_mul_right _ hroom
                    have hmul2 : (n + (m' + 1)) * z.length = n * z.length + (m' + 1) * z.length := Nat.add_mul _ _ _
                    have hone' := n1.one n2
                    have hst := run_storeCells_at P p.blk (o' + n * z.length) el news' 0 cs w r1 (by omega) hone'
                    simp only [Nat.add_zero] at hst
                    have hsr := setRow_heap w p.blk cs (cs.toList.take (o' + n * z.length) ++ news' ++ cs.toList.drop (o' + n * z.length + news'.length)).toArray el _ r1
                    have hrun := app_room (P := P) (w := w) (ty := ty) (base := some ⟨p.blk, o', none⟩) (n := n) (c' := c') ht g2 hu hd (n4 w) (n5 w rfl) hroom (fun a ha => by cases ha; rw [hadd]; exact hst) (fun h => by cases h)
                    have hK := H.kill a.block hlt
                    have hfree : ∀ j r c, μ j = some r → (h.put a.block .dead).own.get j = some c → c.live = true → r.blk ≠ p.blk := by
                      intro j r c hj hgc hlc hblk
                      simp only [AHeap.put, Tr.get_set] at hgc
                      by_cases ej : j = a.block
                      · rw [if_pos ej] at hgc; cases hgc; cases hlc
                      · rw [if_neg ej] at hgc
                        exact ej (H.inj j a.block r p c _ hj hp hgc ho2 hlc rfl hblk)
                    have hA := hK.adopt (w' := w.setRow p.blk (cs.toList.take (o' + n * z.length) ++ news' ++ cs.toList.drop (o' + n * z.length + news'.length)).toArray) ⟨p.blk, o', p.size, z.length⟩ (.cells (old ++ news)) hfree
                      (H.below.trans ⟨rfl, rfl, rfl, by simp, fun k hk => setRow_other w p.blk k _ (by omega)⟩) (fun k hk => setRow_other w p.blk k _ hk) ?_
                    · refine Sim.valw (v' := .slice (some ⟨p.blk, o', none⟩) (n + (m' + 1)) c') ?_ ?_ hA.1 hA.2 (by simp [AHeap.new, AHeap.put])
                      · rw [hx']; exact hrun
                      · exact VR.slice (p := ⟨p.blk, o', p.size, z.length⟩) (PMap.upd_self μ _ _) hroom hfit (by intro _; simp)
                    · have hcl : cs.toList.length = p.size := by simpa using r2
                      refine ⟨hN, _, el, hsr, ?_, ?_, ?_⟩
                      · simp [List.length_append, List.length_take, List.length_drop]; omega
                      · simp only [List.length_append, q3, n3]; omega
                      · intro k v hv
                        have hext : ∀ i p, μ i = some p → (μ.upd (h.put a.block .dead).next ⟨p.blk, o', p.size, z.length⟩) i = some p ∨ True := fun _ _ _ => .inr trivial
                        have hm : ∀ i r, μ i = some r → (μ.upd (h.put a.block .dead).next ⟨p.blk, o', p.size, z.length⟩) i = some r := (Ext.upd μ _ _).le hK.dom
                        rw [List.getElem?_append] at hv
                        have hmin : (cs.toList.take (o' + n * z.length)).length = o' + n * z.length := by rw [List.length_take]; omega
                        simp only [List.getElem?_toArray, List.append_assoc]
                        rw [List.getElem?_append, hmin]
                        by_cases hk : k < old.length
                        · rw [if_pos hk] at hv
                          rw [if_pos (by omega)]
                          obtain ⟨v', hv', hrel⟩ := q1.2 k v hv
                          have hcell := q4 k v' hv'
                          have : cs[o' + k]? = some v' := by simpa [World.cell?, r1] using hcell
                          rw [List.getElem?_take, if_pos (by omega)]
                          have h1c := q2 v (List.mem_of_getElem? hv)
                          exact ⟨h1c, v', by simpa using this, by rw [hrel.oneCell]; exact h1c, hrel.mono hm⟩
                        · rw [if_neg hk] at hv
                          rw [if_neg (by omega), List.getElem?_append]
                          obtain ⟨v', hv', hrel⟩ := n1.2 _ v hv
                          have hkl : k - old.length < news'.length := by
                            rcases Nat.lt_or_ge (k - old.length) news'.length with h' | h'
                            · exact h'
                            · rw [List.getElem?_eq_none h'] at hv'; cases hv'
                          rw [if_pos (by omega)]
                          have h1c := n2 v (List.mem_of_getElem? hv)
                          refine ⟨h1c, v', ?_, by rw [hrel.oneCell]; exact h1c, hrel.mono hm⟩
                          rw [← hv']; congr 1; omega
                  · -- a new array
                    have hfo : (Builtin.firstCells z.length n (.slice (some ⟨p.blk, o', none⟩) n c')).run P w.drew = .ok old'.toArray w.drew := by
                      have := run_loadCells_list (P := P) w.drew ⟨p.blk, o', none⟩ old' (fun j v hv => by rw [hadd]; exact q4 j v hv)
                      rw [hol'] at this
                      exact this
                    obtain ⟨cap, h1, h2, h3⟩ := app_grow (P := P) (w := w) (ty := ty) (base := some ⟨p.blk, o', none⟩) (n := n) (c' := c') (old' := old') ht hz rfl hb hb1 hu hd (n4 w) (n5 w.drew rfl) hfo hol' hnl' (by omega) hc.1
                    have ha := (H.drew.kill a.block hlt).allocCells (q1.append n1) (fun v hv => (List.mem_append.1 hv).elim (q2 v) (n2 v)) (repL z (cap - (n + (m' + 1)))) e z.length
                    refine Sim.valw (v' := .slice (some ⟨w.heap.size, 0, none⟩) (n + (m' + 1)) cap) (w' := _) ?_ (VR.newS h1 ?_) ha.1 ha.2 (by simp [AHeap.new, AHeap.put])
                    · rw [hx']; exact h2
                    · rw [h3]; exact Nat.le_refl _
              · cases hr
        · cases hr
    · cases hr
end
end Go.Mach
end
