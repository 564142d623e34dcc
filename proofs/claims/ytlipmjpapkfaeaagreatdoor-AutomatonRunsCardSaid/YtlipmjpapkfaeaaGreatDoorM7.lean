/- The abstract machine, part 7: the operations that make blocks or change them. No condition. -/
import Derived.Test.YtlipmjpapkfaeaaGreatDoorM6
set_option linter.unusedSimpArgs false
set_option linter.unusedVariables false
namespace Go.Mach
open Go Go.RowKit

section
variable {P : Program} {W : World} {μ : PMap} {h : AHeap} {w : World} {ρ ρ' : Operand → Value}

theorem HR.allocCells (H : HR W μ h w) {l l' : List Value} (hl : VRs μ l l') (h1 : ∀ v ∈ l, v.oneCell' = true) (rest : List Value) (e esz : Nat) :
    HR W (μ.upd h.next ⟨w.heap.size, 0, (l' ++ rest).length, esz⟩) (h.new (.cells l)) (w.alloc (.cells (l' ++ rest).toArray e)) ∧ Ext μ h.next (μ.upd h.next ⟨w.heap.size, 0, (l' ++ rest).length, esz⟩) := by
  have hext : Ext μ h.next (μ.upd h.next ⟨w.heap.size, 0, (l' ++ rest).length, esz⟩) := fun i hi => PMap.upd_ne μ _ (by omega)
  refine H.alloc _ ⟨w.heap.size, 0, (l' ++ rest).length, esz⟩ _ rfl ?_
  refine ⟨H.below.size, (l' ++ rest).toArray, e, heap_alloc_new w _, by simp, ?_, ?_⟩
  · have := hl.1; simp; omega
  · intro k v hv
    obtain ⟨v', h2, h3⟩ := hl.2 k v hv
    have h4 := h1 v (List.mem_of_getElem? hv)
    refine ⟨h4, v', ?_, by rw [h3.oneCell]; exact h4, h3.ext hext H.dom⟩
    simp only [Nat.zero_add, List.getElem?_toArray]
    have hk : k < l'.length := by
      rcases Nat.lt_or_ge k l'.length with h' | h'
      · exact h'
      · rw [List.getElem?_eq_none h'] at h2; cases h2
    rw [List.getElem?_append, if_pos hk]; exact h2

theorem Ext.upd (μ : PMap) (n : Nat) (p : Place) : Ext μ n (μ.upd n p) := fun i hi => PMap.upd_ne μ p (by omega)

theorem VR.newP {n : Nat} {b s z : Nat} : VR (μ.upd n ⟨b, 0, s, z⟩) (oP n 0) (.pointer (some ⟨b, 0, none⟩)) :=
  VR.ptr (p := ⟨b, 0, s, z⟩) (PMap.upd_self μ n _)

theorem VR.newS {n : Nat} {b s z k c : Nat} (hk : k ≤ c) (hc : c * z ≤ s) : VR (μ.upd n ⟨b, 0, s, z⟩) (oS n 0 k z) (.slice (some ⟨b, 0, none⟩) k c) :=
  VR.slice (p := ⟨b, 0, s, z⟩) (PMap.upd_self μ n _) hk (by simpa using hc) (by intro _; simp)

theorem plain_all_one {z : List Value} (h : z.all plainV = true) : ∀ v ∈ z, v.oneCell' = true := fun v hv => plain_oneCell (List.all_eq_true.1 h v hv)

theorem sim_newv (H : HR W μ h w) {e : TypeId} {z : List Value} (hz : zerosT P e = some z) {v : Value} {h' : AHeap} (hr : rop W ρ h (.newv z) = some (v, h')) :
    Sim P W μ h w (do pure (.value (← Instr.alloc e true (.tuple #[])))) v h' := by
  simp only [rop] at hr
  cases hr
  obtain ⟨u, n, h1, h2, h3, h4, h5⟩ := zerosT_spec hz
  have ha := H.allocCells (VR.plains h5) (plain_all_one h5) [] e 0
  simp only [List.append_nil] at ha
  refine Sim.valw (v' := .pointer (some ⟨w.heap.size, 0, none⟩)) (w' := w.alloc (.cells z.toArray e)) ?_ VR.newP ha.1 ha.2 (by simp [AHeap.new])
  have : u.cells = z.toArray := Array.ext' (by rw [cells_toList, h3])
  simp [Instr.alloc, zeroT_run h1, newVar, newRow, this]

theorem sim_box (H : HR W μ h w) {e : TypeId} {x : Operand} (hx : VR μ (ρ x) (ρ' x)) {v : Value} {h' : AHeap} (hr : rop W ρ h (.box x) = some (v, h')) :
    Sim P W μ h w (do pure (.value (← Instr.box e (ρ' x)))) v h' := by
  simp only [rop] at hr
  cases hb : (celsL (ρ x)).all oneV with
  | false => simp [hb] at hr
  | true =>
    simp only [hb, cond_true] at hr
    cases hr
    have h1 : ∀ v ∈ celsL (ρ x), v.oneCell' = true := fun v hv => by rw [← oneV_eq]; exact List.all_eq_true.1 hb v hv
    have ha := H.allocCells hx.cels h1 [] e 0
    simp only [List.append_nil] at ha
    refine Sim.valw (v' := .pointer (some ⟨w.heap.size, 0, none⟩)) (w' := w.alloc (.cells (celsL (ρ' x)).toArray e)) ?_ VR.newP ha.1 ha.2 (by simp [AHeap.new])
    have : (ρ' x).cells = (celsL (ρ' x)).toArray := Array.ext' (by rw [cells_toList])
    simp [Instr.box, newVar, newRow, this]

/-! ### literals -/
theorem foldl_sets (off : Nat) : ∀ (vs : List Value) (k : Nat) (cs : Array Value), off + k + vs.length ≤ cs.size →
    ((vs.zipIdx k).foldl (fun (cs : Array Value) (x : Value × Nat) => cs.setIfInBounds (off + x.2) x.1) cs).toList = cs.toList.take (off + k) ++ vs ++ cs.toList.drop (off + k + vs.length)
  | [], k, cs, _ => by simp
  | v :: vs, k, cs, hl => by
    simp only [List.length_cons] at hl
    simp only [List.zipIdx_cons, List.foldl_cons]
    rw [foldl_sets off vs (k + 1) _ (by simp; omega)]
    have e := list_seg_step cs.toList (off + k) v vs (by simp; omega)
    simpa [Array.toList_setIfInBounds, Nat.add_assoc, Nat.add_comm 1] using e

theorem fill_step (v : Value) (off : Nat) (cs : Array Value) (hl : off + v.cells.size ≤ cs.size) :
    (v.cells.zipIdx.foldl (fun (cs : Array Value) (x : Value × Nat) => cs.setIfInBounds (off + x.2) x.1) cs).toList = splice cs.toList off (celsL v) := by
  rw [← Array.foldl_toList, Array.toList_zipIdx, cells_toList]
  have : v.cells.size = (celsL v).length := by rw [← cells_toList]; simp
  rw [foldl_sets off (celsL v) 0 cs (by omega)]
  simp [splice]

theorem splice_length (l : List Value) (o : Nat) (vs : List Value) (hl : o + vs.length ≤ l.length) : (splice l o vs).length = l.length := by
  unfold splice; simp; omega

/-- 'fill' of the model and of the machine. 'place' and 'loc' say the same of each part. -/
theorem fill_run (place : Nat → Option (Nat × Nat)) : ∀ (ps : List (Nat × Operand)) (qs : List (Nat × Nat × Operand)) (z z' : List Value) (l : List Value),
    ps.length = qs.length → (∀ k : Nat, ∀ p q, ps[k]? = some p → qs[k]? = some q → place p.1 = some (q.1, q.2.1) ∧ p.2 = q.2.2) → (∀ p ∈ ps, VR μ (ρ p.2) (ρ' p.2)) →
    VRs μ z z' → fillL ρ z qs = some l → ∃ l', Instr.fill place z'.toArray (ps.map fun p => (p.1, ρ' p.2)) = some l'.toArray ∧ VRs μ l l' ∧ l.length = z.length
  | [], qs, z, z', l, hlen, _, _, hz, hf => by
    cases qs with
    | nil => simp [fillL] at hf; subst hf; exact ⟨z', rfl, hz, rfl⟩
    | cons q qs => simp at hlen
  | p :: ps, qs, z, z', l, hlen, hpl, hv, hz, hf => by
    cases qs with
    | nil => simp at hlen
    | cons q qs =>
      obtain ⟨off, size, x⟩ := q
      obtain ⟨i, y⟩ := p
      have h0 := hpl 0 _ _ rfl rfl
      simp only at h0
      obtain ⟨hp, rfl⟩ := h0
      simp only [fillL] at hf
      cases hb : (Nat.beq (celsL (ρ y)).length size && Nat.ble (off + size) z.length) with
      | false => simp [hb] at hf
      | true =>
        simp only [hb, cond_true] at hf
        simp only [Bool.and_eq_true, Tr.nbeq, decide_eq_true_eq, Nat.ble_eq] at hb
        have hvy := hv (i, y) (by simp)
        simp only at hvy
        have hsz : (ρ' y).cells.size = size := by rw [← Array.length_toList, cells_toList, ← hvy.cels.1]; exact hb.1
        have hle : off + (ρ' y).cells.size ≤ z'.length := by rw [hsz, ← hz.1]; exact hb.2
        obtain ⟨l', h1, h2, h3⟩ := fill_run place ps qs (splice z off (celsL (ρ y))) (splice z' off (celsL (ρ' y))) l (by simpa using hlen)
          (fun k p q hp hq => hpl (k + 1) p q (by simpa using hp) (by simpa using hq)) (fun p hp => hv p (by simp [hp])) (hz.splice hvy.cels off) hf
        refine ⟨l', ?_, h2, by rw [h3, splice_length _ _ _ (by rw [hb.1]; exact hb.2)]⟩
        simp only [List.map_cons, Instr.fill, hp]
        have hc : ((ρ' y).cells.size ≠ size || off + (ρ' y).cells.size > z'.toArray.size) = false := by
          simp [hsz]; rw [hsz] at hle; exact hle
        simp only [hc, Bool.false_eq_true, if_false]
        have hst := fill_step (ρ' y) off z'.toArray (by simpa using hle)
        have : ((ρ' y).cells.zipIdx.foldl (fun (cs : Array Value) (x : Value × Nat) => cs.setIfInBounds (off + x.2) x.1) z'.toArray) = (splice z' off (celsL (ρ' y))).toArray := by
          apply Array.ext'; rw [hst]
        rw [← h1]
        show Instr.fill place ((ρ' y).cells.zipIdx.foldl (fun (cs : Array Value) (x : Value × Nat) => cs.setIfInBounds (off + x.2) x.1) z'.toArray) _ = _
        rw [this]

theorem mapM_places (fs : List Field) (hs : (fs.all fun f => (sizeT P f.type).isSome) = true) (w : World) :
    (fs.mapM fun f => (do pure (f.offset, ← sizeOf f.type) : Sem (Nat × Nat))).run P w = .ok (fs.map fun f => (f.offset, (sizeT P f.type).getD 0)) w := by
  induction fs with
  | nil => simp
  | cons f fs ih =>
    simp only [List.all_cons, Bool.and_eq_true] at hs
    obtain ⟨n, hn⟩ := Option.isSome_iff_exists.1 hs.1
    simp only [List.mapM_cons, Sem.run_bind, sizeT_run hn, Result.andThen_ok, Sem.run_pure, ih hs.2, List.map_cons, hn, Option.getD_some]

theorem sim_build_struct (H : HR W μ h w) {t : TypeId} {z : List Value} {fs : Array Field} (hz : zerosT P t = some z) (ht : P.underlying t = some (.struct fs)) (hs : (fs.toList.all fun f => (sizeT P f.type).isSome) = true)
    {ps : Array (Nat × Operand)} {qs : List (Nat × Nat × Operand)} (hq : fieldParts P fs ps.toList = some qs) (hv : ∀ p ∈ ps.toList, VR μ (ρ p.2) (ρ' p.2)) {v : Value} {h' : AHeap} (hr : rop W ρ h (.build z qs) = some (v, h')) :
    Sim P W μ h w (do pure (.value (← Instr.build t (ps.map fun (i, x) => (i, ρ' x))))) v h' := by
  simp only [rop] at hr
  split at hr
  · rename_i l hl
    cases hr
    obtain ⟨u, n, h1, h2, h3, h4, h5⟩ := zerosT_spec hz
    have hparts : ∀ (l : List (Nat × Operand)) (qs : List (Nat × Nat × Operand)), fieldParts P fs l = some qs → l.length = qs.length ∧ ∀ k : Nat, ∀ p q, l[k]? = some p → qs[k]? = some q →
        ((fs.map fun f => (f.offset, (sizeT P f.type).getD 0))[p.1]?) = some (q.1, q.2.1) ∧ p.2 = q.2.2 := by
      intro l
      induction l with
      | nil => intro qs hq; simp [fieldParts] at hq; subst hq; exact ⟨rfl, fun k p q hp => by simp at hp⟩
      | cons a l ih =>
        intro qs hq
        obtain ⟨i, x⟩ := a
        simp only [fieldParts] at hq
        cases hf : fs[i]? with
        | none => simp [hf] at hq
        | some f =>
          cases hq' : fieldParts P fs l with
          | none => simp [hf, hq'] at hq
          | some qs' =>
            simp only [hf, hq'] at hq
            obtain ⟨n, hn, rfl⟩ := some_map hq
            obtain ⟨e1, e2⟩ := ih qs' hq'
            refine ⟨by simp [e1], fun k p q hp hq => ?_⟩
            cases k with
            | zero => simp at hp hq; subst hp; subst hq; simp [hf, hn]
            | succ k => exact e2 k p q (by simpa using hp) (by simpa using hq)
    obtain ⟨e1, e2⟩ := hparts ps.toList qs hq
    obtain ⟨l', g1, g2, g3⟩ := fill_run (fun i => (fs.map fun f => (f.offset, (sizeT P f.type).getD 0))[i]?) ps.toList qs z z l e1 e2 hv (VR.plains h5) hl
    refine Sim.val H (v' := .agg l'.toArray) ?_ g2.agg
    have hu : u.cells = z.toArray := Array.ext' (by rw [cells_toList, h3])
    have hm : (fs.mapM fun f => (do pure (f.offset, ← sizeOf f.type) : Sem (Nat × Nat))).run P w = .ok (fs.map fun f => (f.offset, (sizeT P f.type).getD 0)) w := by
      rw [Array.mapM_eq_mapM_toList, Sem.run_map, mapM_places fs.toList hs w, Result.andThen_ok]
      congr 1
      exact Array.ext' (by simp)
    have hps : (ps.map fun (i, x) => (i, ρ' x)).toList = ps.toList.map fun p => (p.1, ρ' p.2) := by simp
    simp only [Instr.build, Sem.run_bind, zeroT_run h1, Result.andThen_ok, run_underlying ht, hm, hps, hu, g1, Sem.run_pure]
  · cases hr

theorem elemParts_spec (size : Nat) : ∀ (l : List (Nat × Operand)), l.length = (elemParts size l).length ∧ ∀ k : Nat, ∀ p q, l[k]? = some p → (elemParts size l)[k]? = some q →
    (some (p.1 * size, size) : Option (Nat × Nat)) = some (q.1, q.2.1) ∧ p.2 = q.2.2
  | [] => ⟨rfl, fun k p q hp => by simp at hp⟩
  | (i, x) :: l => by
    obtain ⟨e1, e2⟩ := elemParts_spec size l
    refine ⟨by simp [elemParts, ← e1], fun k p q hp hq => ?_⟩
    cases k with
    | zero => simp [elemParts] at hp hq; subst hp; subst hq; simp
    | succ k => exact e2 k p q (by simpa using hp) (by simpa [elemParts] using hq)

theorem sim_build_array (H : HR W μ h w) {t e : TypeId} {z : List Value} {len n : Nat} (hz : zerosT P t = some z) (ht : P.underlying t = some (.array len e)) (hs : sizeT P e = some n)
    {ps : Array (Nat × Operand)} (hv : ∀ p ∈ ps.toList, VR μ (ρ p.2) (ρ' p.2)) {v : Value} {h' : AHeap} (hr : rop W ρ h (.build z (elemParts n ps.toList)) = some (v, h')) :
    Sim P W μ h w (do pure (.value (← Instr.build t (ps.map fun (i, x) => (i, ρ' x))))) v h' := by
  simp only [rop] at hr
  split at hr
  · rename_i l hl
    cases hr
    obtain ⟨u, m, h1, h2, h3, h4, h5⟩ := zerosT_spec hz
    obtain ⟨e1, e2⟩ := elemParts_spec n ps.toList
    obtain ⟨l', g1, g2, g3⟩ := fill_run (fun i => some (i * n, n)) ps.toList _ z z l e1 e2 hv (VR.plains h5) hl
    refine Sim.val H (v' := .agg l'.toArray) ?_ g2.agg
    have hu : u.cells = z.toArray := Array.ext' (by rw [cells_toList, h3])
    have hps : (ps.map fun (i, x) => (i, ρ' x)).toList = ps.toList.map fun p => (p.1, ρ' p.2) := by simp
    simp only [Instr.build, Sem.run_bind, zeroT_run h1, Result.andThen_ok, run_underlying ht, sizeT_run hs, hps, hu, g1, Sem.run_pure]
  · cases hr

theorem repL_length (z : List Value) : ∀ n, (repL z n).length = n * z.length
  | 0 => by simp [repL]
  | n + 1 => by simp [repL, repL_length z n, Nat.add_mul, Nat.add_comm]

theorem repL_get (z : List Value) : ∀ (n k : Nat), k < n * z.length → (repL z n)[k]? = z[k % z.length]?
  | 0, k, h => by simp at h
  | n + 1, k, h => by
    have hz : 0 < z.length := by
      rcases Nat.eq_zero_or_pos z.length with h0 | h0
      · rw [h0] at h; simp at h
      · exact h0
    unfold repL
    rw [List.getElem?_append]
    by_cases hk : k < z.length
    · rw [if_pos hk, Nat.mod_eq_of_lt hk]
    · have e : k % z.length = (k - z.length) % z.length := Nat.mod_eq_sub_mod (by omega)
      have hm : (n + 1) * z.length = n * z.length + z.length := Nat.succ_mul n z.length
      rw [if_neg hk, repL_get z n (k - z.length) (by omega), e]

theorem repL_plain {z : List Value} (hz : z.all plainV = true) : ∀ n, (repL z n).all plainV = true
  | 0 => rfl
  | n + 1 => by simp [repL, List.all_append, hz, repL_plain hz n]

theorem repL_add (z : List Value) : ∀ a b, repL z (a + b) = repL z a ++ repL z b
  | 0, b => by simp [repL]
  | a + 1, b => by rw [show a + 1 + b = (a + b) + 1 by omega]; simp [repL, repL_add z a b, List.append_assoc]

theorem zeros_eq (z : List Value) (n : Nat) : ((Array.range (n * z.length)).map fun i => z.toArray[i % z.toArray.size]!) = (repL z n).toArray := by
  apply Array.ext'
  apply List.ext_getElem?
  intro k
  simp only [Array.toList_map, Array.toList_range, List.getElem?_map, List.size_toArray]
  by_cases hk : k < n * z.length
  · have hz : 0 < z.length := by
      rcases Nat.eq_zero_or_pos z.length with h0 | h0
      · rw [h0] at hk; simp at hk
      · exact h0
    rw [List.getElem?_range hk, repL_get z n k hk]
    have hm : k % z.length < z.length := Nat.mod_lt _ hz
    simp [hm]
  · rw [List.getElem?_eq_none (by simp; omega), List.getElem?_eq_none (by rw [repL_length]; omega)]
    rfl

theorem sim_buildSl (H : HR W μ h w) {t e : TypeId} {z : List Value} {n : Nat} (ht : P.underlying t = some (.slice e)) (hz : zerosT P e = some z) (hn : n * z.length ≤ 2 ^ 24)
    {ps : Array (Nat × Operand)} (hv : ∀ p ∈ ps.toList, VR μ (ρ p.2) (ρ' p.2)) {v : Value} {h' : AHeap} (hr : rop W ρ h (.buildSl (repL z n) (elemParts z.length ps.toList) n z.length) = some (v, h')) :
    Sim P W μ h w (do pure (.value (← Instr.buildSlice t n (ps.map fun (i, x) => (i, ρ' x))))) v h' := by
  simp only [rop] at hr
  split at hr
  · rename_i l hl
    cases hb : l.all oneV with
    | false => simp [hb] at hr
    | true =>
      simp only [hb, cond_true] at hr
      cases hr
      obtain ⟨u, m, h1, h2, h3, h4, h5⟩ := zerosT_spec hz
      subst h4
      obtain ⟨e1, e2⟩ := elemParts_spec z.length ps.toList
      obtain ⟨l', g1, g2, g3⟩ := fill_run (fun i => some (i * z.length, z.length)) ps.toList _ (repL z n) (repL z n) l e1 e2 hv (VR.plains (repL_plain h5 n)) hl
      have ho : ∀ v ∈ l, v.oneCell' = true := fun v hv => by rw [← oneV_eq]; exact List.all_eq_true.1 hb v hv
      have ha := H.allocCells g2 ho [] e z.length
      simp only [List.append_nil] at ha
      have hlen : l'.length = n * z.length := by rw [← g2.1, g3, repL_length]
      refine Sim.valw (v' := .slice (some ⟨w.heap.size, 0, none⟩) n n) (w' := w.alloc (.cells l'.toArray e)) ?_ (VR.newS (Nat.le_refl n) (by omega)) ha.1 ha.2 (by simp [AHeap.new])
      have hu : u.cells = z.toArray := Array.ext' (by rw [cells_toList, h3])
      have hps : (ps.map fun (i, x) => (i, ρ' x)).toList = ps.toList.map fun p => (p.1, ρ' p.2) := by simp
      have hn' : ¬ (n * z.length > 2 ^ 24) := by omega
      by_cases h0 : n * z.length = 0
      · have hr0 : (Array.range (n * z.length)).map (fun i => (#[] : Array Value)[i % (#[] : Array Value).size]!) = (repL z n).toArray := by
          rw [h0]; apply Array.ext'
          have : repL z n = [] := List.eq_nil_of_length_eq_zero (by rw [repL_length]; exact h0)
          simp [this]
        rw [h0] at hr0 hn'
        simp only [Instr.buildSlice, Sem.run_bind, run_underlying ht, Result.andThen_ok, sizeT_run h2, h0, hn', if_false, if_true, Sem.run_pure, hr0, hps, g1, newRow, run_newObj]
        rfl
      · simp only [Instr.buildSlice, Sem.run_bind, run_underlying ht, Result.andThen_ok, sizeT_run h2, h0, hn', if_false, zeroT_run h1, Sem.run_pure, hu, zeros_eq, hps, g1, newRow, run_newObj]
        rfl
  · cases hr

/-! ### maps -/
theorem sim_mkMap (H : HR W μ h w) {t : TypeId} {v : Value} {h' : AHeap} (hr : rop W ρ h .mkMap = some (v, h')) :
    Sim P W μ h w (do pure (.value (← Instr.makeMap t none))) v h' := by
  simp only [rop] at hr
  cases hr
  have ha := H.alloc (.map #[] 0) ⟨w.heap.size, 0, 0, 0⟩ (.map []) rfl ⟨H.below.size, #[], 0, heap_alloc_new w _, rfl, fun k x hx => by simp at hx⟩
  refine Sim.valw (v' := .map (some w.heap.size)) (w' := w.alloc (.map #[] 0)) ?_ (VR.map (p := ⟨w.heap.size, 0, 0, 0⟩) (PMap.upd_self μ _ _)) ha.1 ha.2 (by simp [AHeap.new])
  simp [Instr.makeMap]

theorem sameBits_sc {k : SK} {a b : Value} (h : scEq k a b = some true) (n : Nat) : Instr.sameBits n b a = true := by
  unfold scEq at h
  split at h
  · rename_i q x q' y
    cases hq : decide (q = q') with
    | false => simp [hq] at h
    | true =>
      simp [hq] at h
      have : q = q' := by simpa using hq
      subst this; subst h
      simp [Instr.sameBits]
  · simp at h; subst h; simp [Instr.sameBits]
  · rename_i x y
    simp at h
    have : x = y := by cases x; cases y; congr 1
    subst this
    simp only [Instr.sameBits]
    rw [beq_toListBytes]; simp
  · cases h

theorem sameBits_scs : ∀ {ks : List SK} {a b : List Value}, scEqs ks a b = some true → ∀ n, a.length = b.length ∧ ((b.zip a).all fun (x, y) => Instr.sameBits n x y) = true
  | [], [], [], _, n => ⟨rfl, rfl⟩
  | k :: ks, x :: xs, y :: ys, h, n => by
    simp only [scEqs] at h
    cases hc : scEq k x y with
    | none => simp [hc] at h
    | some r =>
      cases r with
      | false => simp [hc] at h
      | true =>
        simp only [hc] at h
        obtain ⟨h1, h2⟩ := sameBits_scs h n
        refine ⟨by simp [h1], ?_⟩
        simp only [List.zip_cons_cons, List.all_cons, sameBits_sc hc n, Bool.true_and]
        exact h2
  | [], [], _ :: _, h, _ => by simp [scEqs] at h
  | [], _ :: _, _, h, _ => by simp [scEqs] at h
  | _ :: _, [], _, h, _ => by simp [scEqs] at h
  | _ :: _, _ :: _, [], h, _ => by simp [scEqs] at h

theorem keyStays {e : EqTy} {k old : Value} (hg : goodKey e k = true) (hk : keq e k old = some true) (w : World) : (Instr.keyThatStays old k).run P w = .ok k w := by
  have : Instr.sameBits 10000 old k = true := by
    unfold goodKey at hg
    split at hg
    · exact sameBits_sc hk 10000
    · rename_i ks xs
      cases old <;> first | (simp [keq] at hk; done) | skip
      rename_i ys
      simp only [keq] at hk
      obtain ⟨h1, h2⟩ := sameBits_scs hk 9999
      rw [Instr.sameBits]
      simp only [Bool.and_eq_true, beq_iff_eq]
      exact ⟨by simpa using h1.symm, h2⟩
    · cases hg
  simp [Instr.keyThatStays, this]

theorem findK_spec {e : EqTy} {k : Value} : ∀ {es : List (Value × Value)} {i j : Nat} {v : Value}, findK e k es i = some (some (j, v)) → i ≤ j ∧ ∃ k', es[j - i]? = some (k', v) ∧ keq e k k' = some true
  | [], i, j, v, h => by simp [findK] at h
  | (k', u) :: es, i, j, v, h => by
    simp only [findK] at h
    cases hc : keq e k k' with
    | none => simp [hc] at h
    | some b =>
      cases b with
      | true => simp [hc] at h; obtain ⟨rfl, rfl⟩ := h; exact ⟨Nat.le_refl _, k', by simp, hc⟩
      | false =>
        simp only [hc] at h
        obtain ⟨h1, k'', h2, h3⟩ := findK_spec h
        refine ⟨by omega, k'', ?_, h3⟩
        rw [show j - i = (j - (i + 1)) + 1 by omega]
        simpa using h2

theorem sim_mapUpd (H : HR W μ h w) {t kt el : TypeId} {e : EqTy} (ht : P.underlying t = some (.map kt el)) (hk : keyTyOf P kt = some e)
    {m k u : Operand} {v : Value} {h' : AHeap} (hm : VR μ (ρ m) (ρ' m)) (hkv : VR μ (ρ k) (ρ' k)) (hu : VR μ (ρ u) (ρ' u)) (hr : rop W ρ h (.mapUpd e m k u) = some (v, h')) :
    Sim P W μ h w (do Instr.mapUpdate t (ρ' m) (ρ' k) (ρ' u); pure .skip) v h' := by
  simp only [rop] at hr
  obtain ⟨h'', hr', he⟩ := some_map hr
  cases he
  unfold mapUpdH at hr'
  cases hg : goodKey e (ρ k) with
  | false => simp [hg] at hr'
  | true =>
    simp only [hg, cond_true] at hr'
    have hke := goodKey_eq hg hkv
    split at hr'
    · rename_i i heq
      rw [heq] at hm
      obtain ⟨p, hp, hm'⟩ := hm.map_inv
      split at hr'
      · rename_i es hes
        obtain ⟨hN, ents, clock, h4, h5, h6⟩ := H.rep _ _ _ hp hes
        have hers : ERs μ es ents.toList := ⟨h5, h6⟩
        have hget : (getObj p.blk).run P w = .ok (.map ents clock) w := by simp [getObj, Sem.run, h4]
        have h1 := checkKey_run (P := P) hk hg false w
        have hset : ∀ o, (setObj p.blk (.map o clock)).run P w = .ok () { w with heap := w.heap.setIfInBounds p.blk (.map o clock) } := by intro o; simp [setObj, Sem.run, h4]
        have hset' : ∀ o c, (setObj p.blk (.map o c)).run P w = .ok () { w with heap := w.heap.setIfInBounds p.blk (.map o c) } := by intro o c; simp [setObj, Sem.run, h4]
        have hlt : p.blk < w.heap.size := by
          rcases Nat.lt_or_ge p.blk w.heap.size with h' | h'
          · exact h'
          · simp [Array.getElem?_eq_none h'] at h4
        have hw : ∀ o c (es' : List (Value × Value)), ERs μ es' o.toList → HR W μ (h.put i (.map es')) { w with heap := w.heap.setIfInBounds p.blk (.map o c) } := by
          intro o c es' her
          refine H.write i p (.map es) _ hp hes rfl rfl ?_ ?_ ?_
          · refine H.below.trans ⟨rfl, rfl, rfl, by simp, fun k hk => ?_⟩
            show (w.heap.setIfInBounds p.blk _)[k]? = _
            rw [Array.getElem?_setIfInBounds_ne (by omega)]
          · intro k hk
            show (w.heap.setIfInBounds p.blk _)[k]? = _
            rw [Array.getElem?_setIfInBounds_ne (Ne.symm hk)]
          · refine ⟨hN, o, c, ?_, her.1, her.2⟩
            show (w.heap.setIfInBounds p.blk _)[p.blk]? = _
            simp [hlt]
        split at hr'
        · rename_i j x hf
          cases hr'
          obtain ⟨r', h2, h3⟩ := findKey_run (P := P) (μ := μ) hk hg hers hf w
          obtain ⟨v', rfl, hv⟩ := h3
          obtain ⟨_, k', h7, h8⟩ := findK_spec hf
          simp only [Nat.sub_zero] at h7
          obtain ⟨y, h9, h10, h11⟩ := hers.2 _ _ h7
          have hyk : ((ents[j]?).map (·.key)).getD (ρ k) = k' := by
            simp only [Array.getElem?_toList] at h9
            simp [h9, h10]
          have hst := keyStays (P := P) hg h8 w
          refine Sim.unit (w' := { w with heap := w.heap.setIfInBounds p.blk (.map (ents.modify j fun en => { en with key := ρ k, val := ρ' u }) clock) }) ?_ (hw _ _ _ ?_) rfl
          · rw [hm', hke]
            simp only [Instr.mapUpdate, Sem.run_bind, run_underlying ht, hget, Result.andThen_ok, h1, h2, hyk, hst, hset]
          · refine ⟨by simp [h5], ?_⟩
            intro q x hx
            rw [List.getElem?_set] at hx
            by_cases hq : j = q
            · subst hq
              have hjl : j < es.length := by
                rcases Nat.lt_or_ge j es.length with h' | h'
                · exact h'
                · rw [List.getElem?_eq_none h'] at h7; cases h7
              simp [hjl] at hx
              subst hx
              refine ⟨{ y with key := ρ k, val := ρ' u }, ?_, rfl, hu⟩
              simp only [Array.getElem?_toList] at h9
              simp [Array.getElem?_modify, h9]
            · simp [hq] at hx
              obtain ⟨z, h12, h13, h14⟩ := hers.2 _ _ hx
              refine ⟨z, ?_, h13, h14⟩
              simp only [Array.getElem?_toList] at h12
              simp [Array.getElem?_modify, hq, h12]
        · rename_i hf
          cases hr'
          obtain ⟨r', h2, h3⟩ := findKey_run (P := P) (μ := μ) hk hg hers hf w
          have h3 : r' = none := h3
          subst h3
          refine Sim.unit (w' := { w with heap := w.heap.setIfInBounds p.blk (.map (ents.push { key := ρ k, val := ρ' u, born := clock }) (clock + 1)) }) ?_ (hw _ _ _ ?_) rfl
          · rw [hm', hke]
            simp only [Instr.mapUpdate, Sem.run_bind, run_underlying ht, hget, Result.andThen_ok, h1, h2, hset']
          · refine ⟨by simp [← h5], ?_⟩
            intro q x hx
            have hes5 : ents.size = es.length := by rw [← h5]; simp
            rw [List.getElem?_append] at hx
            by_cases hq : q < es.length
            · rw [if_pos hq] at hx
              obtain ⟨z, h12, h13, h14⟩ := hers.2 _ _ hx
              refine ⟨z, ?_, h13, h14⟩
              simp only [Array.getElem?_toList] at h12 ⊢
              rw [Array.getElem?_push, if_neg (by omega)]; exact h12
            · rw [if_neg hq] at hx
              have hq0 : q - es.length = 0 := by
                rcases Nat.eq_zero_or_pos (q - es.length) with h0 | h0
                · exact h0
                · rw [List.getElem?_eq_none (by simp; omega)] at hx; cases hx
              rw [hq0] at hx
              simp at hx; subst hx
              refine ⟨{ key := ρ k, val := ρ' u, born := clock }, ?_, rfl, hu⟩
              simp only [Array.getElem?_toList]
              rw [Array.getElem?_push, if_pos (by omega)]
        · cases hr'
      · cases hr'
    · cases hr'

end
end Go.Mach
