/- The abstract machine, part 6: conversions, slicing, look-ups and the other operations that only read. No condition.
Merged from 1 texts. -/
import Derived.Test.YtlipmjpapkfaeaaGreatDoorZD2
section
set_option linter.unusedSimpArgs false
set_option linter.unusedVariables false
namespace Go.Mach
open Go Go.RowKit
section
variable {P : Program} {W : World} {μ : PMap} {h : AHeap} {w : World} {ρ ρ' : Operand → Value}
theorem slBounds_run {lo hi : Option Operand} (hlo : ∀ x, lo = some x → VR μ (ρ x) (ρ' x)) (hhi : ∀ x, hi = some x → VR μ (ρ x) (ρ' x)) {n top cap l u : Nat} (htop : top ≤ cap)
    (hb : slBounds (lo.map ρ) (hi.map ρ) n top = some (l, u)) (isS : Bool) :
    (Instr.sliceBounds isS n cap (lo.map ρ') (hi.map ρ') none).run P w = .ok (l, u, cap) w ∧ l ≤ u ∧ (u ≤ top ∨ u = n) := by
  unfold slBounds at hb
  have hint : ∀ {x : Operand} {k : IntKind} {i : Int}, VR μ (ρ x) (ρ' x) → ρ x = .int k i → ρ' x = .int k i := fun h e => by rw [e] at h; exact h.int
  cases hi with
  | none =>
    simp only [Option.map_none] at hb ⊢
    cases lo with
    | none =>
      simp at hb
      obtain ⟨rfl, rfl⟩ := hb
      exact ⟨by simp [Instr.sliceBounds], by omega, .inr rfl⟩
    | some x =>
      simp only [Option.map_some] at hb ⊢
      split at hb
      · simp_all
      · rename_i k i heq
        have heq' : ρ x = .int k i := Option.some.inj heq
        rw [hint (hlo x rfl) heq']
        cases hc : (decide (0 ≤ i) && decide (i ≤ (n : Int))) with
        | false => simp [hc] at hb
        | true =>
          simp [hc] at hb
          obtain ⟨rfl, rfl⟩ := hb
          simp only [Bool.and_eq_true, decide_eq_true_eq] at hc
          exact ⟨by simp [Instr.sliceBounds, run_sliceBound, hc.1, hc.2], by omega, .inr rfl⟩
      · cases hb
  | some y =>
    simp only [Option.map_some] at hb ⊢
    split at hb
    · simp_all
    · rename_i k i heq
      have heq' : ρ y = .int k i := Option.some.inj heq
      rw [hint (hhi y rfl) heq']
      cases hc : (decide (0 ≤ i) && decide (i ≤ (top : Int))) with
      | false => simp [hc] at hb
      | true =>
        simp only [hc, cond_true] at hb
        simp only [Bool.and_eq_true, decide_eq_true_eq] at hc
        have hc2 : i ≤ (cap : Int) := by omega
        cases lo with
        | none =>
          simp at hb
          obtain ⟨rfl, rfl⟩ := hb
          exact ⟨by simp [Instr.sliceBounds, run_sliceBound, hc.1, hc2], by omega, .inl (by omega)⟩
        | some x =>
          simp only [Option.map_some] at hb ⊢
          split at hb
          · simp_all
          · rename_i k' i' heq2
            have heq2' : ρ x = .int k' i' := Option.some.inj heq2
            rw [hint (hlo x rfl) heq2']
            cases hd : (decide (0 ≤ i') && decide (i' ≤ i)) with
            | false => simp [hd] at hb
            | true =>
              simp [hd] at hb
              obtain ⟨rfl, rfl⟩ := hb
              simp only [Bool.and_eq_true, decide_eq_true_eq] at hd
              have e : ((i.toNat : Nat) : Int) = i := Int.toNat_of_nonneg hc.1
              refine ⟨?_, by omega, .inl (by omega)⟩
              simp [Instr.sliceBounds, run_sliceBound, hc.1, hc2, hd.1, e, hd.2]
          · cases hb
    · cases hb
theorem sim_slcStr (H : HR W μ h w) {t : TypeId} (ht : P.underlying t = some .string) {x : Operand} {lo hi : Option Operand} {v : Value} (hx : VR μ (ρ x) (ρ' x))
    (hlo : ∀ x, lo = some x → VR μ (ρ x) (ρ' x)) (hhi : ∀ x, hi = some x → VR μ (ρ x) (ρ' x)) (hr : slcStrV (ρ x) (lo.map ρ) (hi.map ρ) = some v) :
    Sim P W μ h w (do pure (.value (← Instr.sliceAt t (ρ' x) (lo.map ρ') (hi.map ρ') none))) v h := by
  unfold slcStrV at hr
  split at hr
  · rename_i s heq
    rw [heq] at hx
    split at hr
    · rename_i l u hb
      cases hr
      obtain ⟨hrun, _, _⟩ := slBounds_run (P := P) (w := w) hlo hhi (Nat.le_refl _) hb false
      refine Sim.val H (v' := .string (s.extract l u)) ?_ (.plain rfl)
      rw [hx.string]
      simp [Instr.sliceAt, run_underlying ht, Instr.slice, hrun]
    · cases hr
  · cases hr
theorem sim_slc (H : HR W μ h w) {t e : TypeId} {esz : Nat} (ht : P.underlying t = some (.slice e)) (hs : sizeT P e = some esz) {x : Operand} {lo hi : Option Operand} {v : Value} (hx : VR μ (ρ x) (ρ' x))
    (hlo : ∀ x, lo = some x → VR μ (ρ x) (ρ' x)) (hhi : ∀ x, hi = some x → VR μ (ρ x) (ρ' x)) (hr : slcV esz (ρ x) (lo.map ρ) (hi.map ρ) = some v) :
    Sim P W μ h w (do pure (.value (← Instr.sliceAt t (ρ' x) (lo.map ρ') (hi.map ρ') none))) v h := by
  have hslice : ∀ (a : Option Addr) (n c l u : Nat), (Instr.sliceBounds true n c (lo.map ρ') (hi.map ρ') none).run P w = .ok (l, u, c) w →
      (Instr.sliceAt t (.slice a n c) (lo.map ρ') (hi.map ρ') none).run P w = .ok (.slice (if c = l then a else a.map (·.add (l * esz))) (u - l) (c - l)) w := by
    intro a n c l u hb
    simp [Instr.sliceAt, run_underlying ht, Instr.slice, hb, sizeT_run hs]
  unfold slcV at hr
  split at hr
  · rename_i heq
    rw [heq] at hx
    split at hr
    · rename_i lu hb
      obtain ⟨l, u⟩ := lu
      cases hr
      obtain ⟨hrun, hlu, hu⟩ := slBounds_run (P := P) (w := w) hlo hhi (Nat.le_refl 0) hb true
      have hu0 : u = 0 := by omega
      have hl0 : l = 0 := by omega
      subst hu0; subst hl0
      refine Sim.val H (v' := .slice none 0 0) ?_ (.plain rfl)
      rw [hx.plain_inv rfl]
      have := hslice none 0 0 0 0 hrun
      simpa using this
    · cases hr
  · rename_i a n c heq
    rw [heq] at hx
    split at hr
    · rename_i hsp
      split at hr
      · rename_i l u hb
        cases hr
        obtain ⟨hrun, hlu, hu⟩ := slBounds_run (P := P) (w := w) hlo hhi (Nat.le_refl c) hb true
        rw [hx.plain_inv (by simp [plainV, hsp])]
        have h1 := hslice (some a) n c l u hrun
        refine Sim.val H h1 ?_
        rw [Tr.nbeq]
        by_cases hcl : c = l
        · simp only [hcl, decide_true, cond_true, if_true]
          exact .plain (by simp [plainV, hsp])
        · simp only [hcl, decide_false, cond_false, if_false, Option.map_some]
          rw [aadd_base hsp]
          exact .plain (by simp [plainV, aadd, hsp])
      · cases hr
    · rename_i hsp
      cases hce : Nat.beq c esz with
      | false => simp [hce] at hr
      | true =>
        simp only [hce, cond_true] at hr
        split at hr
        · rename_i l u hb
          cases hr
          rcases hx.slice_inv with ⟨hs0, _⟩ | ⟨hs0, p, o', c', hp, hc, hnc, hfit, ho, hx'⟩ | ⟨hs0, _⟩
          rotate_left 2
          · rw [hsp] at hs0; cases hs0
          · rw [hsp] at hs0; cases hs0
          · obtain ⟨hrun, hlu, hu⟩ := slBounds_run (P := P) (w := w) hlo hhi hnc hb true
            have hun : u ≤ n := by rcases hu with hu | hu <;> omega
            have hee : c = esz := by simpa [Tr.nbeq] using hce
            subst hee
            rw [hx']
            have h1 := hslice (some ⟨p.blk, o', none⟩) n c' l u hrun
            refine Sim.val H h1 ?_
            obtain ⟨ab, ao, asp⟩ := a
            simp only at hs0 ho hp
            subst hs0
            subst hc
            by_cases hcl : c' = l
            · simp only [hcl, if_true, aadd]
              have h0 : u - l = 0 := by omega
              have h00 : l - l = 0 := by omega
              rw [h0, h00]
              refine VR.slice hp (by omega) ?_ (by omega)
              rw [Nat.zero_mul]; have := Nat.le_trans (Nat.le_add_right o' (c' * p.esz)) hfit; omega
            · simp only [hcl, if_false, Option.map_some, aadd]
              have hadd : (⟨p.blk, o', none⟩ : Addr).add (l * p.esz) = ⟨p.blk, o' + l * p.esz, none⟩ := by unfold Addr.add; split <;> simp_all
              rw [hadd]
              refine VR.slice hp (by omega) ?_ ?_
              · have : l * p.esz + (c' - l) * p.esz = c' * p.esz := by rw [← Nat.add_mul]; congr 1; omega
                omega
              · intro hne
                have := ho (by omega)
                omega
        · cases hr
    · cases hr
  · cases hr
theorem bytesOfL_spec : ∀ {l : List Value} {bs : List UInt8}, bytesOfL l = some bs → ∃ ns : List Int, l = ns.map (Value.int .u8) ∧ bs = ns.map fun n => UInt8.ofNat n.toNat
  | [], bs, hb => by simp [bytesOfL] at hb; subst hb; exact ⟨[], rfl, rfl⟩
  | v :: l, bs, hb => by
    unfold bytesOfL at hb
    split at hb
    · rename_i heq; cases heq
    · rename_i n l' heq
      cases heq
      split at hb
      · rename_i bs' h1
        cases hb
        obtain ⟨ns, h2, h3⟩ := bytesOfL_spec h1
        exact ⟨n :: ns, by simp [h2], by simp [h3]⟩
      · cases hb
    · cases hb
theorem foldl_push (ns : List Int) : ∀ (s : ByteArray), ns.foldl (fun r n => r.push (UInt8.ofNat n.toNat)) s = ⟨(s.data.toList ++ ns.map fun n => UInt8.ofNat n.toNat).toArray⟩ := by
  induction ns with
  | nil => intro s; cases s; simp
  | cons n ns ih =>
    intro s
    rw [List.foldl_cons, ih]
    cases s
    simp [ByteArray.push]
theorem VRs.plain_eq : ∀ {xs ys : List Value}, VRs μ xs ys → xs.all plainV = true → ys = xs
  | [], ys, hv, _ => List.eq_nil_of_length_eq_zero (by have := hv.1; simpa using this.symm)
  | x :: xs, ys, hv, hp => by
    cases ys with
    | nil => have := hv.1; simp at this
    | cons y ys =>
      simp only [List.all_cons, Bool.and_eq_true] at hp
      obtain ⟨u, hu, hr⟩ := hv.2 0 x rfl
      simp at hu; subst hu
      have tl : VRs μ xs ys := ⟨by have := hv.1; simpa using this, fun i v hv' => by have := hv.2 (i + 1) v (by simpa using hv'); simpa using this⟩
      rw [hr.plain_inv hp.1, VRs.plain_eq tl hp.2]
theorem sim_bytesStr (H : HR W μ h w) {s d e : TypeId} (hs : P.underlying s = some (.slice e)) (hd : P.underlying d = some .string) (he : P.underlying e = some (.int .u8)) {x : Operand} {v : Value}
    (hx : VR μ (ρ x) (ρ' x)) {h' : AHeap} (hr : rop W ρ h (.bytesStr x) = some (v, h')) : Sim P W μ h w (do pure (.value (← convert s d (ρ' x)))) v h' := by
  simp only [rop] at hr
  split at hr
  · rename_i heq
    rw [heq] at hx; cases hr
    refine Sim.val H (v' := .string ⟨#[]⟩) ?_ (.plain rfl)
    rw [hx.plain_inv rfl, run_convert_bytes_string w s d e none 0 0 hs he hd]
    rfl
  · rename_i a n c heq
    rw [heq] at hx
    cases hc : (a.spot.isNone || Nat.beq c 1) with
    | false => simp [hc] at hr
    | true =>
      simp only [hc, cond_true] at hr
      split at hr
      · rename_i bs hb
        cases hr
        cases hl : aloadN W h a n with
        | none => simp [hl] at hb
        | some l =>
          simp [hl] at hb
          obtain ⟨ns, h1, h2⟩ := bytesOfL_spec hb
          have hpl : l.all plainV = true := by rw [h1, List.all_eq_true]; intro v hv; obtain ⟨n, _, rfl⟩ := List.mem_map.1 hv; rfl
          have key : ∀ (a' : Addr) (c' : Nat), AR μ a a' → (loadCells a' n).run P w = .ok (ns.map (Value.int .u8)).toArray w := by
            intro a' c' ha
            obtain ⟨l', hrs, hlen, _, hcs⟩ := aloadN_sim H n ha hl
            have : l' = l := hrs.plain_eq hpl
            subst this
            have := run_loadCells_list (P := P) w a' l' hcs
            rw [hlen] at this
            rw [this, h1]
          have fin : ∀ (a' : Addr) (c' : Nat), AR μ a a' → (convert s d (.slice (some a') n c')).run P w = .ok (.string ⟨bs.toArray⟩) w := by
            intro a' c' ha
            rw [run_convert_bytes_string w s d e _ _ _ hs he hd, run_bytesToString w a' n c' ns (key a' c' ha), foldl_push, h2]
            simp
          refine Sim.val H (v' := .string ⟨bs.toArray⟩) ?_ (.plain rfl)
          rcases hx.slice_inv with ⟨hs0, hx'⟩ | ⟨hs0, p, o', c', hp, hcc, hnc, hfit, ho, hx'⟩ | ⟨hs0, hn1, hc1, _⟩
          rotate_left 2
          · exfalso; subst hc1; simp_all
          · rw [hx']; exact fin _ _ (.inl ⟨hs0, rfl⟩)
          · rw [hx']
            by_cases hn : n = 0
            · subst hn
              simp [aloadN] at hl
              subst hl
              have : ns = [] := by cases ns with | nil => rfl | cons _ _ => simp at h1
              subst this
              rw [run_convert_bytes_string w s d e _ _ _ hs he hd, run_bytesToString w _ 0 c' [] (by simp [loadCells, loadCellsFrom]), foldl_push, h2]
              simp
            · have := ho hn; subst this
              exact fin _ _ (.inr ⟨hs0, p, hp, rfl⟩)
      · cases hr
  · cases hr
theorem sim_conv (H : HR W μ h w) {s d : TypeId} {q k : IntKind} (hs : P.underlying s = some (.int q)) (hd : P.underlying d = some (.int k)) {x : Operand} {v : Value}
    (hx : VR μ (ρ x) (ρ' x)) {h' : AHeap} (hr : rop W ρ h (.conv k x) = some (v, h')) : Sim P W μ h w (do pure (.value (← convert s d (ρ' x)))) v h' := by
  simp only [rop] at hr
  split at hr
  · rename_i r n heq
    rw [heq] at hx; cases hr
    refine Sim.val H (v' := .int k (k.wrap n)) ?_ (.plain rfl)
    rw [hx.int]
    simp [convert, run_underlying hs, run_underlying hd, Conv.intToInt]
  · cases hr
theorem sim_encRune (H : HR W μ h w) {s d : TypeId} {q : IntKind} (hs : P.underlying s = some (.int q)) (hd : P.underlying d = some .string) {x : Operand} {v : Value}
    (hx : VR μ (ρ x) (ρ' x)) {h' : AHeap} (hr : rop W ρ h (.encRune x) = some (v, h')) : Sim P W μ h w (do pure (.value (← convert s d (ρ' x)))) v h' := by
  simp only [rop] at hr
  split at hr
  · rename_i r n heq
    rw [heq] at hx; cases hr
    refine Sim.val H (v' := .string (Utf8.encode n)) ?_ (.plain rfl)
    rw [hx.int]
    simp [convert, run_underlying hs, run_underlying hd, Conv.intToString]
  · cases hr
theorem sim_toStr (H : HR W μ h w) {s d : TypeId} (hs : P.underlying s = some .string) (hd : P.underlying d = some .string) {x : Operand} {v : Value}
    (hx : VR μ (ρ x) (ρ' x)) {h' : AHeap} (hr : rop W ρ h (.toStr x) = some (v, h')) : Sim P W μ h w (do pure (.value (← convert s d (ρ' x)))) v h' := by
  simp only [rop] at hr
  split at hr
  · rename_i r heq
    rw [heq] at hx; cases hr
    refine Sim.val H (v' := .string r) ?_ (.plain rfl)
    rw [hx.string]
    simp [convert, run_underlying hs, run_underlying hd]
  · cases hr
theorem goodSc_plain {k : SK} {v : Value} (h : goodSc k v = true) : plainV v = true := by
  unfold goodSc at h; split at h <;> first | rfl | cases h
theorem goodScs_plain : ∀ {ks : List SK} {l : List Value}, goodScs ks l = true → l.all plainV = true
  | [], [], _ => rfl
  | k :: ks, x :: xs, h => by
    simp only [goodScs, Bool.and_eq_true] at h
    simp [goodSc_plain h.1, goodScs_plain h.2]
  | [], _ :: _, h => by simp [goodScs] at h
  | _ :: _, [], h => by simp [goodScs] at h
theorem goodKey_eq {e : EqTy} {k k' : Value} (hg : goodKey e k = true) (hk : VR μ k k') : k' = k := by
  unfold goodKey at hg
  split at hg
  · exact hk.plain_inv (goodSc_plain hg)
  · rename_i ks xs
    obtain ⟨ys, rfl, hrs⟩ := hk.agg_inv
    have := hrs.plain_eq (goodScs_plain hg)
    congr 1
    exact Array.ext' this
  · cases hg
theorem keyTyOf_eq {t : TypeId} {e : EqTy} (h : keyTyOf P t = some e) : eqTyOf P t = some e := by
  unfold keyTyOf at h
  split at h <;> first | (rename_i h1; cases h; exact h1) | cases h
theorem checkKey_sc {t : TypeId} {k : SK} (ht : scT P t = some k) {v : Value} (hp : plainV v = true) (em : Bool) (n : Nat) (w : World) : (Instr.checkKey em (n + 1) t v).run P w = .ok () w := by
  obtain ⟨u, hu, hk⟩ := scT_spec ht
  rcases hk with ⟨_, rfl⟩ | ⟨_, r, rfl⟩ | ⟨_, rfl⟩ <;> (unfold Instr.checkKey; simp [run_underlying hu])
theorem checkKey_run {t : TypeId} {e : EqTy} (ht : keyTyOf P t = some e) {k : Value} (hg : goodKey e k = true) (em : Bool) (w : World) : (Instr.checkKey em 10000 t k).run P w = .ok () w := by
  have hte := keyTyOf_eq ht
  unfold goodKey at hg
  split at hg
  · exact checkKey_sc (eqTyOf_sc hte) (goodSc_plain hg) em 9999 w
  · rename_i ks xs
    obtain ⟨_, hs⟩ := eqTyOf_agg hte
    rcases hs with ⟨fs, hu, _, hf⟩ | ⟨n, el, k, hu, hsz, hk, rfl⟩
    · unfold Instr.checkKey
      simp only [Sem.run_bind, run_underlying hu, Result.andThen_ok]
      rw [← Array.forIn_toList]
      have key : ∀ (l : List Field) (n : Nat) (ks : List SK), scFields P n l = some ks → goodScs ks (xs.toList.drop n) = true →
          (forIn l PUnit.unit fun f (_ : PUnit) => (if f.name ≠ "_" then do Instr.checkKey em 9999 f.type (← part f.type xs f.offset); pure (ForInStep.yield PUnit.unit) else pure (ForInStep.yield PUnit.unit) : Sem (ForInStep PUnit))).run P w = .ok PUnit.unit w := by
        intro l
        induction l with
        | nil => intro n ks _ _; simp
        | cons f l ih =>
          intro n ks hk hg
          unfold scFields at hk
          split at hk
          · rename_i hc
            simp only [Bool.and_eq_true, bne_iff_ne, ne_eq, beq_iff_eq] at hc
            cases h1 : scT P f.type with
            | none => simp [h1] at hk
            | some q =>
              cases h2 : scFields P (n + 1) l with
              | none => simp [h1, h2] at hk
              | some ks' =>
                simp [h1, h2] at hk; subst hk
                cases h3 : xs.toList.drop n with
                | nil => rw [h3] at hg; simp [goodScs] at hg
                | cons x m =>
                  rw [h3] at hg
                  simp only [goodScs, Bool.and_eq_true] at hg
                  have hx : xs.toList[n]? = some x := by
                    have := List.getElem?_drop (xs := xs.toList) (i := n) (j := 0)
                    rw [h3] at this; simpa using this.symm
                  have hl : xs.toList.drop (n + 1) = m := by rw [← List.drop_drop, h3]; rfl
                  have px := run_part1 (P := P) (scT_agg h1) (hc.2 ▸ hx) w
                  have := ih (n + 1) ks' h2 (by rw [hl]; exact hg.2)
                  simp only [List.forIn_cons, hc.1, not_false_eq_true, if_true, Sem.run_bind, px, Result.andThen_ok, checkKey_sc h1 (goodSc_plain hg.1) em 9998 w, Sem.run_pure, ne_eq]
                  simpa using this
          · cases hk
      have := key fs.toList 0 ks hf (by simpa using hg)
      simp at this ⊢
      rw [this]; rfl
    · unfold Instr.checkKey
      have hsz' : sizeT P el = some 1 := hsz
      simp only [Sem.run_bind, run_underlying hu, Result.andThen_ok, Std.Legacy.Range.forIn_eq_forIn_range', Std.Legacy.Range.size, Nat.sub_zero, Nat.add_sub_cancel, Nat.div_one]
      have key : ∀ (m n : Nat), goodScs (List.replicate m k) (xs.toList.drop n) = true →
          (forIn (List.range' n m) PUnit.unit fun i (_ : PUnit) => (do Instr.checkKey em 9999 el (← part el xs (i * (← sizeOf el))); pure (ForInStep.yield PUnit.unit) : Sem (ForInStep PUnit))).run P w = .ok PUnit.unit w := by
        intro m
        induction m with
        | zero => intro n _; simp
        | succ m ih =>
          intro n hg
          simp only [List.replicate_succ] at hg
          cases h3 : xs.toList.drop n with
          | nil => rw [h3] at hg; simp [goodScs] at hg
          | cons x l =>
            rw [h3] at hg
            simp only [goodScs, Bool.and_eq_true] at hg
            have hx : xs.toList[n]? = some x := by
              have := List.getElem?_drop (xs := xs.toList) (i := n) (j := 0)
              rw [h3] at this; simpa using this.symm
            have hl : xs.toList.drop (n + 1) = l := by rw [← List.drop_drop, h3]; rfl
            have px := run_part1 (P := P) (scT_agg hk) hx w
            have := ih (n + 1) (by rw [hl]; exact hg.2)
            simp only [List.range'_succ, List.forIn_cons, Sem.run_bind, sizeT_run hsz', Nat.mul_one, px, Result.andThen_ok, checkKey_sc hk (goodSc_plain hg.1) em 9998 w, Sem.run_pure]
            simpa [sizeT_run hsz'] using this
      have := key n 0 (by simpa using hg)
      simp at this ⊢
      rw [this]; rfl
  · cases hg
def ERs (μ : PMap) (es : List (Value × Value)) (ents : List MapEntry) : Prop :=
  ents.length = es.length ∧ ∀ k : Nat, ∀ x, es[k]? = some x → ∃ y, ents[k]? = some y ∧ y.key = x.1 ∧ VR μ x.2 y.val
theorem ERs.tail {x : Value × Value} {y : MapEntry} {es : List (Value × Value)} {ents : List MapEntry} (h : ERs μ (x :: es) (y :: ents)) : y.key = x.1 ∧ VR μ x.2 y.val ∧ ERs μ es ents := by
  refine ⟨?_, ?_, ?_, ?_⟩
  · obtain ⟨z, hz, h1, h2⟩ := h.2 0 x rfl; simp at hz; subst hz; exact h1
  · obtain ⟨z, hz, h1, h2⟩ := h.2 0 x rfl; simp at hz; subst hz; exact h2
  · have := h.1; simpa using this
  · intro k u hu; have := h.2 (k + 1) u (by simpa using hu); simpa using this
def FR (μ : PMap) : Option (Nat × Value) → Option (Nat × Value) → Prop
  | none, r' => r' = none
  | some (j, v), r' => ∃ v', r' = some (j, v') ∧ VR μ v v'
theorem findNow_run {t : TypeId} {k : SK} (ht : scT P t = some k) {u : TypeDesc} (hu : P.underlying t = some u) {key : Value} : ∀ (es : List (Value × Value)) (ents : List MapEntry) (i : Nat) (r : Option (Nat × Value)),
    ERs μ es ents → findK (.sc k) key es i = some r →
    ∃ r', Instr.findNow u key ents i = some r' ∧ FR μ r r'
  | [], ents, i, r, he, hf => by
    have : ents = [] := List.eq_nil_of_length_eq_zero (by simpa using he.1)
    subst this
    simp [findK] at hf; subst hf
    exact ⟨none, rfl, rfl⟩
  | (k', v) :: es, ents, i, r, he, hf => by
    cases ents with
    | nil => have := he.1; simp at this
    | cons y ents =>
      obtain ⟨h1, h2, h3⟩ := he.tail
      simp only [findK, keq] at hf
      have hnow : ∀ b, scEq k key k' = some b → Instr.sameNow u key y.key = some b := by
        intro b hb
        rw [h1]
        obtain ⟨u', hu', hk⟩ := scT_spec ht
        rw [hu] at hu'; cases hu'
        unfold scEq at hb
        split at hb
        · rename_i q a q' a'
          cases hq : decide (q = q') with
          | false => simp [hq] at hb
          | true =>
            simp [hq] at hb
            have : q = q' := by simpa using hq
            subst this
            rcases hk with ⟨hk, _⟩ | ⟨_, r, rfl⟩ | ⟨hk, _⟩
            · cases hk
            · simp [Instr.sameNow, hb]
            · cases hk
        · rcases hk with ⟨_, rfl⟩ | ⟨hk, _⟩ | ⟨hk, _⟩
          · simpa [Instr.sameNow] using hb
          · cases hk
          · cases hk
        · rcases hk with ⟨hk, _⟩ | ⟨hk, _⟩ | ⟨_, rfl⟩
          · cases hk
          · cases hk
          · simpa [Instr.sameNow, beq_toListBytes, ByteArray.toList_eq] using hb
        · cases hb
      cases hc : scEq k key k' with
      | none => simp [hc] at hf
      | some b =>
        have hn := hnow b hc
        cases b with
        | true =>
          simp [hc] at hf; subst hf
          exact ⟨some (i, y.val), by simp [Instr.findNow, hn], y.val, rfl, h2⟩
        | false =>
          simp only [hc] at hf
          obtain ⟨r', h4, h5⟩ := findNow_run ht hu es ents (i + 1) r h3 hf
          exact ⟨r', by simp [Instr.findNow, hn, h4], h5⟩
theorem findAsking_run {t : TypeId} {ks : List SK} (ht : eqTyOf P t = some (.agg ks)) {key : Value} (w : World) : ∀ (es : List (Value × Value)) (ents : List MapEntry) (i : Nat) (r : Option (Nat × Value)),
    ERs μ es ents → findK (.agg ks) key es i = some r →
    ∃ r', (Instr.findAsking t key ents i).run P w = .ok r' w ∧ FR μ r r'
  | [], ents, i, r, he, hf => by
    have : ents = [] := List.eq_nil_of_length_eq_zero (by simpa using he.1)
    subst this
    simp [findK] at hf; subst hf
    exact ⟨none, rfl, rfl⟩
  | (k', v) :: es, ents, i, r, he, hf => by
    cases ents with
    | nil => have := he.1; simp at this
    | cons y ents =>
      obtain ⟨h1, h2, h3⟩ := he.tail
      simp only [findK] at hf
      have hnow : ∀ b, keq (.agg ks) key k' = some b → (Op.equal t key y.key).run P w = .ok b w := by
        intro b hb
        rw [h1]
        cases key <;> first | (simp [keq] at hb; done) | skip
        cases k' <;> first | (simp [keq] at hb; done) | skip
        exact run_equal_agg ht hb w
      cases hc : keq (.agg ks) key k' with
      | none => simp [hc] at hf
      | some b =>
        have hn := hnow b hc
        cases b with
        | true =>
          simp [hc] at hf; subst hf
          exact ⟨some (i, y.val), by simp [Instr.findAsking, hn], y.val, rfl, h2⟩
        | false =>
          simp only [hc] at hf
          obtain ⟨r', h4, h5⟩ := findAsking_run ht w es ents (i + 1) r h3 hf
          exact ⟨r', by simp [Instr.findAsking, hn, h4], h5⟩
theorem findKey_run {t : TypeId} {e : EqTy} (ht : keyTyOf P t = some e) {key : Value} (hg : goodKey e key = true) {es : List (Value × Value)} {ents : List MapEntry} (he : ERs μ es ents) {r : Option (Nat × Value)}
    (hf : findK e key es 0 = some r) (w : World) :
    ∃ r', (Instr.findKey t key ents).run P w = .ok r' w ∧ FR μ r r' := by
  have hte := keyTyOf_eq ht
  unfold goodKey at hg
  split at hg
  · rename_i k x
    have hk := eqTyOf_sc hte
    obtain ⟨u, hu, _⟩ := scT_spec hk
    obtain ⟨r', h1, h2⟩ := findNow_run hk hu es ents 0 r he hf
    exact ⟨r', by simp [Instr.findKey, run_underlying hu, h1], h2⟩
  · rename_i ks xs
    obtain ⟨r', h1, h2⟩ := findAsking_run hte w es ents 0 r he hf
    refine ⟨r', ?_, h2⟩
    rw [← h1]
    obtain ⟨_, hs⟩ := eqTyOf_agg hte
    rcases hs with ⟨fs, hu, _, _⟩ | ⟨n, el, k, hu, _, _, _⟩ <;>
      (cases ents with
       | nil => simp [Instr.findKey, run_underlying hu, Instr.findNow, Instr.findAsking]
       | cons y ents => simp [Instr.findKey, run_underlying hu, Instr.findNow, Instr.sameNow])
  · cases hg
theorem sim_lookup (H : HR W μ h w) {t kt el : TypeId} {e : EqTy} {z : Value} (ht : P.underlying t = some (.map kt el)) (hk : keyTyOf P kt = some e) (hz : zeroT P el = some z) (hc : closedV z = true)
    {x k : Operand} {ok : Bool} {v : Value} (hx : VR μ (ρ x) (ρ' x)) (hkv : VR μ (ρ k) (ρ' k)) (hr : lookupV e z h (ρ x) (ρ k) ok = some v) :
    Sim P W μ h w (do pure (.value (← Instr.lookup t (ρ' x) (ρ' k) ok))) v h := by
  unfold lookupV at hr
  cases hg : goodKey e (ρ k) with
  | false => simp [hg] at hr
  | true =>
    simp only [hg, cond_true] at hr
    have hke := goodKey_eq hg hkv
    have zero2 : VR μ z z := VR.closed hc
    have tup : ∀ {a b : Value} (c : Bool), VR μ a b → VR μ (.tuple #[a, .bool c]) (.tuple #[b, .bool c]) := fun c h => (VRs.cons h (VRs.cons (.plain rfl) VRs.nil)).tuple
    split at hr
    · rename_i heq
      rw [heq] at hx
      cases hr
      have hx' := hx.plain_inv rfl
      refine Sim.val H (v' := bif ok then .tuple #[z, .bool false] else z) ?_ ?_
      · rw [hx', hke]
        have h1 := checkKey_run (P := P) hk hg true w
        obtain ⟨r', h2, h3⟩ := findKey_run (P := P) (μ := μ) hk hg (es := []) (ents := []) ⟨rfl, fun k x hx => by simp at hx⟩ (r := none) (by simp [findK]) w
        have h3 : r' = none := h3
        subst h3
        simp [Instr.lookup, run_underlying ht, h1, h2, zeroT_run hz]
        try (cases ok <;> rfl)
      · cases ok with
        | true => exact tup false zero2
        | false => exact zero2
    · rename_i i heq
      rw [heq] at hx
      obtain ⟨p, hp, hx'⟩ := hx.map_inv
      split at hr
      · rename_i es hes
        obtain ⟨_, ents, clock, h4, h5, h6⟩ := H.rep _ _ _ hp hes
        have hers : ERs μ es ents.toList := ⟨h5, h6⟩
        have hget : (getObj p.blk).run P w = .ok (.map ents clock) w := by simp [getObj, Sem.run, h4]
        have h1 : ∀ em, (Instr.checkKey em 10000 kt (ρ k)).run P w = .ok () w := fun em => checkKey_run (P := P) hk hg em w
        split at hr
        · rename_i j u hf
          cases hr
          obtain ⟨r', h2, h3⟩ := findKey_run (P := P) (μ := μ) hk hg hers hf w
          obtain ⟨v', rfl, hv⟩ := h3
          refine Sim.val H (v' := bif ok then .tuple #[v', .bool true] else v') ?_ ?_
          · rw [hx', hke]
            simp [Instr.lookup, run_underlying ht, hget, h1, h2]
            try (cases ok <;> rfl)
          · cases ok with
            | true => exact tup true hv
            | false => exact hv
        · rename_i hf
          cases hr
          obtain ⟨r', h2, h3⟩ := findKey_run (P := P) (μ := μ) hk hg hers hf w
          have h3 : r' = none := h3
          subst h3
          refine Sim.val H (v' := bif ok then .tuple #[z, .bool false] else z) ?_ ?_
          · rw [hx', hke]
            simp [Instr.lookup, run_underlying ht, hget, h1, h2, zeroT_run hz]
            try (cases ok <;> rfl)
          · cases ok with
            | true => exact tup false zero2
            | false => exact zero2
        · cases hr
      · cases hr
    · cases hr
theorem sim_extract (H : HR W μ h w) {x : Operand} {i : Nat} {v : Value} (hx : VR μ (ρ x) (ρ' x)) {h' : AHeap} (hr : rop W ρ h (.extract x i) = some (v, h')) :
    Sim P W μ h w (do pure (.value (← Instr.extract (ρ' x) i))) v h' := by
  simp only [rop] at hr
  split at hr
  · rename_i vs heq
    rw [heq] at hx
    obtain ⟨ys, hx', hrs⟩ := hx.tuple_inv
    split at hr
    · rename_i u hu
      cases hr
      obtain ⟨v', h1, h2⟩ := hrs.2 _ _ hu
      refine Sim.val H (v' := v') ?_ h2
      rw [hx']
      simp only [Array.getElem?_toList] at h1
      simp [Instr.extract, h1]
    · cases hr
  · cases hr
theorem sim_lenSl (H : HR W μ h w) {t ty e : TypeId} (ht : P.underlying t = some (.slice e)) {x : Operand} {v : Value}
    (hx : VR μ (ρ x) (ρ' x)) {h' : AHeap} (hr : rop W ρ h (.lenSl x) = some (v, h')) : Sim P W μ h w (do pure (.value (← Builtin.len_ #[t] ty #[ρ' x]))) v h' := by
  simp only [rop] at hr
  split at hr
  · rename_i a n c heq
    rw [heq] at hx; cases hr
    refine Sim.val H (v' := .int .i64 n) ?_ (.plain rfl)
    have : ∃ a c, ρ' x = .slice a n c := by generalize ρ' x = y at hx ⊢; cases hx <;> exact ⟨_, _, rfl⟩
    obtain ⟨a', c', hx'⟩ := this
    rw [hx']
    simp [Builtin.len_, run_underlying ht, goInt]
  · cases hr
theorem sim_lenStr (H : HR W μ h w) {t ty : TypeId} (ht : P.underlying t = some .string) {x : Operand} {v : Value}
    (hx : VR μ (ρ x) (ρ' x)) {h' : AHeap} (hr : rop W ρ h (.lenStr x) = some (v, h')) : Sim P W μ h w (do pure (.value (← Builtin.len_ #[t] ty #[ρ' x]))) v h' := by
  simp only [rop] at hr
  split at hr
  · rename_i s heq
    rw [heq] at hx; cases hr
    refine Sim.val H (v' := .int .i64 s.size) ?_ (.plain rfl)
    rw [hx.string]
    simp [Builtin.len_, run_underlying ht, goInt]
  · cases hr
theorem sim_lenMap (H : HR W μ h w) {t ty a b : TypeId} (ht : P.underlying t = some (.map a b)) {x : Operand} {v : Value}
    (hx : VR μ (ρ x) (ρ' x)) {h' : AHeap} (hr : rop W ρ h (.lenMap x) = some (v, h')) : Sim P W μ h w (do pure (.value (← Builtin.len_ #[t] ty #[ρ' x]))) v h' := by
  simp only [rop] at hr
  split at hr
  · rename_i heq
    rw [heq] at hx; cases hr
    refine Sim.val H (v' := .int .i64 0) ?_ (.plain rfl)
    rw [hx.plain_inv rfl]
    simp [Builtin.len_, run_underlying ht, goInt]
  · rename_i i heq
    rw [heq] at hx
    obtain ⟨p, hp, hx'⟩ := hx.map_inv
    split at hr
    · rename_i es hes
      cases hr
      obtain ⟨_, ents, clock, h4, h5, h6⟩ := H.rep _ _ _ hp hes
      have hget : (getObj p.blk).run P w = .ok (.map ents clock) w := by simp [getObj, Sem.run, h4]
      refine Sim.val H (v' := .int .i64 es.length) ?_ (.plain rfl)
      rw [hx']
      have : ents.size = es.length := by rw [← h5]; simp
      simp [Builtin.len_, run_underlying ht, hget, goInt, this]
    · cases hr
  · cases hr
theorem sim_min (H : HR W μ h w) {ts : Array TypeId} {ty : TypeId} {x y : Operand} {v : Value} (hx : VR μ (ρ x) (ρ' x)) (hy : VR μ (ρ y) (ρ' y)) {h' : AHeap} (hr : rop W ρ h (.min2 x y) = some (v, h')) :
    Sim P W μ h w (do pure (.value (← Builtin.min_ ts ty #[ρ' x, ρ' y]))) v h' := by
  simp only [rop] at hr
  split at hr
  · rename_i k a k' b h1 h2
    rw [h1] at hx; rw [h2] at hy; cases hr
    refine Sim.val H (v' := _) ?_ (.plain (v := .int k (if b < a then b else a)) rfl)
    rw [hx.int, hy.int]
    simp [Builtin.min_, Builtin.min2]
  · cases hr
theorem sim_max (H : HR W μ h w) {ts : Array TypeId} {ty : TypeId} {x y : Operand} {v : Value} (hx : VR μ (ρ x) (ρ' x)) (hy : VR μ (ρ y) (ρ' y)) {h' : AHeap} (hr : rop W ρ h (.max2 x y) = some (v, h')) :
    Sim P W μ h w (do pure (.value (← Builtin.max_ ts ty #[ρ' x, ρ' y]))) v h' := by
  simp only [rop] at hr
  split at hr
  · rename_i k a k' b h1 h2
    rw [h1] at hx; rw [h2] at hy; cases hr
    refine Sim.val H (v' := _) ?_ (.plain (v := .int k (if b > a then b else a)) rfl)
    rw [hx.int, hy.int]
    simp [Builtin.max_, Builtin.max2]
  · cases hr
theorem sim_mov (H : HR W μ h w) {x : Operand} (hx : VR μ (ρ x) (ρ' x)) : Sim P W μ h w (pure (.value (ρ' x))) (ρ x) h :=
  ⟨.value (ρ' x), ρ' x, w, μ, rfl, .inl rfl, hx, H, Ext.refl _ _, Nat.le_refl _⟩
theorem sim_pick (H : HR W μ h w) {c a b : Operand} (hc : VR μ (ρ c) (ρ' c)) (ha : VR μ (ρ a) (ρ' a)) (hb : VR μ (ρ b) (ρ' b)) {v : Value} {h' : AHeap} (hr : rop W ρ h (.pick c a b) = some (v, h')) :
    Sim P W μ h w (do pure (.value (if ← asBool (ρ' c) then ρ' a else ρ' b))) v h' := by
  simp only [rop] at hr
  split at hr
  · rename_i t heq
    rw [heq] at hc
    cases hr
    have hc' := hc.bool
    refine ⟨.value (if t then ρ' a else ρ' b), _, w, μ, ?_, .inl rfl, ?_, H, Ext.refl _ _, Nat.le_refl _⟩
    · rw [hc']; simp [asBool]
    · cases t
      · simpa using hb
      · simpa using ha
  · cases hr
theorem sim_nilChk (H : HR W μ h w) {x : Operand} (hx : VR μ (ρ x) (ρ' x)) {v : Value} {h' : AHeap} (hr : rop W ρ h (.nilChk x) = some (v, h')) (o : Oper) (ho : o.op = .nilCheck x) :
    Sim P W μ h w (execOp ρ' o) v h' := by
  simp only [rop] at hr
  unfold execOp
  rw [ho]
  split at hr
  · rename_i a heq
    cases hr
    rw [heq] at hx ⊢
    obtain ⟨a', hx', ha⟩ := hx.ptr_AR
    exact ⟨.value (.pointer (some a')), .pointer (some a'), w, μ, by simp [hx'], .inl rfl, ha.ptr, H, Ext.refl _ _, Nat.le_refl _⟩
  · rename_i f fs cap heq
    cases hr
    rw [heq] at hx ⊢
    obtain ⟨hfs, ys, hx', hrs⟩ := hx.func_inv
    subst hfs
    have := hrs.func (fn := .func f)
    exact ⟨.value (ρ' x), ρ' x, w, μ, by simp [hx'], .inl rfl, by rw [hx']; simpa using this, H, Ext.refl _ _, Nat.le_refl _⟩
  · cases hr
theorem VRs.map {l : List Operand} (h : ∀ x ∈ l, VR μ (ρ x) (ρ' x)) : VRs μ (l.map ρ) (l.map ρ') := by
  induction l with
  | nil => exact VRs.nil
  | cons x l ih => exact VRs.cons (h x (by simp)) (ih fun y hy => h y (by simp [hy]))
theorem sim_mkFn (H : HR W μ h w) {fn : Fn} {first cap : Array Operand} (hf : first.toList = []) (hc : ∀ x ∈ cap.toList, VR μ (ρ x) (ρ' x)) :
    Sim P W μ h w (do pure (.value (← Instr.makeFunc fn (first.map ρ') (cap.map ρ')))) (.func fn #[] (cap.toList.map ρ).toArray) h := by
  have hf' : first = #[] := Array.ext' hf
  subst hf'
  refine Sim.val H (v' := .func fn #[] (cap.toList.map ρ').toArray) ?_ (VRs.map hc).func
  simp only [Instr.makeFunc, Sem.run_pure]
  have e1 : Array.map ρ' #[] = #[] := Array.ext' (by simp)
  have e2 : Array.map ρ' cap = (List.map ρ' cap.toList).toArray := Array.ext' (by simp)
  rw [e1, e2]
end
end Go.Mach
end
