/- The abstract machine, part 9: append. No condition. -/
import Derived.Test.YtlipmjpapkfaeaaGreatDoorM8
set_option linter.unusedSimpArgs false
set_option linter.unusedVariables false
namespace Go.Mach
open Go Go.RowKit

section
variable {P : Program} {W : World} {μ : PMap} {h : AHeap} {w : World} {ρ ρ' : Operand → Value}

/-- A new abstract block takes over a real block that no live abstract block lies in. -/
theorem HR.adopt {w' : World} (H : HR W μ h w) (q : Place) (b : ABlk)
    (hfree : ∀ j r c, μ j = some r → h.own.get j = some c → c.live = true → r.blk ≠ q.blk)
    (hbelow : Below W.heap.size W w') (hother : ∀ k, k ≠ q.blk → w'.heap[k]? = w.heap[k]?) (hb : BR W (μ.upd h.next q) q w' b) :
    HR W (μ.upd h.next q) (h.new b) w' ∧ Ext μ h.next (μ.upd h.next q) := by
  have hext := Ext.upd μ h.next q
  have hm := hext.le H.dom
  refine ⟨⟨hbelow, ?_, ?_, ?_, ?_⟩, hext⟩
  · intro i r hr
    by_cases e : i = h.next
    · subst e; simp [AHeap.new]
    · rw [PMap.upd_ne μ q e] at hr
      have := H.dom i r hr
      simp only [AHeap.new]; omega
  · intro i hi
    simp only [AHeap.new] at hi ⊢
    rw [Tr.get_set_ne _ _ _ _ (by omega)]
    exact H.fresh i (by omega)
  · intro i r c hr hc
    simp only [AHeap.new, Tr.get_set] at hc
    by_cases e : i = h.next
    · subst e
      rw [PMap.upd_self] at hr
      simp only [if_true] at hc
      cases hr; cases hc; exact hb
    · rw [PMap.upd_ne μ q e] at hr
      rw [if_neg e] at hc
      exact (H.rep i r c hr hc).mono hm (fun hl => hother _ (hfree i r c hr hc hl))
  · intro i j r s b' c' hr hs hb' hc' hl hl' hqr
    simp only [AHeap.new, Tr.get_set] at hb' hc'
    by_cases e : i = h.next
    · by_cases e' : j = h.next
      · omega
      · exfalso
        rw [if_neg e'] at hc'
        rw [PMap.upd_ne μ q e'] at hs
        subst e
        rw [PMap.upd_self] at hr; cases hr
        exact hfree j s c' hs hc' hl' hqr.symm
    · rw [if_neg e] at hb'
      rw [PMap.upd_ne μ q e] at hr
      by_cases e' : j = h.next
      · exfalso
        subst e'
        rw [PMap.upd_self] at hs; cases hs
        exact hfree i r b' hr hb' hl hqr
      · rw [if_neg e'] at hc'
        rw [PMap.upd_ne μ q e'] at hs
        exact H.inj i j r s b' c' hr hs hb' hc' hl hl' hqr

theorem news_run (H : HR W μ h w) {esz m : Nat} {y y' : Value} {news : List Value} (hy : VR μ y y') (hn : newsOf W h esz y = some (m, news)) :
    ∃ news', VRs μ news news' ∧ (∀ v ∈ news, v.oneCell' = true) ∧ news.length = m * esz ∧ (∀ w, (Builtin.lenOf y').run P w = .ok m w) ∧
      (∀ w1 : World, w1.heap = w.heap → (Builtin.firstCells esz m y').run P w1 = .ok news'.toArray w1) ∧ (∃ a c, y' = .slice a m c ∨ ∃ s, y' = .string s ∧ esz = 1) := by
  unfold newsOf at hn
  split at hn
  · cases hn
    rw [hy.plain_inv rfl]
    exact ⟨[], VRs.nil, by simp, by simp, fun w => rfl, fun w1 _ => rfl, none, 0, .inl rfl⟩
  · rename_i a k c
    cases hc : (a.spot.isNone || Nat.beq c esz) with
    | false => simp [hc] at hn
    | true =>
      simp only [hc, cond_true] at hn
      obtain ⟨l, hl, he⟩ := some_map hn
      cases he
      have key : ∀ (a' : Addr) (c' : Nat), AR μ a a' → ∃ news', VRs μ news news' ∧ (∀ v ∈ news, v.oneCell' = true) ∧ news.length = m * esz ∧ (∀ w, (Builtin.lenOf (.slice (some a') m c')).run P w = .ok m w) ∧
          (∀ w1 : World, w1.heap = w.heap → (Builtin.firstCells esz m (.slice (some a') m c')).run P w1 = .ok news'.toArray w1) ∧ (∃ a c, Value.slice (some a') m c' = .slice a m c ∨ ∃ s, Value.slice (some a') m c' = .string s ∧ esz = 1) := by
        intro a' c' ha
        obtain ⟨l', hrs, hlen, hone, hcs⟩ := aloadN_sim H (m * esz) ha hl
        refine ⟨l', hrs, hone, hlen, fun w => rfl, fun w1 hw1 => ?_, _, _, .inl rfl⟩
        have := run_loadCells_list (P := P) w1 a' l' (fun j v hv => by rw [World.cell?_of_block (w := w) (by rw [hw1])]; exact hcs j v hv)
        rw [← hrs.1, hlen] at this
        exact this
      rcases hy.slice_inv with ⟨hs0, hy'⟩ | ⟨hs0, p, o', c', hp, hcc, hnc, hfit, ho, hy'⟩ | ⟨hs0, hn1, hc1, b1, hy'⟩
      rotate_left 2
      · subst hn1
        rw [hy']
        have hl0 : news = [] := by rw [Nat.zero_mul] at hl; simp [aloadN] at hl; exact hl
        subst hl0
        exact ⟨[], VRs.nil, by simp, by simp, fun w => rfl, fun w1 _ => by simp [Builtin.firstCells, loadCells, loadCellsFrom], _, _, .inl rfl⟩
      · rw [hy']; exact key _ _ (.inl ⟨hs0, rfl⟩)
      · rw [hy']
        by_cases hm : m = 0
        · subst hm
          have hl0 : news = [] := by rw [Nat.zero_mul] at hl; simp [aloadN] at hl; exact hl
          subst hl0
          exact ⟨[], VRs.nil, by simp, by simp, fun w => rfl, fun w1 _ => by simp [Builtin.firstCells, loadCells, loadCellsFrom], _, _, .inl rfl⟩
        · have := ho hm
          subst this
          exact key _ _ (.inr ⟨hs0, p, hp, rfl⟩)
  · rename_i s
    cases hc : Nat.beq esz 1 with
    | false => simp [hc] at hn
    | true =>
      simp only [hc, cond_true] at hn
      cases hn
      have he1 : esz = 1 := by simpa [Tr.nbeq] using hc
      subst he1
      rw [hy.string]
      have hpl : (s.data.toList.map fun b => Value.int .u8 b.toNat).all plainV = true := by
        rw [List.all_eq_true]; intro v hv; obtain ⟨b, _, rfl⟩ := List.mem_map.1 hv; rfl
      refine ⟨_, VR.plains hpl, plain_all_one hpl, by simp, fun w => rfl, fun w1 _ => ?_, none, 0, .inr ⟨s, rfl, rfl⟩⟩
      have e : s.extract 0 s.size = s := by
        cases s; simp [ByteArray.ext_iff]
      have e2 : (s.data.map fun b => Value.int .u8 b.toNat) = (s.data.toList.map fun b => Value.int .u8 b.toNat).toArray := Array.ext' (by simp)
      simp [Builtin.firstCells, e, e2]
  · cases hn

theorem app_room {t u e ty : TypeId} {d : TypeDesc} {esz n m c' : Nat} (ht : P.underlying t = some (.slice e)) (hs : sizeT P e = some esz) (hu : P.underlying u = some d) (hd : d = .slice e ∨ d = .string)
    {base : Option Addr} {y' : Value} {news' : List Value} (hl : (Builtin.lenOf y').run P w = .ok m w) (hf : (Builtin.firstCells esz m y').run P w = .ok news'.toArray w) (hfit : n + m ≤ c') {w' : World}
    (hst : ∀ a, base = some a → (storeCells (a.add (n * esz)) news').run P w = .ok () w') (hnone : base = none → w' = w) :
    (Builtin.append_ #[t, u] ty #[.slice base n c', y']).run P w = .ok (.slice base (n + m) c') w' := by
  have key : (Builtin.append_ #[t, u] ty #[.slice base n c', y']).run P w = ((match base with | some a => (do storeCells (a.add (n * esz)) news'; pure (.slice base (n + m) c') : Sem Value) | none => pure (.slice base (n + m) c')).run P w) := by
    rcases hd with rfl | rfl <;>
      (simp only [Builtin.append_, List.getElem?_toArray, List.getElem?_cons_zero, List.getElem?_cons_succ, Sem.run_bind, run_underlying ht, run_underlying hu, Result.andThen_ok, sizeT_run hs, Sem.run_pure, Bool.false_eq_true, if_false, hl, hfit, if_true, Bool.not_false, hf]
       cases base <;> rfl)
  rw [key]
  cases base with
  | none => rw [hnone rfl]; rfl
  | some a => simp [hst a rfl]

theorem app_grow {t u e ty : TypeId} {d : TypeDesc} {esz n m c' b : Nat} {z : List Value} (ht : P.underlying t = some (.slice e)) (hz : zerosT P e = some z) (hes : z.length = esz) (hb : bytesT P e = some b) (hb1 : b ≤ 1024)
    (hu : P.underlying u = some d) (hd : d = .slice e ∨ d = .string) {base : Option Addr} {y' : Value} {old' news' : List Value} (hl : (Builtin.lenOf y').run P w = .ok m w)
    (hf : (Builtin.firstCells esz m y').run P w.drew = .ok news'.toArray w.drew) (ho : (Builtin.firstCells esz n (.slice base n c')).run P w.drew = .ok old'.toArray w.drew)
    (hol : old'.length = n * esz) (hnl : news'.length = m * esz) (hgt : c' < n + m) (hle : n + m ≤ 1073741824) :
    ∃ cap, n + m ≤ cap ∧ (Builtin.append_ #[t, u] ty #[.slice base n c', y']).run P w =
      .ok (.slice (some ⟨w.heap.size, 0, none⟩) (n + m) cap) (w.drew.alloc (.cells (old' ++ news' ++ repL z (cap - (n + m))).toArray e)) ∧ (old' ++ news' ++ repL z (cap - (n + m))).length = cap * esz := by
  obtain ⟨v, k, g1, g2, g3, g4, g5⟩ := zerosT_spec hz
  subst hes
  subst g4
  obtain ⟨i, hi, hib⟩ := bytesT_run hb
  generalize hcap : Question.cut (.appendCap (n + m) c' e) (w.tape w.drawn (.appendCap (n + m) c' e)) = cap
  have hge : n + m ≤ cap := by rw [← hcap]; simp [Question.cut]
  refine ⟨cap, hge, ?_, ?_⟩
  · have hfits : ¬ (Builtin.nextslicecap (n + m) c' * b > 2 ^ 48) := by
      have := growslice_fits (bytes := b) hgt (Nat.le_trans (Nat.mul_le_mul hle hb1) (by decide))
      omega
    have h63 : ¬ (((n + m : Nat) : Int) > IntKind.i64.max ∧ (False ∨ b = 0)) := by
      have : IntKind.i64.max = 9223372036854775807 := by decide
      rw [this]; omega
    have hng : ¬ (n + m ≤ c') := by omega
    have hvc : v.cells = z.toArray := Array.ext' (by rw [cells_toList, g3])
    have hzc : Builtin.zeroCells z.toArray (cap - (n + m)) = (repL z (cap - (n + m))).toArray := by
      unfold Builtin.zeroCells
      have := zeros_eq z (cap - (n + m))
      have hsz : z.toArray.size = z.length := by simp
      rw [hsz] at this ⊢
      exact this
    have harr : old'.toArray ++ news'.toArray ++ (repL z (cap - (n + m))).toArray = (old' ++ news' ++ repL z (cap - (n + m))).toArray := Array.ext' (by simp)
    have hti : ∀ w, (typeInfo e).run P w = .ok i w := fun w => by simp [typeInfo, hi]
    have hch : (choose (.appendCap (n + m) c' e)).run P w = .ok cap w.drew := by simp [Question.forced, hcap]
    subst hib
    rcases hd with rfl | rfl <;>
      (simp only [Builtin.append_, List.getElem?_toArray, List.getElem?_cons_zero, List.getElem?_cons_succ, Sem.run_bind, run_underlying ht, run_underlying hu, Result.andThen_ok, sizeT_run g2, Sem.run_pure, Bool.false_eq_true, if_false, hl,
        hng, Bool.not_false, hti, h63, hfits, hch, run_askRoom, ho, hf, if_true, zeroT_run g1, hvc, hzc, harr, newRow, run_newObj]
       rfl)
  · simp only [List.length_append, repL_length, hol, hnl]
    rw [← Nat.add_mul, ← Nat.add_mul]; congr 1; omega

theorem sim_app (H : HR W μ h w) {t u e ty : TypeId} {d : TypeDesc} {b : Nat} {z : List Value} (ht : P.underlying t = some (.slice e)) (hz : zerosT P e = some z) (hz0 : z.length ≠ 0) (hb : bytesT P e = some b) (hb1 : b ≤ 1024)
    (hu : P.underlying u = some d) (hd : d = .slice e ∨ d = .string) {x y : Operand} {v : Value} {h' : AHeap} (hx : VR μ (ρ x) (ρ' x)) (hy : VR μ (ρ y) (ρ' y)) (hr : rop W ρ h (.app z.length x y) = some (v, h')) :
    Sim P W μ h w (do pure (.value (← Builtin.append_ #[t, u] ty #[ρ' x, ρ' y]))) v h' := by
  obtain ⟨zv, zn, g1, g2, g3, g4, g5⟩ := zerosT_spec hz
  subst g4
  simp only [rop] at hr
  unfold appA at hr
  cases hnw : newsOf W h z.length (ρ y) with
  | none => simp [hnw] at hr
  | some mn =>
    obtain ⟨m, news⟩ := mn
    simp only [hnw] at hr
    obtain ⟨news', n1, n2, n3, n4, n5, _⟩ := news_run (P := P) H hy hnw
    have hnl' : news'.length = m * z.length := by rw [← n1.1, n3]
    split at hr
    · rename_i heq
      rw [heq] at hx
      have hx' := hx.plain_inv rfl
      cases m with
      | zero =>
        simp only at hr
        cases hr
        rw [heq]
        refine Sim.valw (v' := .slice none 0 0) (w' := w) ?_ (.plain rfl) (μ' := μ) H (Ext.refl _ _) (Nat.le_refl _)
        rw [hx']
        have := app_room (P := P) (w := w) (w' := w) (ty := ty) (base := none) (n := 0) (c' := 0) ht g2 hu hd (n4 w) (n5 w rfl) (Nat.le_refl _) (fun a ha => by cases ha) (fun _ => rfl)
        exact this
      | succ m' =>
        simp only at hr
        cases hc : (Nat.ble (m' + 1) 1073741824 && news.all oneV) with
        | false => simp [hc] at hr
        | true =>
          simp only [hc, cond_true] at hr
          cases hr
          simp only [Bool.and_eq_true, Nat.ble_eq] at hc
          obtain ⟨cap, h1, h2, h3⟩ := app_grow (P := P) (w := w) (ty := ty) (base := none) (n := 0) (c' := 0) (old' := []) ht hz rfl hb hb1 hu hd (n4 w) (n5 w.drew rfl) (by simp [Builtin.firstCells]) (by simp) hnl' (by omega) (by omega)
          simp only [Nat.zero_add, List.nil_append] at h1 h2 h3
          have ha := (H.drew).allocCells n1 n2 (repL z (cap - (m' + 1))) e z.length
          refine Sim.valw (v' := .slice (some ⟨w.heap.size, 0, none⟩) (m' + 1) cap) (w' := _) ?_ (VR.newS h1 ?_) ha.1 ha.2 (by simp [AHeap.new])
          · rw [hx']; exact h2
          · rw [h3]; exact Nat.le_refl _
    · rename_i a n c heq
      rw [heq] at hx
      cases hce : Nat.beq c z.length with
      | false => simp [hce] at hr
      | true =>
        simp only [hce, cond_true] at hr
        have hee : c = z.length := by simpa [Tr.nbeq] using hce
        split at hr
        · rename_i hsp
          rcases hx.slice_inv with ⟨hs0, _⟩ | ⟨hs0, p, o', c', hp, hcc, hnc, hfit, ho, hx'⟩ | ⟨hs0, _⟩
          rotate_left 2
          · rw [hsp] at hs0; cases hs0
          · rw [hsp] at hs0; cases hs0
          · have hpe : p.esz = z.length := by rw [← hcc, hee]
            rw [hpe] at hfit
            have hadd : ∀ k, (⟨p.blk, o', none⟩ : Addr).add k = ⟨p.blk, o' + k, none⟩ := by intro k; unfold Addr.add; split <;> simp_all
            cases m with
            | zero =>
              simp only at hr
              cases hr
              have hn0 : news' = [] := List.eq_nil_of_length_eq_zero (by rw [hnl']; simp)
              subst hn0
              refine Sim.valw (v' := ρ' x) (w' := w) ?_ (by rw [heq]; exact hx) (μ' := μ) H (Ext.refl _ _) (Nat.le_refl _)
              rw [hx']
              exact app_room (P := P) (w := w) (w' := w) (ty := ty) (base := some ⟨p.blk, o', none⟩) (n := n) (c' := c') ht g2 hu hd (n4 w) (n5 w rfl) hnc (fun a ha => by simp [storeCells]) (fun h => by cases h)
            | succ m' =>
              simp only at hr
              split at hr
              · rename_i old _ ho1 ho2
                cases hc : (Nat.ble (n + (m' + 1)) 1073741824 && news.all oneV) with
                | false => simp [hc] at hr
                | true =>
                  simp only [hc, cond_true] at hr
                  cases hr
                  simp only [Bool.and_eq_true, Nat.ble_eq] at hc
                  have hlt : a.block < h.next := H.dom _ _ hp
                  -- the old cells
                  have hold : ∃ old', VRs μ old old' ∧ (∀ v ∈ old, v.oneCell' = true) ∧ old.length = n * z.length ∧ (∀ j v, old'[j]? = some v → w.cell? ⟨p.blk, o' + j, none⟩ = some v) := by
                    by_cases hn : n = 0
                    · subst hn
                      rw [Nat.zero_mul] at ho1
                      simp [aloadN] at ho1
                      subst ho1
                      exact ⟨[], VRs.nil, by simp, by simp, by simp⟩
                    · have := ho hn
                      subst this
                      obtain ⟨l', q1, q2, q3, q4⟩ := aloadN_sim H (n * z.length) (a := a) (a' := ⟨p.blk, a.off + p.shift, none⟩) (.inr ⟨hs0, p, hp, rfl⟩) ho1
                      exact ⟨l', q1, q3, q2, fun j v hv => by rw [← hadd]; exact q4 j v hv⟩
                  obtain ⟨old', q1, q2, q3, q4⟩ := hold
                  have hol' : old'.length = n * z.length := by rw [← q1.1, q3]
                  by_cases hroom : n + (m' + 1) ≤ c'
                  · -- in place
                    obtain ⟨hN, cs, el, r1, r2, r3, r4⟩ := H.rep _ _ _ hp ho2
                    have hmul : (n + (m' + 1)) * z.length ≤ c' * z.length := Nat.mul_le_mul_right _ hroom
                    have hmul2 : (n + (m' + 1)) * z.length = n * z.length + (m' + 1) * z.length := Nat.add_mul _ _ _
                    have hone' := n1.one n2
                    have hst := run_storeCells_at P p.blk (o' + n * z.length) el news' 0 cs w r1 (by omega) hone'
                    simp only [Nat.add_zero] at hst
                    have hsr := setRow_heap w p.blk cs (cs.toList.take (o' + n * z.length) ++ news' ++ cs.toList.drop (o' + n * z.length + news'.length)).toArray el _ r1
                    have hrun := app_room (P := P) (w := w) (ty := ty) (base := some ⟨p.blk, o', none⟩) (n := n) (c' := c') ht g2 hu hd (n4 w) (n5 w rfl) hroom (fun a ha => by cases ha; rw [hadd]; exact hst) (fun h => by cases h)
                    have hK := H.kill a.block hlt
                    have hfree : ∀ j r c, μ j = some r → (h.put a.block .dead).own.get j = some c → c.live = true → r.blk ≠ p.blk := by
                      intro j r c hj hgc hlc hblk
                      simp only [AHeap.put, Tr.get_set] at hgc
                      by_cases ej : j = a.block
                      · rw [if_pos ej] at hgc; cases hgc; cases hlc
                      · rw [if_neg ej] at hgc
                        exact ej (H.inj j a.block r p c _ hj hp hgc ho2 hlc rfl hblk)
                    have hA := hK.adopt (w' := w.setRow p.blk (cs.toList.take (o' + n * z.length) ++ news' ++ cs.toList.drop (o' + n * z.length + news'.length)).toArray) ⟨p.blk, o', p.size, z.length⟩ (.cells (old ++ news)) hfree
                      (H.below.trans ⟨rfl, rfl, rfl, by simp, fun k hk => setRow_other w p.blk k _ (by omega)⟩) (fun k hk => setRow_other w p.blk k _ hk) ?_
                    · refine Sim.valw (v' := .slice (some ⟨p.blk, o', none⟩) (n + (m' + 1)) c') ?_ ?_ hA.1 hA.2 (by simp [AHeap.new, AHeap.put])
                      · rw [hx']; exact hrun
                      · exact VR.slice (p := ⟨p.blk, o', p.size, z.length⟩) (PMap.upd_self μ _ _) hroom hfit (by intro _; simp)
                    · have hcl : cs.toList.length = p.size := by simpa using r2
                      refine ⟨hN, _, el, hsr, ?_, ?_, ?_⟩
                      · simp [List.length_append, List.length_take, List.length_drop]; omega
                      · simp only [List.length_append, q3, n3]; omega
                      · intro k v hv
                        have hext : ∀ i p, μ i = some p → (μ.upd (h.put a.block .dead).next ⟨p.blk, o', p.size, z.length⟩) i = some p ∨ True := fun _ _ _ => .inr trivial
                        have hm : ∀ i r, μ i = some r → (μ.upd (h.put a.block .dead).next ⟨p.blk, o', p.size, z.length⟩) i = some r := (Ext.upd μ _ _).le hK.dom
                        rw [List.getElem?_append] at hv
                        have hmin : (cs.toList.take (o' + n * z.length)).length = o' + n * z.length := by rw [List.length_take]; omega
                        simp only [List.getElem?_toArray, List.append_assoc]
                        rw [List.getElem?_append, hmin]
                        by_cases hk : k < old.length
                        · rw [if_pos hk] at hv
                          rw [if_pos (by omega)]
                          obtain ⟨v', hv', hrel⟩ := q1.2 k v hv
                          have hcell := q4 k v' hv'
                          have : cs[o' + k]? = some v' := by simpa [World.cell?, r1] using hcell
                          rw [List.getElem?_take, if_pos (by omega)]
                          have h1c := q2 v (List.mem_of_getElem? hv)
                          exact ⟨h1c, v', by simpa using this, by rw [hrel.oneCell]; exact h1c, hrel.mono hm⟩
                        · rw [if_neg hk] at hv
                          rw [if_neg (by omega), List.getElem?_append]
                          obtain ⟨v', hv', hrel⟩ := n1.2 _ v hv
                          have hkl : k - old.length < news'.length := by
                            rcases Nat.lt_or_ge (k - old.length) news'.length with h' | h'
                            · exact h'
                            · rw [List.getElem?_eq_none h'] at hv'; cases hv'
                          rw [if_pos (by omega)]
                          have h1c := n2 v (List.mem_of_getElem? hv)
                          refine ⟨h1c, v', ?_, by rw [hrel.oneCell]; exact h1c, hrel.mono hm⟩
                          rw [← hv']; congr 1; omega
                  · -- a new array
                    have hfo : (Builtin.firstCells z.length n (.slice (some ⟨p.blk, o', none⟩) n c')).run P w.drew = .ok old'.toArray w.drew := by
                      have := run_loadCells_list (P := P) w.drew ⟨p.blk, o', none⟩ old' (fun j v hv => by rw [hadd]; exact q4 j v hv)
                      rw [hol'] at this
                      exact this
                    obtain ⟨cap, h1, h2, h3⟩ := app_grow (P := P) (w := w) (ty := ty) (base := some ⟨p.blk, o', none⟩) (n := n) (c' := c') (old' := old') ht hz rfl hb hb1 hu hd (n4 w) (n5 w.drew rfl) hfo hol' hnl' (by omega) hc.1
                    have ha := (H.drew.kill a.block hlt).allocCells (q1.append n1) (fun v hv => (List.mem_append.1 hv).elim (q2 v) (n2 v)) (repL z (cap - (n + (m' + 1)))) e z.length
                    refine Sim.valw (v' := .slice (some ⟨w.heap.size, 0, none⟩) (n + (m' + 1)) cap) (w' := _) ?_ (VR.newS h1 ?_) ha.1 ha.2 (by simp [AHeap.new, AHeap.put])
                    · rw [hx']; exact h2
                    · rw [h3]; exact Nat.le_refl _
              · cases hr
        · cases hr
    · cases hr

end
end Go.Mach
