/- corporaref20.live (F91) in the machine. No condition but sizes.
Merged from 3 texts. -/
import Derived.Test.YtlipmjpapkfaeaaGreatDoorZD31
import Derived.Test.YtlipmjpapkfaeaaGreatDoorZD13
import Derived.Test.YtlipmjpapkfaeaaGreatDoorZD15
import Derived.Test.YtlipmjpapkfaeaaGreatDoorZD27
import Derived.Test.YtlipmjpapkfaeaaGreatDoorZD28
section
set_option linter.unusedSimpArgs false
set_option linter.unusedVariables false
set_option maxRecDepth 100000
namespace Go.Proofs.YtlipmjpapkfaeaaGreatDoor.Fn
open Go Go.Mach Go.RowKit Go.Proofs
attribute [local irreducible] AOps WPX DOps thenS blockS AOp GOps CPick
theorem Sl.news1 {W : World} {h : AHeap} {α : Type} {g : α → Value} {a : Option Addr} {n c : Nat} {l : List α} (hs : Sl W h 1 (.slice a n c) (l.map fun x => [g x])) (hl : l.length = n) (hn : 0 < n) : newsOf W h 1 (.slice a n c) = some (n, l.map g) := by
  obtain ⟨a', c', h1, h2, h3⟩ := hs.is
  rw [List.length_map] at h1
  cases h1
  cases a with
  | none =>
    have := (h3 rfl).1
    rw [List.map_eq_nil_iff] at this
    rw [this] at hn; simp at hn
  | some b =>
    obtain ⟨h4, h5⟩ := h2 b rfl
    have hld : aloadN W h b (l.map g).length = some (l.map g) := by
      refine aloadN_of _ _ fun j u hu => ?_
      have hx : (l.map fun x => [g x])[j]? = some [u] := by
        rw [List.getElem?_map] at hu ⊢
        cases hj : l[j]? with
        | none => rw [hj] at hu; cases hu
        | some y => rw [hj] at hu; simp at hu; simp [hu]
      have := (h5 j [u] hx).2 0 u rfl
      rwa [Nat.mul_one, Nat.add_zero] at this
    rw [List.length_map] at hld
    unfold newsOf
    have hc : (b.spot.isNone || Nat.beq c 1) = true := by
      rcases h4 with h | h | ⟨h, h'⟩
      · rw [List.map_eq_nil_iff] at h; rw [h] at hn; simp at hn
      · simp [h]
      · simp [h']
    simp only [hc, cond_true, Nat.mul_one, hld, Option.map_some]
theorem Ow.rdb {h : AHeap} {b : Nat} {l : List Bool} (o : Ow h b 1 (l.map boolV)) {i : Nat} (hi : i < l.length) : ∃ C, h.own.get b = some (.cells C) ∧ C[i * 1]? = some (.bool (bt l i)) :=
  o.get1 (f := boolV) (getD_of (d := false) hi) rfl
set_option maxHeartbeats 16000000 in
theorem f91_ok (W : World) (h : AHeap) (pv fv nv : Value) (vs : List Value) (ps : List Int) (F : List Bool) (rows : List (List Int)) (t : TabV W h pv fv nv vs ps F rows) (ok : TabOk ps F rows) (hpl : ps.length < 1073741824) (hF0 : 0 < F.length) (hF : F.length ≤ 100000) :
    ACalls Tryz.prog W 91 [.agg #[pv, fv, nv]] h (fun r h' => (∃ b l, r = .slice (some ⟨b, 0, some 0⟩) F.length 1 ∧ h.next ≤ b ∧ Ow h' b 1 (l.map boolV) ∧ LiveL ps F rows l) ∧ Keeps h h') := by
  refine ACalls_ofX hmix c91 (Nat.le_of_ble_eq_true rfl) ?_
  unfold r91
  dsimp only [Rc.t, Rc.u, Rc.v, Rc.o, Rc.i, Rc.p, Rc.q, Rc.s, Rc.b, Rc.k, Rc.g, Rc.S, Rc.D]
  simp only [envOf1]
  obtain ⟨pa, pc, hpe⟩ := t.pts.len
  obtain ⟨fa, fc, hfe⟩ := t.fin.len
  obtain ⟨na, nc, hne⟩ := t.nxt.out.len
  rw [List.length_map] at hpe hfe hne
  obtain ⟨np, hnp⟩ : ∃ nf, nf = ps.length := ⟨_, rfl⟩
  obtain ⟨nn, hnn2⟩ : ∃ nn, nn = vs.length := ⟨_, rfl⟩
  obtain ⟨n, hnn⟩ : ∃ n, n = F.length := ⟨_, rfl⟩
  rw [← hnp] at hpe
  rw [← hnn2] at hne
  rw [← hnn] at hfe hF hF0 ⊢
  subst hfe hpe hne
  clear hnn2
  obtain ⟨H0, hH0⟩ : ∃ H0, H0 = h.new (.cells [.slice pa np pc, .slice fa n fc, .slice na nn nc]) := ⟨_, rfl⟩
  have hk0 : Keeps h H0 := by rw [hH0]; exact (Keeps.refl h).new _
  have hbx0 : H0.own.get h.next = some (.cells [.slice pa np pc, .slice fa n fc, .slice na nn nc]) := by rw [hH0, AHeap.new_get, if_pos rfl]
  have hn0 : H0.next = h.next + 1 := by rw [hH0, AHeap.new_next]
  have hfs := t.fin.keeps hk0
  have hy : newsOf W H0 1 (.slice fa n fc) = some ((F.map boolV).length, (F.map boolV).flatten) := by
    rw [Sl.news1 (g := fun b => Value.bool b) hfs hnn.symm hF0, List.length_map, ← hnn]
    congr 2
    clear hfs t ok hnn
    induction F with
    | nil => rfl
    | cons x l ih => simp only [List.map_cons, List.flatten_cons, ← ih]; rfl
  obtain ⟨la, lc, H1, happ, ho, hk1, _, _, _⟩ := OwnV.appX (W := W) (h0 := H0) (OwnV.nil H0.next H0 1) (Keeps.refl _) (Nat.le_refl _) (Nat.le_refl _) hy (fun e he => by obtain ⟨x, _, rfl⟩ := List.mem_map.1 he; rfl) (by
    clear hy hfs t ok hnn
    induction F with
    | nil => rfl
    | cons x l ih => simp only [List.map_cons, List.flatten_cons, List.all_append, ih]; rfl) (by rw [List.length_map, ← hnn]; simp; omega)
  rw [List.nil_append] at happ ho
  rw [List.length_map, ← hnn, List.length_nil] at happ
  rcases ho with ⟨_, _, hnil⟩ | ⟨b, rfl, rfl, hb, how⟩
  · have hF1 : F = [] := by simpa using hnil
    rw [hF1] at hnn; simp at hnn; omega
  have hL0 : LvS ps F rows F := lvS_init
  have hR0 : RSt ps rows F 0 := .inr (Nat.zero_le _)
  have hbn : h.next < b := by omega
  rw [hH0] at happ
  replace hnn : Hid (n = F.length) := hnn
  replace hnp : Hid (np = ps.length) := hnp
  clear hfs hy
  have hpl' : np < 1073741824 := by have := hnp.out; omega
  have hrl : rows.length = n := ok.len.trans hnn.out.symm
  replace hrl : Hid (rows.length = n) := hrl
  repeat refine zs ?_
  refine WPX.loop hmix (fun k σ => ∃ r l, r ≤ n ∧ k = n - r ∧ eget σ.e 1 = .pointer (some ⟨h.next, 0, some 0⟩) ∧ eget σ.e 3 = .slice (some ⟨b, 0, some 0⟩) n 1 ∧ eget σ.e 11 = .int .i64 n ∧ eget σ.e 12 = .int .i64 (r : Nat) ∧
    Keeps H0 σ.h ∧ Ow σ.h b 1 (List.map boolV l) ∧ LvS ps F rows l ∧ RSt ps rows l r) n ?h0 ?round
  case h0 => exact ⟨0, F, Nat.zero_le _, rfl, zv, zv, zv, zv, hk1, how, hL0, hR0⟩
  clear happ how hk1 hL0 hR0
  rintro k ⟨e, hh⟩ ⟨r, l, hr, rfl, e1, e3, e11, e12, hk, ho, hL, hR⟩
  dsimp only at e1 e3 e11 e12 hk ho
  by_cases hlt : r < n
  · have hltI : (r : Int) < n := by omega
    have hw1 : IntKind.i64.wrap ((r : Int) + 1) = ((r + 1 : Nat) : Int) := wrap_i64 (by omega) (by omega)
    have hR1 := hR.start
    clear hR
    repeat refine zs ?_
    refine WPX.loop hmix (fun k σ => ∃ i l, i ≤ n ∧ k = n - i ∧ eget σ.e 1 = .pointer (some ⟨h.next, 0, some 0⟩) ∧ eget σ.e 3 = .slice (some ⟨b, 0, some 0⟩) n 1 ∧ eget σ.e 11 = .int .i64 n ∧ eget σ.e 12 = .int .i64 (r : Nat) ∧ eget σ.e 15 = .int .i64 n ∧ eget σ.e 16 = .int .i64 (i : Nat) ∧
      Keeps H0 σ.h ∧ Ow σ.h b 1 (List.map boolV l) ∧ LvS ps F rows l ∧ RIn ps rows l r i 0) n ?h1 ?round1
    case h1 => exact ⟨0, l, Nat.zero_le _, rfl, zv, zv, zv, zv, zv, zv, hk, ho, hL, hR1⟩
    clear e1 e3 e11 e12 hk ho hL hR1
    rintro k ⟨e, hh⟩ ⟨i, l, hi, rfl, e1, e3, e11, e12, e15, e16, hk, ho, hL, hR⟩
    dsimp only at e1 e3 e11 e12 e15 e16 hk ho
    have hbx : hh.own.get h.next = some (.cells [.slice pa np pc, .slice fa n fc, .slice na nn nc]) := by rw [hk.same _ (by omega)]; exact hbx0
    by_cases hli : i < n
    · have hliI : (i : Int) < n := by omega
      have hw2 : IntKind.i64.wrap ((i : Int) + 1) = ((i + 1 : Nat) : Int) := wrap_i64 (by omega) (by omega)
      have hiF : i < F.length := by have := hnn.out; omega
      obtain ⟨x, dx, hdx, ⟨hrx, _⟩, ⟨xa, xc, hxe⟩, _⟩ := ((t.keeps hk0).keeps hk).rd ok hiF
      rw [← hnp.out] at hxe
      subst hxe
      repeat refine zs ?_
      refine WPX.loop hmix (fun k σ => ∃ q l, q ≤ np ∧ k = np - q ∧ eget σ.e 1 = .pointer (some ⟨h.next, 0, some 0⟩) ∧ eget σ.e 3 = .slice (some ⟨b, 0, some 0⟩) n 1 ∧ eget σ.e 11 = .int .i64 n ∧ eget σ.e 12 = .int .i64 (r : Nat) ∧ eget σ.e 15 = .int .i64 n ∧ eget σ.e 16 = .int .i64 (i : Nat) ∧
        eget σ.e 4 = .int .i64 (i : Nat) ∧ eget σ.e 23 = .slice xa np xc ∧ eget σ.e 24 = .int .i64 np ∧ eget σ.e 25 = .int .i64 (q : Nat) ∧
        Keeps H0 σ.h ∧ Ow σ.h b 1 (List.map boolV l) ∧ LvS ps F rows l ∧ RIn ps rows l r i q) np ?h2 ?round2
      case h2 => exact ⟨0, l, Nat.zero_le _, rfl, zv, zv, zv, zv, zv, zv, zv, zv, zv, zv, hk, ho, hL, hR⟩
      clear e1 e3 e11 e12 e15 e16 ho hL hR hbx
      rintro k ⟨e, h2⟩ ⟨q, l, hq, rfl, e1, e3, e11, e12, e15, e16, e4, e23, e24, e25, hk2, ho, hL, hR⟩
      dsimp only at e1 e3 e11 e12 e15 e16 e4 e23 e24 e25 hk2 ho
      have hll : l.length = n := hL.len.trans hnn.out.symm
      replace hll : Hid (l.length = n) := hll
      by_cases hlq : q < np
      · have hlqI : (q : Int) < np := by omega
        have hw3 : IntKind.i64.wrap ((q : Int) + 1) = ((q + 1 : Nat) : Int) := wrap_i64 (by omega) (by omega)
        have hqp : q < ps.length := by have := hnp.out; omega
        obtain ⟨x2, dx2, hdx2, _, _, hx2⟩ := ((t.keeps hk0).keeps hk2).rd ok hiF
        obtain ⟨x3, dx3, hdx3, ⟨hrx3, _⟩, _, hx3⟩ := ((t.keeps hk0).keeps hk).rd ok hiF
        -- the same row, read again
        have hsame : ∃ db, idxV 1 (.slice xa np xc) (.int .i64 q) = some (.pointer (some db)) ∧ Rd W h2 db (.int .i64 (cel rows i q : Nat)) := by
          obtain ⟨r0, hr0, hr1, _, _⟩ := ok.get hiF
          obtain ⟨v, hv⟩ : ∃ v, vs[i]? = some v := ⟨_, List.getElem?_eq_getElem (by rw [t.nxt.len, hrl.out]; exact hli)⟩
          obtain ⟨dv, g1, g2⟩ := Sl.one (f := hdrV) ((t.keeps hk0).keeps hk).nxt.out hv (u := v) rfl
          rw [hdx] at g1
          cases g1
          have := g2.1
          rw [hrx] at this
          cases this
          have hs := ((t.keeps hk0).keeps hk2).nxt.inner i _ r0 hv hr0
          have hvv : r0[q]? = some (cel rows i q : Int) := by
            have h5 := (ok.cell_lt hiF hqp).2
            have e1 : rows.getD i [] = r0 := by simp [List.getD, hr0]
            rw [e1] at h5
            rw [← h5]; exact getD_of (by rw [hr1]; exact hqp)
          obtain ⟨db, g3, g4⟩ := Sl.one (f := numV) hs hvv (u := .int .i64 (cel rows i q : Nat)) rfl
          exact ⟨db, g3, g4⟩
        clear hx2 hdx2 hx3 hdx3 hrx3
        obtain ⟨db, hdb, hrb, _⟩ := hsame
        have hcl := (ok.cell_lt hiF hqp).1
        have hcn : cel rows i q < n := by have := hnn.out; omega
        have hidi : idxV 1 (.slice (some ⟨b, 0, some 0⟩) n 1) (.int .i64 i) = some (.pointer (some ⟨b, i * 1, some 0⟩)) := idx_own hli
        have hidk : idxV 1 (.slice (some ⟨b, 0, some 0⟩) n 1) (.int .i64 (cel rows i q : Nat)) = some (.pointer (some ⟨b, cel rows i q * 1, some 0⟩)) := idx_own hcn
        have hL2 := hL.put ok hiF hqp
        have hR2 := hR.put (by rw [hrl.out]; exact hli) hqp (by rw [hll.out, hrl.out])
        obtain ⟨C, hC, hCi⟩ := Ow.rdb ho (i := i) (by rw [hll.out]; exact hli)
        obtain ⟨C', hC', hCk⟩ := Ow.rdb ho (i := cel rows i q) (by rw [hll.out]; exact hcn)
        rw [hC] at hC'
        cases hC'
        obtain ⟨C', hC', hble, C2, hsp, ho2⟩ := ho.set1 (f := boolV) (fun x => rfl) (i := i) (by rw [hll.out]; exact hli) (bt l i || bt l (cel rows i q))
        rw [hC] at hC'
        cases hC'
        simp only [boolV] at hsp
        have hkf : Keeps H0 (h2.put b (.cells C2)) := hk2.put (by omega) _
        cases hbi : bt l i with
        | true =>
          rw [hbi] at hCi hsp ho2 hL2 hR2
          simp only [Bool.true_or] at hsp ho2 hL2 hR2
          clear hbi hcl hcn hrx hdx
          repeat refine zs ?_
          exact ⟨np - (q + 1), by omega, q + 1, _, by omega, rfl, zv, zv, zv, zv, zv, zv, zv, zv, zv, zv, hkf, ho2, hL2, hR2⟩
        | false =>
          rw [hbi] at hCi hsp ho2 hL2 hR2
          simp only [Bool.false_or] at hsp ho2 hL2 hR2
          clear hbi hcl hcn hrx hdx
          repeat refine zs ?_
          exact ⟨np - (q + 1), by omega, q + 1, _, by omega, rfl, zv, zv, zv, zv, zv, zv, zv, zv, zv, zv, hkf, ho2, hL2, hR2⟩
      · have hlqI : ¬ (q : Int) < np := by omega
        have hR2 := hR.row (by have := hnp.out; omega)
        repeat refine zs ?_
        exact ⟨n - (i + 1), by omega, i + 1, l, by omega, rfl, zv, zv, zv, zv, zv, zv, hk2, ho, hL, hR2⟩
    · have hliI : ¬ (i : Int) < n := by omega
      have hR2 : RSt ps rows l (r + 1) := by
        obtain rfl : i = n := by omega
        exact hR.stop (by rw [hrl.out]; omega)
      repeat refine zs ?_
      exact ⟨n - (r + 1), by omega, r + 1, l, by omega, rfl, zv, zv, zv, zv, hk, ho, hL, hR2⟩
  · have hltI : ¬ (r : Int) < n := by omega
    have hD : LiveL ps F rows l := by
      refine hL.done ok (RSt.done ok ?_ hL)
      have : l.length = r := by rw [hL.len, ← hnn.out]; omega
      rw [this]; exact hR
    repeat refine zs ?_
    refine ⟨.inr rfl, _, rfl, ⟨b, l, ?_, by omega, ho, hD⟩, hk0.trans hk⟩
    simp only [resOf, rop, opd, celsL, oneV, aadd, binV, isSh, intBin, scEq, keq, unV, fillL, oP, oA, oS, wantedA, BX, BL, BS, seval, *]
end Go.Proofs.YtlipmjpapkfaeaaGreatDoor.Fn
end
section
set_option linter.unusedSimpArgs false
set_option linter.unusedVariables false
set_option maxRecDepth 100000
namespace Go.Proofs.YtlipmjpapkfaeaaGreatDoor.Fn
open Go Go.Mach Go.RowKit Go.Proofs
attribute [local irreducible] AOps WPX DOps thenS blockS AOp GOps CPick
structure LV where
  a : Option Addr
  c : Nat
  l : List Int
def LV.v (p : LV) : Value := .slice p.a p.l.length p.c
def LV.e (p : LV) : List Value := [p.v]
structure Lists (b : Nat) (h : AHeap) (bl : List LV) : Prop where
  ow : Ow h b 1 (bl.map LV.e)
  own : ∀ (i : Nat) p, bl[i]? = some p → OwnV (b + 1) h p.a p.c 1 (p.l.map numV)
  apart : ∀ (i j : Nat) p q, i ≠ j → bl[i]? = some p → bl[j]? = some q → Apart p.a q.a
theorem Lists.keeps {b : Nat} {h h' : AHeap} {bl : List LV} (L : Lists b h bl) (k : Keeps h h') : Lists b h' bl := ⟨L.ow.keeps k, fun i p hp => (L.own i p hp).keeps k, L.apart⟩
theorem Lists.push {W : World} {h0 : AHeap} {b : Nat} {h : AHeap} {bl : List LV} (L : Lists b h bl) (k : Keeps h0 h) (hb : h0.next ≤ b) {i : Nat} {p : LV} (hp : bl[i]? = some p) (q : Int) (hl : p.l.length + 1 ≤ 1073741824) :
    ∃ a' c' h3, appA W (h.new (.cells [.int .i64 q])) 1 (.slice p.a p.l.length p.c) (.slice (some ⟨h.next, 0, some 0⟩) 1 1) = some (.slice a' (p.l.length + 1) c', h3) ∧ Keeps h0 h3 ∧
      (∃ C, h3.own.get b = some (.cells C) ∧ Nat.ble (i * 1 + 1) C.length = true ∧ ∃ C2, splice C (i * 1) [.slice a' (p.l.length + 1) c'] = C2 ∧ Lists b (h3.put b (.cells C2)) (bl.set i ⟨a', c', p.l ++ [q]⟩)) ∧
      h.next + 2 ≤ h3.next ∧ ∀ j, j < h.next → NotIn p.a j → h3.own.get j = h.own.get j := by
  have hi := (List.getElem?_eq_some_iff.1 hp).1
  have hbl := L.ow.lt
  have hop := L.own i p hp
  obtain ⟨a', c', h3, g1, g2, g3, g4, g5, g6⟩ := OwnV.app (W := W) (h0 := h0) (h := h.new (.cells [.int .i64 q])) (b' := h.next) (e := numV q) (hop.keeps ((Keeps.refl _).new _)) (k.new _) (by omega) (by rw [AHeap.new_next]; omega)
    (by rw [AHeap.new_get, if_pos rfl]; rfl) (by rw [AHeap.new_next]; omega) rfl rfl (by simpa using hl)
  have hn3 : h3.next = h.next + 2 := by rw [g4, AHeap.new_next]
  have hbn : NotIn p.a b := fun x hx => by have := (hop.lt hx).1; omega
  have ow3 : Ow h3 b 1 (bl.map LV.e) := L.ow.same (by rw [g5 b (by rw [AHeap.new_next]; omega) hbn, AHeap.new_get, if_neg (by omega)]) (by omega)
  obtain ⟨C, hC, hble, C2, hsp, ow4⟩ := ow3.set1 (f := LV.e) (fun x => rfl) hi ⟨a', c', p.l ++ [q]⟩
  have hsp' : splice C (i * 1) [.slice a' (p.l.length + 1) c'] = C2 := by
    rw [← hsp]; simp [LV.e, LV.v]
  have hsame : ∀ j, j < h.next → NotIn p.a j → h3.own.get j = h.own.get j := fun j hj hn => by rw [g5 j (by rw [AHeap.new_next]; omega) hn, AHeap.new_get, if_neg (by omega)]
  have hput : ∀ {N : Nat}, b + 1 ≤ N → ∀ j, N ≤ j → j < h3.next → (h3.put b (.cells C2)).own.get j = h3.own.get j := fun hN j hj _ => by rw [AHeap.put_get, if_neg (by omega)]
  refine ⟨a', c', h3, by simpa using g1, g3, ⟨C, hC, hble, C2, hsp', ⟨ow4, fun j r hr => ?_, fun j m r s hjm hr hs => ?_⟩⟩, by omega, hsame⟩
  · rw [List.getElem?_set] at hr
    by_cases hij : i = j
    · subst hij
      rw [if_pos rfl, if_pos hi] at hr
      cases hr
      have := g2.same (hput (Nat.le_refl _)) (Nat.le_refl _)
      simpa using this
    · rw [if_neg hij] at hr
      have h1 := OwnV.other (L.own j r hr) (h' := h3) (a' := p.a) hsame (by omega) (L.apart j i r p (fun e => hij e.symm) hr hp)
      exact h1.same (hput (Nat.le_refl _)) (Nat.le_refl _)
  · have hnew : ∀ (j : Nat) r, bl[j]? = some r → Apart r.a a' := fun j r hr => ((L.own j r hr).keeps ((Keeps.refl h).new (.cells [.int .i64 q]))).apartNew g6
    rw [List.getElem?_set] at hr hs
    by_cases hij : i = j
    · subst hij
      rw [if_pos rfl, if_pos hi] at hr
      cases hr
      rw [if_neg hjm] at hs
      exact (hnew m s hs).symm
    · rw [if_neg hij] at hr
      by_cases him : i = m
      · subst him
        rw [if_pos rfl, if_pos hi] at hs
        cases hs
        exact hnew j r hr
      · rw [if_neg him] at hs
        exact L.apart j m r s hjm hr hs
structure Before (A : Aut) (M i j : Nat) (bl : List LV) : Prop where
  len : bl.length = A.fin.length
  sz : ∀ (q : Nat) p, bl[q]? = some p → p.l.length ≤ i * M + j
  snd : ∀ (q : Nat) p, bl[q]? = some p → ∀ s ∈ p.l, ∃ t : Nat, s = t ∧ ∃ l, A.arcs[t]? = some l ∧ ∃ x ∈ l, x.2.2 = q
  all : ∀ (q : Nat) p, bl[q]? = some p → ∀ (t : Nat) l x, A.arcs[t]? = some l → (t < i ∧ x ∈ l ∨ t = i ∧ x ∈ l.take j) → x.2.2 = q → (t : Int) ∈ p.l
theorem Before.init (A : Aut) (M n : Nat) (hn : n = A.fin.length) : Before A M 0 0 (List.replicate n ⟨none, 0, []⟩) where
  len := by simp [hn]
  sz := fun q p hp => by obtain ⟨_, e⟩ := List.mem_replicate.1 (List.mem_of_getElem? hp); rw [e]; simp
  snd := fun q p hp s hs => by obtain ⟨_, e⟩ := List.mem_replicate.1 (List.mem_of_getElem? hp); rw [e] at hs; simp at hs
  all := fun q p hp t l x hl hx => by
    rcases hx with ⟨h, _⟩ | ⟨_, h⟩
    · omega
    · simp at h
theorem Before.step {A : Aut} {M i j r : Nat} {bl : List LV} {l : List Arc3} {x : Arc3} {p : LV} (B : Before A M i j bl) (hl : A.arcs[i]? = some l) (hx : l[j]? = some x) (hr : x.2.2 = r) (hp : bl[r]? = some p) (a' : Option Addr) (c' : Nat) :
    Before A M i (j + 1) (bl.set r ⟨a', c', p.l ++ [(i : Int)]⟩) := by
  have hrl := (List.getElem?_eq_some_iff.1 hp).1
  have get : ∀ (q : Nat) p', (bl.set r ⟨a', c', p.l ++ [(i : Int)]⟩)[q]? = some p' → (q = r ∧ p'.l = p.l ++ [(i : Int)]) ∨ (q ≠ r ∧ bl[q]? = some p') := by
    intro q p' h
    rw [List.getElem?_set] at h
    by_cases hq : r = q
    · subst hq; rw [if_pos rfl, if_pos hrl] at h; cases h; exact .inl ⟨rfl, rfl⟩
    · rw [if_neg hq] at h; exact .inr ⟨fun e => hq e.symm, h⟩
  refine ⟨by simp [B.len], fun q p' h => ?_, fun q p' h s hs => ?_, fun q p' h t l' y hl' hy hyq => ?_⟩
  · rcases get q p' h with ⟨rfl, e⟩ | ⟨_, h'⟩
    · rw [e, List.length_append, List.length_singleton]; have := B.sz q p hp; omega
    · have := B.sz q p' h'; omega
  · rcases get q p' h with ⟨rfl, e⟩ | ⟨_, h'⟩
    · rw [e] at hs
      rcases List.mem_append.1 hs with hs | hs
      · exact B.snd q p hp s hs
      · simp at hs; exact ⟨i, hs, l, hl, x, List.mem_of_getElem? hx, hr⟩
    · exact B.snd q p' h' s hs
  · have split : (t < i ∧ y ∈ l' ∨ t = i ∧ y ∈ l'.take j) ∨ (t = i ∧ y = x) := by
      rcases hy with hy | ⟨rfl, hy⟩
      · exact .inl (.inl hy)
      · rw [hl] at hl'; cases hl'
        rw [List.take_add_one, hx] at hy
        rcases List.mem_append.1 hy with hy | hy
        · exact .inl (.inr ⟨rfl, hy⟩)
        · simp at hy; exact .inr ⟨rfl, hy⟩
    rcases get q p' h with ⟨rfl, e⟩ | ⟨hqr, h'⟩
    · rw [e]
      rcases split with hy | ⟨rfl, rfl⟩
      · exact List.mem_append_left _ (B.all q p hp t l' y hl' hy hyq)
      · simp
    · rcases split with hy | ⟨rfl, rfl⟩
      · exact B.all q p' h' t l' y hl' hy hyq
      · exfalso; omega
theorem Before.row {A : Aut} {M i : Nat} {bl : List LV} {l : List Arc3} (B : Before A M i l.length bl) (hl : A.arcs[i]? = some l) (hb : l.length ≤ M) : Before A M (i + 1) 0 bl :=
  ⟨B.len, fun q p hp => by have := B.sz q p hp; rw [Nat.succ_mul]; omega, B.snd, fun q p hp t l' x hl' hx hxq => by
    rcases hx with ⟨h1, h2⟩ | ⟨_, h2⟩
    · by_cases hti : t = i
      · subst hti
        rw [hl] at hl'; cases hl'
        exact B.all q p hp t l x hl (.inr ⟨rfl, by rw [List.take_length]; exact h2⟩) hxq
      · exact B.all q p hp t l' x hl' (.inl ⟨by omega, h2⟩) hxq
    · simp at h2⟩
structure Alv (A : Aut) (ol : List Bool) (sk : List Int) (D : Nat → Prop) : Prop where
  len : ol.length = A.fin.length
  snd : ∀ q : Nat, ol[q]? = some true → Live A q
  fin : ∀ q : Nat, A.fin[q]? = some true → ol[q]? = some true
  stk : ∀ s ∈ sk, ∃ q : Nat, s = q ∧ ol[q]? = some true
  cls : ∀ q : Nat, ol[q]? = some true → (q : Int) ∈ sk ∨ D q ∨ ∀ (t : Nat) l x, A.arcs[t]? = some l → x ∈ l → x.2.2 = (q : Int) → ol[t]? = some true
theorem Alv.done {A : Aut} (w : Wf A) {ol : List Bool} (h : Alv A ol [] fun _ => False) (q : Nat) : ol[q]? = some true ↔ Live A q := by
  refine ⟨h.snd q, fun ⟨cs, hcs⟩ => ?_⟩
  refine live_closed w (T := fun q => ol[q]? = some true) h.fin (fun p l hl x hx hT => ?_) cs q hcs
  rcases h.cls _ hT with hs | hf | hc
  · simp at hs
  · exact hf.elim
  · exact hc p l x hl hx (by have := (w.range (List.mem_of_getElem? hl) hx).2; omega)
def cntF : List Bool → Nat
  | [] => 0
  | true :: l => cntF l
  | false :: l => cntF l + 1
theorem cntF_le : ∀ l : List Bool, cntF l ≤ l.length
  | [] => Nat.le_refl _
  | true :: l => by have := cntF_le l; simp only [cntF, List.length_cons]; omega
  | false :: l => by have := cntF_le l; simp only [cntF, List.length_cons]; omega
theorem cntF_set : ∀ {l : List Bool} {i : Nat}, l[i]? = some false → cntF (l.set i true) + 1 = cntF l
  | [], i, h => by simp at h
  | b :: l, 0, h => by simp at h; subst h; rfl
  | b :: l, i + 1, h => by
    have := cntF_set (l := l) (i := i) (by simpa using h)
    cases b
    · simp only [List.set_cons_succ, cntF]; omega
    · simp only [List.set_cons_succ, cntF]; omega
theorem Alv.pop {A : Aut} {ol : List Bool} {es : List Int} {m q0 : Nat} (h : Alv A ol (es.take (m + 1)) fun _ => False) (hq : es[m]? = some (q0 : Int)) : Alv A ol (es.take m) (fun q => q = q0) ∧ ol[q0]? = some true := by
  have ht : es.take (m + 1) = es.take m ++ [(q0 : Int)] := by rw [List.take_add_one, hq]; rfl
  rw [ht] at h
  refine ⟨⟨h.len, h.snd, h.fin, fun s hs => h.stk s (List.mem_append_left _ hs), fun q hq' => ?_⟩, ?_⟩
  · rcases h.cls q hq' with h1 | h1 | h1
    · rcases List.mem_append.1 h1 with h1 | h1
      · exact .inl h1
      · simp at h1; exact .inr (.inl (by omega))
    · exact h1.elim
    · exact .inr (.inr h1)
  · obtain ⟨q, e, hq'⟩ := h.stk q0 (by simp)
    have : q0 = q := by omega
    rw [this]; exact hq'
theorem set_true {ol : List Bool} {t : Nat} (ht : t < ol.length) {q : Nat} : (ol.set t true)[q]? = some true ↔ (q = t ∨ ol[q]? = some true) := by
  rw [List.getElem?_set]
  by_cases h : t = q
  · subst h; simp [ht]
  · rw [if_neg h]
    exact ⟨fun hh => .inr hh, fun hh => by
      rcases hh with e | hh
      · exact absurd e.symm h
      · exact hh⟩
theorem Alv.push {A : Aut} {ol : List Bool} {sk : List Int} {D : Nat → Prop} {t : Nat} (h : Alv A ol sk D) (ht : t < ol.length) (hl : Live A t) : Alv A (ol.set t true) (sk ++ [(t : Int)]) D := by
  refine ⟨by simp [h.len], fun q hq => ?_, fun q hq => ?_, fun s hs => ?_, fun q hq => ?_⟩
  · rcases (set_true ht).1 hq with rfl | hq
    · exact hl
    · exact h.snd q hq
  · exact (set_true ht).2 (.inr (h.fin q hq))
  · rcases List.mem_append.1 hs with hs | hs
    · obtain ⟨q, e, hq⟩ := h.stk s hs; exact ⟨q, e, (set_true ht).2 (.inr hq)⟩
    · simp at hs; exact ⟨t, hs, (set_true ht).2 (.inl rfl)⟩
  · rcases (set_true ht).1 hq with rfl | hq
    · left; simp
    · rcases h.cls q hq with h1 | h1 | h1
      · exact .inl (List.mem_append_left _ h1)
      · exact .inr (.inl h1)
      · exact .inr (.inr fun t' l x hl hx hxq => (set_true ht).2 (.inr (h1 t' l x hl hx hxq)))
theorem Alv.close {A : Aut} {ol : List Bool} {sk : List Int} {q0 : Nat} (h : Alv A ol sk (fun q => q = q0)) (hc : ∀ (t : Nat) l x, A.arcs[t]? = some l → x ∈ l → x.2.2 = (q0 : Int) → ol[t]? = some true) : Alv A ol sk fun _ => False :=
  ⟨h.len, h.snd, h.fin, h.stk, fun q hq => by
    rcases h.cls q hq with h1 | rfl | h1
    · exact .inl h1
    · exact .inr (.inr hc)
    · exact .inr (.inr h1)⟩
structure Finals (A : Aut) (n i : Nat) (ol : List Bool) (es : List Int) : Prop where
  ol : ol = A.fin.take i ++ List.replicate (n - i) false
  snd : ∀ s ∈ es, ∃ q : Nat, s = q ∧ A.fin[q]? = some true
  all : ∀ q : Nat, q < i → A.fin[q]? = some true → (q : Int) ∈ es
  len : es.length ≤ i
theorem Finals.skip {A : Aut} {n i : Nat} {ol : List Bool} {es : List Int} (h : Finals A n i ol es) (hi : A.fin[i]? = some false) (hn : i < n) : Finals A n (i + 1) ol es := by
  refine ⟨?_, h.snd, fun q hq hf => ?_, by have := h.len; omega⟩
  · rw [h.ol, List.take_add_one, hi, show n - i = (n - (i + 1)) + 1 by omega, List.replicate_succ]; simp
  · by_cases hqi : q < i
    · exact h.all q hqi hf
    · obtain rfl : q = i := by omega
      rw [hi] at hf; cases hf
theorem Finals.add {A : Aut} {n i : Nat} {ol : List Bool} {es : List Int} (h : Finals A n i ol es) (hi : A.fin[i]? = some true) (hn : i < n) : Finals A n (i + 1) (ol.set i true) (es ++ [(i : Int)]) := by
  have hil := (List.getElem?_eq_some_iff.1 hi).1
  refine ⟨?_, fun s hs => ?_, fun q hq hf => ?_, by have := h.len; simp; omega⟩
  · rw [h.ol, List.take_add_one, hi, show n - i = (n - (i + 1)) + 1 by omega, List.replicate_succ, List.set_append_right _ _ (by simp; omega)]
    have e : i - (A.fin.take i).length = 0 := by simp; omega
    rw [e]; simp
  · rcases List.mem_append.1 hs with hs | hs
    · exact h.snd s hs
    · simp at hs; exact ⟨i, hs, hi⟩
  · by_cases hqi : q < i
    · exact List.mem_append_left _ (h.all q hqi hf)
    · obtain rfl : q = i := by omega
      simp
theorem Finals.done {A : Aut} {n : Nat} {ol : List Bool} {es : List Int} (h : Finals A n n ol es) (hn : n = A.fin.length) : Alv A ol es fun _ => False := by
  have e : ol = A.fin := by rw [h.ol, hn, List.take_length]; simp
  rw [e]
  refine ⟨rfl, fun q hq => Live.final hq, fun q hq => hq, fun s hs => h.snd s hs, fun q hq => .inl (h.all q (by rw [hn]; exact (List.getElem?_eq_some_iff.1 hq).1) hq)⟩
end Go.Proofs.YtlipmjpapkfaeaaGreatDoor.Fn
end
section
set_option linter.unusedSimpArgs false
set_option linter.unusedVariables false
set_option maxRecDepth 100000
namespace Go.Proofs.YtlipmjpapkfaeaaGreatDoor.Fn
open Go Go.Mach Go.RowKit Go.Proofs
attribute [local irreducible] AOps WPX DOps thenS blockS AOp GOps CPick
theorem Lists.init {h : AHeap} (n : Nat) : Lists h.next (h.new (.cells (repL [.slice none 0 0] n))) (List.replicate n ⟨none, 0, []⟩) :=
  ⟨by have := mk_ow (h := h) (z := .slice none 0 0) n
      rwa [show (List.replicate n (⟨none, 0, []⟩ : LV)).map LV.e = List.replicate n [Value.slice none 0 0] by simp [LV.e, LV.v]], fun i p hp => by
    obtain ⟨_, e⟩ := List.mem_replicate.1 (List.mem_of_getElem? hp); rw [e]; exact OwnV.nil _ _ _, fun i j p q _ hp _ => by
    obtain ⟨_, e⟩ := List.mem_replicate.1 (List.mem_of_getElem? hp); rw [e]; exact Apart.none_l _⟩
set_option maxHeartbeats 8000000 in
theorem f56_ok (W : World) (h : AHeap) (v : Value) (A : Aut) (vf va : Value) (vs : List Value) (hA : AutoV W h v A vf va vs) (w : Wf A) (hn : A.fin.length ≤ 256) (hb : ∀ l ∈ A.arcs, l.length < 1048576) :
    ACalls Tryz.prog W 56 [v] h (fun r h' => (∃ a c ol, r = .slice a A.fin.length c ∧ OwnV h.next h' a c 1 (List.map boolV ol) ∧ ol.length = A.fin.length ∧ ∀ q : Nat, ol[q]? = some true ↔ Live A q) ∧ Keeps h h') := by
  have hA' := hA
  obtain ⟨rfl, hf, ha, hl, he⟩ := hA
  obtain ⟨fa, fc, hfs⟩ := hf.len
  obtain ⟨aa, ac, has⟩ := ha.len
  rw [List.length_map] at hfs has
  rw [hl, w.len] at has
  subst hfs has
  rw [w.len] at hl
  refine ACalls_ofX hmix c56 (Nat.le_of_ble_eq_true rfl) ?_
  unfold r56
  dsimp only [Rc.t, Rc.u, Rc.v, Rc.o, Rc.i, Rc.p, Rc.q, Rc.s, Rc.b, Rc.k, Rc.g, Rc.S, Rc.D]
  simp only [envOf1]
  obtain ⟨n, hnn⟩ : ∃ n, n = A.fin.length := ⟨_, rfl⟩
  rw [← hnn] at hf ha hA' hl hn ⊢
  have hwn : IntKind.i64.wrap (n : Int) = n := wrap_i64 (by omega) (by omega)
  have h0n : (0 : Int) ≤ n := by omega
  have hle : (n : Int) ≤ n := Int.le_refl _
  have h24 : 24 * (n : Int) ≤ 1099511627776 := by omega
  have h1n : 1 * (n : Int) ≤ 1099511627776 := by omega
  have htn : (n : Int).toNat = n := rfl
  have hLi := (Lists.init (h := h.new (.cells [.slice fa n fc, .slice aa n ac])) n)
  rw [AHeap.new_next] at hLi
  have hBi := Before.init A 1048576 n hnn
  have hki : Keeps h ((h.new (.cells [.slice fa n fc, .slice aa n ac])).new (.cells (repL [.slice none 0 0] n))) := ((Keeps.refl h).new _).new _
  have hbi : ((h.new (.cells [.slice fa n fc, .slice aa n ac])).new (.cells (repL [.slice none 0 0] n))).own.get h.next = some (.cells [.slice fa n fc, .slice aa n ac]) := by
    rw [AHeap.new_get, AHeap.new_next, if_neg (by omega), AHeap.new_get, if_pos rfl]
  replace hnn : Hid (n = A.fin.length) := hnn
  repeat refine zs ?_
  refine WPX.loop hmix (fun k σ => ∃ i bl, i ≤ n ∧ k = n - i ∧ eget σ.e 1 = .pointer (some ⟨h.next, 0, some 0⟩) ∧ eget σ.e 3 = .slice (some ⟨h.next + 1, 0, some 0⟩) n 1 ∧ eget σ.e 20 = .slice aa n ac ∧ eget σ.e 21 = .int .i64 n ∧ eget σ.e 22 = .int .i64 (i : Nat) ∧
    σ.h.own.get h.next = some (.cells [.slice fa n fc, .slice aa n ac]) ∧ Keeps h σ.h ∧ Lists (h.next + 1) σ.h bl ∧ Before A 1048576 i 0 bl) n ?h0 ?round
  case h0 => exact ⟨0, _, Nat.zero_le _, rfl, zv, zv, zv, zv, zv, hbi, hki, hLi, hBi⟩
  clear hbi hki hLi hBi
  rintro k ⟨e, hh⟩ ⟨i, bl, hi, rfl, e1, e3, e20, e21, e22, hbx, hk, hL, hB⟩
  dsimp only at e1 e3 e20 e21 e22 hbx hk hL
  by_cases hlt : i < n
  · have hltI : (i : Int) < n := by omega
    obtain ⟨l, hll⟩ : ∃ l, A.arcs[i]? = some l := ⟨_, List.getElem?_eq_getElem (by rw [w.len, ← hnn.out]; exact hlt)⟩
    obtain ⟨x, hxs⟩ : ∃ x, vs[i]? = some x := ⟨_, List.getElem?_eq_getElem (show i < vs.length by omega)⟩
    have hxm : (vs.map fun x => [x])[i]? = some [x] := by simp [hxs]
    obtain ⟨a, ha1, _, ha3⟩ := (ha.keeps hk).at hxm
    have hrd := (ha3 0 x rfl).1
    have haa : aadd a 0 = a := rfl
    rw [haa] at hrd
    have hsl := he i x l hxs hll
    obtain ⟨la, lc, hls⟩ := hsl.len
    rw [List.length_map] at hls
    subst hls
    have hlm := List.mem_of_getElem? hll
    have hbl := hb l hlm
    have hw1 : IntKind.i64.wrap ((i : Int) + 1) = ((i + 1 : Nat) : Int) := wrap_i64 (by omega) (by omega)
    clear ha3 hxm hxs
    repeat refine zs ?_
    refine WPX.loop hmix (fun m σ => ∃ j bl, j ≤ l.length ∧ m = l.length - j ∧ eget σ.e 1 = .pointer (some ⟨h.next, 0, some 0⟩) ∧ eget σ.e 3 = .slice (some ⟨h.next + 1, 0, some 0⟩) n 1 ∧ eget σ.e 4 = .int .i64 (i : Nat) ∧ eget σ.e 20 = .slice aa n ac ∧ eget σ.e 21 = .int .i64 n ∧ eget σ.e 22 = .int .i64 (i : Nat) ∧
      eget σ.e 27 = .slice la l.length lc ∧ eget σ.e 28 = .int .i64 l.length ∧ eget σ.e 29 = .int .i64 (j : Nat) ∧ σ.h.own.get h.next = some (.cells [.slice fa n fc, .slice aa n ac]) ∧ Keeps h σ.h ∧ Lists (h.next + 1) σ.h bl ∧ Before A 1048576 i j bl) l.length ?h1 ?round1
    case h1 => exact ⟨0, bl, Nat.zero_le _, rfl, zv, zv, zv, zv, zv, zv, zv, zv, zv, hbx, hk, hL, hB⟩
    clear e1 e3 e20 e21 e22 hbx hk hL hB hrd ha1
    rintro m ⟨e', g⟩ ⟨j, bl, hj, rfl, q1, q3, q4, q20, q21, q22, q27, q28, q29, hbx, hk, hL, hB⟩
    dsimp only at q1 q3 q4 q20 q21 q22 q27 q28 q29 hbx hk hL
    by_cases hjl : j < l.length
    · have hjlI : (j : Int) < l.length := by omega
      obtain ⟨⟨f, t, s⟩, hx⟩ : ∃ x, l[j]? = some x := ⟨_, List.getElem?_eq_getElem hjl⟩
      have hxr := (w.range hlm (List.mem_of_getElem? hx)).2
      simp only at hxr
      obtain ⟨r, rfl⟩ : ∃ r : Nat, s = r := ⟨s.toNat, by omega⟩
      obtain ⟨p, hp⟩ : ∃ p, bl[r]? = some p := ⟨_, List.getElem?_eq_getElem (by rw [hB.len]; omega)⟩
      have hxj : (l.map arcV)[j]? = some (arcV (f, t, (r : Int))) := by simp [hx]
      obtain ⟨b, hb1, _, hb3⟩ := (hsl.keeps hk).at hxj
      have hld := aloadN_of _ _ hb3
      simp only [arcV, List.length_cons, List.length_nil, Nat.reduceAdd] at hld
      have hw2 : IntKind.i64.wrap ((j : Int) + 1) = ((j + 1 : Nat) : Int) := wrap_i64 (by omega) (by omega)
      obtain ⟨H1, hH1⟩ : ∃ H1, H1 = (g.new (.cells [.int .i32 0, .int .i32 0, .int .i64 0])).put g.next (.cells [.int .i32 f, .int .i32 t, .int .i64 r]) := ⟨_, rfl⟩
      have hkk : Keeps g H1 := by rw [hH1]; exact ((Keeps.refl g).new _).put (Nat.le_refl _) _
      have hn1 : H1.next = g.next + 1 := by rw [hH1]; rfl
      have hg1 : H1.own.get g.next = some (.cells [.int .i32 f, .int .i32 t, .int .i64 r]) := by rw [hH1, AHeap.put_get, if_pos rfl]
      have hlb := hL.ow.lt
      have hrl := (List.getElem?_eq_some_iff.1 hp).1
      have hps := hB.sz r p hp
      obtain ⟨a', c', h3, happ, hk3, ⟨C, hC, hble, C2, hsp, hL2⟩, hn3, hsame⟩ := (hL.keeps hkk).push (W := W) (h0 := h) (hk.trans hkk) (by omega) hp (i : Int) (by omega)
      have hpl := fun x (hx : p.a = some x) => (hL.own r p hp).lt hx
      have hg3 : h3.own.get g.next = some (.cells [.int .i32 f, .int .i32 t, .int .i64 r]) := by
        rw [hsame g.next (by omega) (fun x hx => by have := (hpl x hx).2; omega)]; exact hg1
      have hbx3 : h3.own.get h.next = some (.cells [.slice fa n fc, .slice aa n ac]) := by
        rw [hsame h.next (by omega) (fun x hx => by have := (hpl x hx).1; omega), hkk.same _ (by omega)]; exact hbx
      have hB2 := hB.step hll hx rfl hp a' c'
      obtain ⟨C0, hC0⟩ : ∃ C0, C0 = (bl.map LV.e).flatten := ⟨_, rfl⟩
      have hC0g : g.own.get (h.next + 1) = some (.cells C0) := by rw [hC0]; exact hL.ow.get
      have hC0r : C0[r * 1]? = some (.slice p.a p.l.length p.c) := by
        have := flat_get (j := 0) hL.ow.len (show (bl.map LV.e)[r]? = some p.e by simp [hp]) (by omega)
        rw [Nat.add_zero] at this
        rw [hC0, this]; rfl
      have hidx : idxV 1 (.slice (some ⟨h.next + 1, 0, some 0⟩) n 1) (.int .i64 r) = some (.pointer (some ⟨h.next + 1, r * 1, some 0⟩)) := idx_own (by have := hB.len; have := hnn.out; omega)
      have hne1 : ¬ h.next + 1 = g.next := by omega
      have hne2 : ¬ h.next + 1 = g.next + 1 := by omega
      have hne3 : ¬ h.next = g.next := by omega
      have hkf : Keeps h (h3.put (h.next + 1) (.cells C2)) := hk3.put (by omega) _
      have hbxf : (h3.put (h.next + 1) (.cells C2)).own.get h.next = some (.cells [.slice fa n fc, .slice aa n ac]) := by rw [AHeap.put_get, if_neg (by omega)]; exact hbx3
      rw [hn1] at happ
      rw [hH1] at happ
      clear hb3 hxj hx hL hB hC0 hH1 hkk hn1 hg1 hsame hpl hps hk3
      repeat refine zs ?_
      refine x_draws (d_eff (by kernel_rfl) ?_)
      repeat refine zs ?_
      refine aop_do zr ?_
      refine d_chk (by kernel_rfl) ?chk1 ?_
      case chk1 =>
        intro o ho
        simp only [List.mem_cons, List.not_mem_nil, or_false] at ho
        rcases ho with rfl | rfl | rfl | rfl | rfl | rfl | rfl | rfl <;> simp only [Chk, kindOf, dval, rop, opd, celsL, oneV, aadd, binV, isSh, intBin, scEq, keq, unV, fillL, oP, oA, oS, wantedA, BX, BL, BS, seval, *]
      refine aop_do zr ?_
      refine d_next (by kernel_rfl) (by kernel_rfl) ?_
      repeat refine zs ?_
      refine ⟨?chk2, ?_⟩
      case chk2 =>
        intro o ho
        simp only [List.mem_cons, List.not_mem_nil, or_false] at ho
        rcases ho with rfl | rfl | rfl | rfl <;> simp only [Chk, kindOf, dval, rop, opd, celsL, oneV, aadd, binV, isSh, intBin, scEq, keq, unV, fillL, oP, oA, oS, wantedA, BX, BL, BS, seval, *]
      show AOp _ _ _ _ _
      refine aop_do zr ?_
      refine d_end ?_
      repeat refine zs ?_
      exact ⟨l.length - (j + 1), by omega, j + 1, _, by omega, rfl, zv, zv, zv, zv, zv, zv, zv, zv, zv, hbxf, hkf, hL2, hB2⟩
    · have hjlI : ¬ (j : Int) < l.length := by omega
      obtain rfl : j = l.length := by omega
      have hB2 := hB.row hll (by omega)
      clear hB
      repeat refine zs ?_
      exact ⟨n - (i + 1), by omega, i + 1, bl, by omega, rfl, zv, zv, zv, zv, zv, hbx, hk, hL, hB2⟩
  · have hltI : ¬ (i : Int) < n := by omega
    have hin : n = i := by omega
    subst hin
    have hbxn : h.next < hh.next := by have := hL.ow.lt; omega
    have hne : ¬ h.next = hh.next := by omega
    have howi := mk_ow (h := hh) (z := .bool false) n
    have hF0 : Finals A n 0 (List.replicate n false) [] := ⟨by simp, fun s hs => by simp at hs, fun q hq => by omega, by simp⟩
    have ho0 : Ow (hh.new (.cells (repL [.bool false] n))) hh.next 1 ((List.replicate n false).map boolV) := by simpa [boolV] using howi
    have hk0 : Keeps hh (hh.new (.cells (repL [.bool false] n))) := (Keeps.refl hh).new _
    have hs0 : StkV (hh.next + 1) (hh.new (.cells (repL [.bool false] n))) none 0 0 (([] : List Int).map numV) := ⟨OwnV.nil _ _ _, by simp⟩
    have hnlt : ¬ (n : Int) < n := by omega
    clear howi hltI hlt hi
    repeat refine zs ?_
    refine WPX.loop hmix (fun k σ => ∃ i ol es a c, i ≤ n ∧ k = n - i ∧ eget σ.e 3 = .slice (some ⟨h.next + 1, 0, some 0⟩) n 1 ∧ eget σ.e 8 = .slice (some ⟨hh.next, 0, some 0⟩) n 1 ∧ eget σ.e 9 = .slice a (List.length es) c ∧
      eget σ.e 52 = .slice fa n fc ∧ eget σ.e 53 = .int .i64 n ∧ eget σ.e 54 = .int .i64 (i : Nat) ∧ Keeps hh σ.h ∧ Ow σ.h hh.next 1 (List.map boolV ol) ∧ StkV (hh.next + 1) σ.h a (List.length es) c (es.map numV) ∧ Finals A n i ol es) n ?h2 ?round2
    case h2 => exact ⟨0, _, [], none, 0, Nat.zero_le _, rfl, zv, zv, (by simp only [rop, opd, celsL, oneV, aadd, binV, isSh, intBin, scEq, keq, unV, fillL, oP, oA, oS, wantedA, BX, BL, BS, seval, *, List.length_nil]), zv, zv, zv, hk0, ho0, hs0, hF0⟩
    clear e1 e3 e20 e21 e22 hF0 ho0 hk0 hs0 hne
    rintro k ⟨e', g⟩ ⟨i, ol, es, a, c, hi, rfl, q3, q8, q9, q52, q53, q54, hk2, ho, hs, hF⟩
    dsimp only at q3 q8 q9 q52 q53 q54 hk2 ho hs
    have hkg : Keeps h g := hk.trans hk2
    have holl : ol.length = n := by rw [hF.ol]; simp; have := hnn.out; omega
    replace holl : Hid (ol.length = n) := holl
    by_cases hlt : i < n
    · have hltI : (i : Int) < n := by omega
      obtain ⟨b0, hb0⟩ : ∃ b, A.fin[i]? = some b := ⟨_, List.getElem?_eq_getElem (by rw [← hnn.out]; exact hlt)⟩
      have hxm : (A.fin.map fun b => [Value.bool b])[i]? = some [.bool b0] := by simp [hb0]
      obtain ⟨d, hd1, _, hd3⟩ := (hf.keeps hkg).at hxm
      have hrd := (hd3 0 (.bool b0) rfl).1
      have hdd : aadd d 0 = d := rfl
      rw [hdd] at hrd
      have hw1 : IntKind.i64.wrap ((i : Int) + 1) = ((i + 1 : Nat) : Int) := wrap_i64 (by omega) (by omega)
      clear hd3 hxm
      cases b0 with
      | false =>
        have hF2 := hF.skip hb0 hlt
        clear hF hb0
        repeat refine zs ?_
        exact ⟨n - (i + 1), by omega, i + 1, ol, es, a, c, by omega, rfl, zv, zv, zv, zv, zv, zv, hk2, ho, hs, hF2⟩
      | true =>
        have hF2 := hF.add hb0 hlt
        have hesl := hF.len
        obtain ⟨C, hC, hble, C2, hsp, ho2⟩ := ho.set1 (f := boolV) (fun x => rfl) (i := i) (by have := holl.out; omega) true
        simp only [boolV] at hsp
        have hidx : idxV 1 (.slice (some ⟨hh.next, 0, some 0⟩) n 1) (.int .i64 i) = some (.pointer (some ⟨hh.next, i * 1, some 0⟩)) := idx_own hlt
        have hgn : hh.next < g.next := ho.lt
        have hs2 : StkV (hh.next + 1) (g.put hh.next (.cells C2)) a (List.length es) c (es.map numV) := ⟨hs.1.same (fun j hj _ => by rw [AHeap.put_get, if_neg (by omega)]) (Nat.le_refl _), hs.2⟩
        have hkp : Keeps hh (g.put hh.next (.cells C2)) := hk2.put (Nat.le_refl _) _
        obtain ⟨a', c', h3, happ, hs3, hk3, hn3, hsame, _⟩ := StkV.app (W := W) (h0 := hh) (h := (g.put hh.next (.cells C2)).new (.cells (numV i))) (b' := g.next) (e := numV i) ⟨hs2.1.keeps ((Keeps.refl _).new _), hs2.2⟩ (hkp.new _) (by omega)
          (by rw [AHeap.new_next, AHeap.put_next]; omega) (by rw [AHeap.new_get, AHeap.put_next, if_pos rfl]) (by rw [AHeap.new_next, AHeap.put_next]; omega) rfl rfl (by omega)
        have ho3 : Ow h3 hh.next 1 ((ol.set i true).map boolV) := ho2.same (by rw [hsame hh.next (by rw [AHeap.new_next, AHeap.put_next]; omega) (hs2.1.notOld (by omega)), AHeap.new_get, AHeap.put_next, if_neg (by omega)]) (by rw [hn3, AHeap.new_next]; omega)
        have hs4 : StkV (hh.next + 1) h3 a' (es.length + 1) c' ((es ++ [(i : Int)]).map numV) := by
          have e1 : (es.map numV).take es.length ++ [numV i] = (es ++ [(i : Int)]).map numV := by
            rw [List.take_of_length_le (by simp)]; simp
          rw [← e1]; exact hs3
        obtain ⟨es', hes'⟩ : ∃ es', es' = es ++ [(i : Int)] := ⟨_, rfl⟩
        have hel : es.length + 1 = es'.length := by rw [hes']; simp
        rw [← hes'] at hs4 hF2
        rw [hel] at hs4 happ
        simp only [numV] at happ
        clear hF hb0 hs3 hs2 ho2 hsame hes' hkp hesl
        replace hel : Hid (es.length + 1 = es'.length) := hel
        repeat refine zs ?_
        exact ⟨n - (i + 1), by omega, i + 1, _, es', a', c', by omega, rfl, zv, zv, zv, zv, zv, zv, hk3, ho3, hs4, hF2⟩
    · have hltI : ¬ (i : Int) < n := by omega
      have hin : i = n := by omega
      rw [hin] at hF
      have hAl := hF.done hnn.out
      have hs' : StkV (hh.next + 1) g a (List.length es) c (es.map numV) ∧ Alv A ol (es.take es.length) fun _ => False := ⟨hs, by rw [List.take_length]; exact hAl⟩
      obtain ⟨m, hm⟩ : ∃ m, m = es.length := ⟨_, rfl⟩
      rw [← hm] at hs' q9
      have hm1000 : 2 * cntF ol + m ≤ 1000 := by have h1 := cntF_le ol; have h2 := holl.out; have h3 := hF.len; omega
      clear hin hF hAl hs hm
      repeat refine zs ?_
      refine WPX.loop hmix (fun k σ => ∃ ol es a c m, k = 2 * cntF ol + m ∧ 2 * cntF ol + m ≤ 1000 ∧ eget σ.e 3 = .slice (some ⟨h.next + 1, 0, some 0⟩) n 1 ∧ eget σ.e 8 = .slice (some ⟨hh.next, 0, some 0⟩) n 1 ∧ eget σ.e 9 = .slice a m c ∧
        Keeps hh σ.h ∧ Ow σ.h hh.next 1 (List.map boolV ol) ∧ StkV (hh.next + 1) σ.h a m c (List.map numV es) ∧ Alv A ol (es.take m) fun _ => False) (2 * cntF ol + m) ?h3 ?round3
      case h3 => exact ⟨ol, es, a, c, m, rfl, hm1000, zv, zv, zv, hk2, ho, hs'.1, hs'.2⟩
      clear q3 q8 q9 q52 q53 q54 hk2 ho hs' hkg holl
      rintro K ⟨e3, g3⟩ ⟨ol, es, a, c, m, rfl, hm1000, q3, q8, q9, hk2, ho, hs, hAl⟩
      dsimp only at q3 q8 q9 hk2 ho hs
      by_cases hm0 : m = 0
      · subst hm0
        have hgt : ¬ (((0 : Nat) : Int) > 0) := by omega
        rw [List.take_zero] at hAl
        have hfin : (∃ a c ol', Value.slice (some ⟨hh.next, 0, some 0⟩) n 1 = .slice a n c ∧ OwnV h.next g3 a c 1 (List.map boolV ol') ∧ ol'.length = n ∧ ∀ q : Nat, ol'[q]? = some true ↔ Live A q) ∧ Keeps h g3 :=
          ⟨⟨_, _, ol, rfl, .inr ⟨hh.next, rfl, rfl, by omega, ho⟩, by rw [hAl.len]; exact hnn.out.symm, hAl.done w⟩, hk.trans hk2⟩
        repeat refine zs ?_
        refine ⟨.inr rfl, _, rfl, ?_⟩
        simp only [resOf, rop, opd, celsL, oneV, aadd, binV, isSh, intBin, scEq, keq, unV, fillL, oP, oA, oS, wantedA, BX, BL, BS, seval]
        exact hfin
      · obtain ⟨m', rfl⟩ : ∃ m', m = m' + 1 := ⟨m - 1, by omega⟩
        have hgt : (((m' + 1 : Nat) : Int) > 0) := by omega
        obtain ⟨b, q, C, rfl, rfl, hq, hidx, hC, hCm⟩ := hs.top
        obtain ⟨hslc, hs1⟩ := hs.pop
        have hwm : IntKind.i64.wrap (((m' + 1 : Nat) : Int) - 1) = (m' : Int) := (wrap_i64 (by omega) (by omega)).trans (by omega)
        obtain ⟨q0, rfl⟩ : ∃ q0 : Nat, q = q0 := by
          obtain ⟨q0, e, _⟩ := hAl.stk q (by rw [List.take_add_one, hq]; simp)
          exact ⟨q0, e⟩
        obtain ⟨hAl1, hq0⟩ := hAl.pop hq
        have hq0n : q0 < n := by have := (List.getElem?_eq_some_iff.1 hq0).1; rw [hAl.len, ← hnn.out] at this; exact this
        obtain ⟨p, hp⟩ : ∃ p, bl[q0]? = some p := ⟨_, List.getElem?_eq_getElem (by rw [hB.len, ← hnn.out]; exact hq0n)⟩
        have hLg := hL.keeps hk2
        obtain ⟨C0, hC0, hC0q⟩ := hLg.ow.get1 (f := LV.e) hp rfl
        have hidx0 : idxV 1 (.slice (some ⟨h.next + 1, 0, some 0⟩) n 1) (.int .i64 q0) = some (.pointer (some ⟨h.next + 1, q0 * 1, some 0⟩)) := idx_own hq0n
        have hps := hB.sz q0 p hp
        have hlive := hAl.snd q0 hq0
        simp only [LV.v] at hC0q
        obtain ⟨K0, hK0⟩ : ∃ K0, K0 = 2 * cntF ol + m' := ⟨_, rfl⟩
        have hK0l : 2 * cntF ol + m' ≤ K0 := by omega
        have hK1 : K0 < 2 * cntF ol + (m' + 1) := by omega
        have hK2 : K0 ≤ 999 := by omega
        obtain ⟨Kx, hKx⟩ : ∃ Kx, Kx = 2 * cntF ol + (m' + 1) := ⟨_, rfl⟩
        rw [← hKx] at hK1 ⊢
        clear hq hs hAl hK0 hKx hm0 hm1000
        have hom1 : ∀ (f : Operand → Value) (x : Operand), (some x).map f = some (f x) := fun _ _ => rfl
        have hom0 : ∀ (f : Operand → Value), (none : Option Operand).map f = none := fun _ => rfl
        repeat refine zs ?_
        refine WPX.loop hmix (fun k σ => ∃ j ol es a c m, j ≤ p.l.length ∧ k = p.l.length - j ∧ eget σ.e 3 = .slice (some ⟨h.next + 1, 0, some 0⟩) n 1 ∧ eget σ.e 8 = .slice (some ⟨hh.next, 0, some 0⟩) n 1 ∧ eget σ.e 9 = .slice a m c ∧
          eget σ.e 85 = .slice p.a p.l.length p.c ∧ eget σ.e 86 = .int .i64 p.l.length ∧ eget σ.e 87 = .int .i64 (j : Nat) ∧ Keeps hh σ.h ∧ Ow σ.h hh.next 1 (List.map boolV ol) ∧ StkV (hh.next + 1) σ.h a m c (List.map numV es) ∧
          Alv A ol (es.take m) (fun q => q = q0) ∧ (∀ s ∈ p.l.take j, ∃ t : Nat, s = t ∧ ol[t]? = some true) ∧ 2 * cntF ol + m ≤ K0) p.l.length ?h4 ?round4
        case h4 => exact ⟨0, ol, es, _, _, m', Nat.zero_le _, rfl, zv, zv, zv, zv, zv, zv, hk2, ho, hs1, hAl1, (fun s hs => by simp at hs), hK0l⟩
        clear q3 q8 q9 hk2 ho hs1 hAl1 hK0l hidx hC hCm hslc hwm hC0 hC0q hidx0
        rintro k ⟨e4, g4⟩ ⟨j, ol2, es2, a2, c2, m2, hj, rfl, q3, q8, q9, q85, q86, q87, hk4, ho4, hs4, hAl4, hpj, hK4⟩
        dsimp only at q3 q8 q9 q85 q86 q87 hk4 ho4 hs4
        have hol2 : ol2.length = n := by rw [hAl4.len]; exact hnn.out.symm
        replace hol2 : Hid (ol2.length = n) := hol2
        by_cases hjl : j < p.l.length
        · have hjlI : (j : Int) < p.l.length := by omega
          obtain ⟨s, hsj⟩ : ∃ s, p.l[j]? = some s := ⟨_, List.getElem?_eq_getElem hjl⟩
          obtain ⟨t, rfl, l, hl2, x, hx2, hxq⟩ := hB.snd q0 p hp s (List.mem_of_getElem? hsj)
          have htn : t < n := by have := (List.getElem?_eq_some_iff.1 hl2).1; rw [w.len, ← hnn.out] at this; exact this
          have htl : Live A t := Live.pred w hl2 hx2 (by rw [hxq]; exact hlive)
          have hxm : (p.l.map numV)[j]? = some (numV t) := by simp [hsj]
          obtain ⟨d, hd1, _, hd3⟩ := ((hL.keeps hk4).own q0 p hp).sl (W := W) |>.at hxm
          rw [List.length_map] at hd1
          have hrd := (hd3 0 (.int .i64 t) rfl).1
          have hdd : aadd d 0 = d := rfl
          rw [hdd] at hrd
          obtain ⟨bt, hbt⟩ : ∃ b, ol2[t]? = some b := ⟨_, List.getElem?_eq_getElem (by rw [hol2.out]; exact htn)⟩
          obtain ⟨C, hC, hCt⟩ := ho4.get1 (f := boolV) hbt rfl
          have hidx : idxV 1 (.slice (some ⟨hh.next, 0, some 0⟩) n 1) (.int .i64 t) = some (.pointer (some ⟨hh.next, t * 1, some 0⟩)) := idx_own htn
          have hw1 : IntKind.i64.wrap ((j : Int) + 1) = ((j + 1 : Nat) : Int) := wrap_i64 (by omega) (by omega)
          have hpt : ∀ ol' : List Bool, (∀ q : Nat, ol2[q]? = some true → ol'[q]? = some true) → ol'[t]? = some true → ∀ s ∈ p.l.take (j + 1), ∃ t : Nat, s = t ∧ ol'[t]? = some true := fun ol' h1 h2 s hs => by
            rw [List.take_add_one, hsj] at hs
            rcases List.mem_append.1 hs with hs | hs
            · obtain ⟨t', e, ht'⟩ := hpj s hs; exact ⟨t', e, h1 t' ht'⟩
            · simp at hs; exact ⟨t, hs, h2⟩
          clear hxm hd3 hsj hxq hx2 hl2
          cases bt with
          | true =>
            have hpj' := hpt ol2 (fun _ h => h) hbt
            clear hpt hpj hbt
            repeat refine zs ?_
            exact ⟨p.l.length - (j + 1), by omega, j + 1, ol2, es2, a2, c2, m2, by omega, rfl, zv, zv, zv, zv, zv, zv, hk4, ho4, hs4, hAl4, hpj', hK4⟩
          | false =>
            have hAl5 := hAl4.push (t := t) (by rw [hol2.out]; exact htn) htl
            have hcnt := cntF_set hbt
            have hpj' := hpt (ol2.set t true) (fun q hq => (set_true (by rw [hol2.out]; exact htn)).2 (.inr hq)) ((set_true (by rw [hol2.out]; exact htn)).2 (.inl rfl))
            obtain ⟨C', hC', hble, C2, hsp, ho5⟩ := ho4.set1 (f := boolV) (fun x => rfl) (i := t) (by rw [hol2.out]; exact htn) true
            rw [hC] at hC'
            cases hC'
            simp only [boolV] at hsp
            have hgn : hh.next < g4.next := ho4.lt
            have hs5 : StkV (hh.next + 1) (g4.put hh.next (.cells C2)) a2 m2 c2 (List.map numV es2) := ⟨hs4.1.same (fun j hj _ => by rw [AHeap.put_get, if_neg (by omega)]) (Nat.le_refl _), hs4.2⟩
            have hkp : Keeps hh (g4.put hh.next (.cells C2)) := hk4.put (Nat.le_refl _) _
            obtain ⟨a', c', h3, happ, hs6, hk6, hn3, hsame, _⟩ := StkV.app (W := W) (h0 := hh) (h := (g4.put hh.next (.cells C2)).new (.cells (numV t))) (b' := g4.next) (e := numV t) ⟨hs5.1.keeps ((Keeps.refl _).new _), hs5.2⟩ (hkp.new _) (by omega)
              (by rw [AHeap.new_next, AHeap.put_next]; omega) (by rw [AHeap.new_get, AHeap.put_next, if_pos rfl]) (by rw [AHeap.new_next, AHeap.put_next]; omega) rfl rfl (by omega)
            have ho6 : Ow h3 hh.next 1 ((ol2.set t true).map boolV) := ho5.same (by rw [hsame hh.next (by rw [AHeap.new_next, AHeap.put_next]; omega) (hs5.1.notOld (by omega)), AHeap.new_get, AHeap.put_next, if_neg (by omega)]) (by rw [hn3, AHeap.new_next]; omega)
            have hesm : m2 ≤ es2.length := by have := hs4.2; simpa using this
            obtain ⟨es', hes'⟩ : ∃ es', es' = es2.take m2 ++ [(t : Int)] := ⟨_, rfl⟩
            have hs7 : StkV (hh.next + 1) h3 a' (m2 + 1) c' (List.map numV es') := by
              rw [hes', List.map_append, List.map_take]; exact hs6
            have hAl6 : Alv A (ol2.set t true) (es'.take (m2 + 1)) (fun q => q = q0) := by
              rw [hes', List.take_of_length_le (by simp; omega)]; exact hAl5
            simp only [numV] at happ
            have hnee : ¬ hh.next = g4.next := by omega
            clear hpt hpj hbt hs6 hs5 ho5 hsame hes' hkp hAl5 hesm hs4 hAl4
            repeat refine zs ?_
            exact ⟨p.l.length - (j + 1), by omega, j + 1, _, es', a', c', m2 + 1, by omega, rfl, zv, zv, zv, zv, zv, zv, hk6, ho6, hs7, hAl6, hpj', by omega⟩
        · have hjlI : ¬ (j : Int) < p.l.length := by omega
          rw [List.take_of_length_le (by omega)] at hpj
          have hAl5 := hAl4.close (fun t l x hl2 hx2 hxq => by
            have hm := hB.all q0 p hp t l x hl2 (.inl ⟨by have := (List.getElem?_eq_some_iff.1 hl2).1; rw [w.len, ← hnn.out] at this; exact this, hx2⟩) hxq
            obtain ⟨t', e, ht'⟩ := hpj _ hm
            have : t = t' := by omega
            rw [this]; exact ht')
          clear hpj hAl4
          repeat refine zs ?_
          exact ⟨2 * cntF ol2 + m2, by omega, ol2, es2, a2, c2, m2, rfl, by omega, zv, zv, zv, hk4, ho4, hs4, hAl5⟩
end Go.Proofs.YtlipmjpapkfaeaaGreatDoor.Fn
end
