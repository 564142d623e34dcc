/- automaton.minimal (F44) in the machine: it answers the canonical automaton. No condition but sizes.
Merged from 2 texts. -/
import Derived.Test.YtlipmjpapkfaeaaGreatDoorZC31
section
set_option linter.unusedSimpArgs false
set_option linter.unusedVariables false
set_option maxRecDepth 100000
namespace Go.Proofs.YtlipmjpapkfaeaaGreatDoor.Fn
open Go Go.Mach Go.RowKit Go.Proofs
attribute [local irreducible] AOps WPX DOps thenS blockS AOp GOps CPick

theorem keyA_len {E : Int → List Arc3} {F : Int → Bool} {D : Int → Prop} {k0 : Int} {N : Nat} (K : Keyed2 E F D k0 N) : ∀ l ∈ (keyA E F k0 N).arcs, ∃ k, D k ∧ l.length ≤ (E k).length := by
  intro l hl
  obtain ⟨i, hi⟩ := List.mem_iff_getElem?.1 hl
  have hlt : i < N := by
    have := (List.getElem?_eq_some_iff.1 hi).1
    rwa [show (keyA E F k0 N).arcs.length = N from rounds_arcs K.fin N (Nat.le_refl _)] at this
  obtain ⟨k, h1, h2, h3, h4⟩ := rounds_arc K.fin hlt
  have hD := rounds_keys K.d0 K.dE N k (List.mem_of_getElem? h1)
  rw [show (keyA E F k0 N).arcs[i]? = (rounds E k0 N).2[i]? from rfl, h3] at hi
  cases hi
  have := (expFold_len (E k) ((rounds E k0 i).1, [])).1
  simp only [List.length_nil, Nat.zero_add] at this
  exact ⟨k, hD, this⟩

set_option maxHeartbeats 8000000 in
theorem f44_ok (W : World) (h : AHeap) (v : Value) (A : Aut) (vf va : Value) (vs : List Value) (limit : Int) (hA : AutoV W h v A vf va vs) (w : Wf A) (hn0 : 0 < A.fin.length) (hn : A.fin.length ≤ 256) (hb : ∀ l ∈ A.arcs, l.length < 1048576) (hlim : (A.fin.length : Int) ≤ limit) (hlimit : limit < 1048576) :
    ACalls Tryz.prog W 44 [v, .int .i64 limit] h (fun r h' => ∃ M vf va vs, r = .tuple #[.agg #[vf, va], .bool true] ∧ Canon M ∧ (∀ cs, acc M 0 cs = acc A 0 cs) ∧ (M.fin.length ≤ A.fin.length ∧ ∀ l ∈ M.arcs, l.length < 1048576) ∧ FreshA W h.next h' M vf va vs ∧ Keeps h h') := by
  have hA' := hA
  obtain ⟨rfl, hf, ha, hl, he⟩ := hA
  obtain ⟨fa, fc, hfs⟩ := hf.len
  obtain ⟨aa, ac, has⟩ := ha.len
  rw [List.length_map] at hfs has
  rw [hl, w.len] at has
  subst hfs has
  rw [w.len] at hl
  refine ACalls_ofX hmix c44 (Nat.le_of_ble_eq_true rfl) ?_
  unfold r44
  simp only [envOf2]
  obtain ⟨n, hnn⟩ : ∃ n, n = A.fin.length := ⟨_, rfl⟩
  obtain ⟨H, hH⟩ : ∃ H, H = (h.new (.cells [.slice fa n fc, .slice aa n ac])).new (.cells [.slice none 0 0, .slice none 0 0]) := ⟨_, rfl⟩
  have hHn : H.next = h.next + 2 := by rw [hH]; rfl
  have hkH : Keeps h H := by rw [hH]; exact ((Keeps.refl h).new _).new _
  have hbH : H.own.get h.next = some (.cells [.slice fa n fc, .slice aa n ac]) := by rw [hH, AHeap.new_get, AHeap.new_next, if_neg (by omega), AHeap.new_get, if_pos rfl]
  have hb4 : H.own.get (h.next + 1) = some (.cells [.slice none 0 0, .slice none 0 0]) := by rw [hH, AHeap.new_get, AHeap.new_next, if_pos rfl]
  have h78 := f78_ok W H _ A _ _ vs limit (hA'.keeps hkH) w hn hb hlim
  rw [← hnn] at hf ha hA' hl hn hn0 h78 hlim ⊢
  have hldH : aloadN W H ⟨h.next, 0, some 0⟩ 2 = some [.slice fa n fc, .slice aa n ac] := aload2 hbH
  rw [hH] at h78 hldH
  replace hnn : Hid (n = A.fin.length) := hnn
  repeat (first | (with_reducible first | apply x_seq | apply x_block | apply x_region | apply x_exit | apply x_ret | apply x_skip | apply t_normal | apply t_exit | apply t_ret | apply b_normal | apply b_ret | apply b_same | apply ops_nil | apply g_T | apply g_F | apply c_T | apply c_F) | (with_reducible refine b_other (by decide) ?_) | ((with_reducible apply x_draws); (with_reducible apply d_pure); (next => kernel_rfl)) | ((with_reducible first | apply ops_d | apply ops_g | apply x_c); (next => simp only [rop, opd, celsL, oneV, aadd, binV, isSh, intBin, scEq, keq, unV, fillL, oP, oA, oS, wantedA, BX, BL, BS, seval, *]; with_reducible exact rfl)))
  refine ops_callK (by simp only [rop, opd, celsL, oneV, aadd, binV, isSh, intBin, scEq, keq, unV, fillL, oP, oA, oS, wantedA, BX, BL, BS, seval, *]) (by simp only [List.map_cons, List.map_nil, rop, opd, celsL, oneV, aadd, binV, isSh, intBin, scEq, keq, unV, fillL, oP, oA, oS, wantedA, BX, BL, BS, seval, *]) h78 ?_
  rintro r1 h1 ⟨⟨ca, cc, cl, rfl, hoc, hCl⟩, hk1⟩
  rw [← hH] at hk1 hoc
  have hcl : cl.length = n := by rw [hCl.len]; exact hnn.out.symm
  have hk01 : Keeps h h1 := hkH.trans hk1
  have hlt1 : h.next + 1 < h1.next := by have := hk1.le; omega
  have hb1 : h1.own.get h.next = some (.cells [.slice fa n fc, .slice aa n ac]) := by rw [hk1.same _ (by omega)]; exact hbH
  have hb41 : h1.own.get (h.next + 1) = some (.cells [.slice none 0 0, .slice none 0 0]) := by rw [hk1.same _ (by omega)]; exact hb4
  have hcs := hoc.sl (W := W)
  rw [List.length_map, hcl] at hcs
  have hc0 : (cl.map numV)[0]? = some (numV (cl.getD 0 (-1))) := by
    have : 0 < cl.length := by omega
    simp [List.getD, this]
  obtain ⟨d, hd1, _, hd3⟩ := hcs.at hc0
  have hr0 := (hd3 0 (.int .i64 (cl.getD 0 (-1))) rfl).1
  have hdd : aadd d 0 = d := rfl
  rw [hdd] at hr0
  have hd10 : idxV 1 (.slice ca n cc) (.int .i64 0) = some (.pointer (some d)) := hd1
  obtain ⟨k0, hk0⟩ : ∃ k0, k0 = cl.getD 0 (-1) := ⟨_, rfl⟩
  rw [← hk0] at hr0
  have hspot : d.spot ≠ none → d.block < h1.next := (hd3 0 (.int .i64 (cl.getD 0 (-1))) rfl).2
  have hr0k : ∀ g, Keeps h1 g → aload1 W g d = some (.int .i64 k0) := fun g hg => (Rd.keeps ⟨hr0, hspot⟩ hg).1
  have hw1 : IntKind.i64.wrap (1 : Int) = 1 := by decide
  replace hk0 : Hid (k0 = cl.getD 0 (-1)) := hk0
  replace hcl : Hid (cl.length = n) := hcl
  clear h78 hldH hd1 hd3 hc0 hH
  have hkc : Keeps h1 ((h1.new (.cells [.slice none 0 0])).put h1.next (.cells [.slice ca n cc])) := ((Keeps.refl h1).new _).put (Nat.le_refl _) _
  have hr1 := hr0k _ hkc
  by_cases hk00 : k0 < 0
  · -- nothing is accepted
    have hdead : ¬ Live A 0 := (hCl.dead 0 (by rw [← hnn.out]; exact hn0)).1 (by rw [← hk0.out]; exact hk00)
    obtain ⟨hcan, hacc⟩ := none_canon hdead
    obtain ⟨G, hG⟩ : ∃ G, G = (h1.new (.cells [.slice none 0 0])).put h1.next (.cells [.slice ca n cc]) := ⟨_, rfl⟩
    have hGn : G.next = h1.next + 1 := by rw [hG]; rfl
    have hkG : Keeps h1 G := by rw [hG]; exact hkc
    obtain ⟨G2, hG2⟩ : ∃ G2, G2 = (G.new (.cells [.bool false])).new (.cells (repL [.slice none 0 0] 1)) := ⟨_, rfl⟩
    have hkG2 : Keeps G G2 := by rw [hG2]; exact ((Keeps.refl G).new _).new _
    have hG2n : G2.next = h1.next + 3 := by rw [hG2]; simp only [AHeap.new_next, hGn]
    have o1 : Ow G2 (h1.next + 1) 1 [[.bool false]] := ⟨by rw [hG2, AHeap.new_get, AHeap.new_next, if_neg (by omega), AHeap.new_get, if_pos hGn.symm]; rfl, fun e he => by simp at he; subst he; rfl, by omega⟩
    have o2 : Ow G2 (h1.next + 2) 1 [[.slice none 0 0]] := ⟨by rw [hG2, AHeap.new_get, AHeap.new_next, if_pos (by omega)]; rfl, fun e he => by simp at he; subst he; rfl, by omega⟩
    obtain ⟨G3, hG3⟩ : ∃ G3, G3 = G2.put (h.next + 1) (.cells [.slice (some ⟨h1.next + 1, 0, some 0⟩) 1 1, .slice (some ⟨h1.next + 2, 0, some 0⟩) 1 1]) := ⟨_, rfl⟩
    have hput : ∀ i, h.next + 2 ≤ i → G3.own.get i = G2.own.get i := fun i hi => by rw [hG3, AHeap.put_get, if_neg (by omega)]
    have hG3n : G3.next = G2.next := by rw [hG3]; rfl
    have hk3 : Keeps h G3 := by rw [hG3]; exact (hk01.trans (hkG.trans hkG2)).put (by omega) _
    obtain ⟨g1, s1, s2, p1, n1, q1⟩ := OwnV.freeze (g := AHeap.empty) (N := h.next) (h := G3) (a := some ⟨h1.next + 1, 0, some 0⟩) (c := 1) (esz := 1) (es := [[.bool false]]) (.inr ⟨_, rfl, rfl, by omega, o1.same (hput _ (by omega)) (by omega)⟩) ⟨Nat.zero_le _, fun i b hb => by cases hb⟩ (fun x _ => rfl)
    obtain ⟨g2, s3, s4, p2, n2, _⟩ := OwnV.freeze (g := g1) (N := h.next) (h := G3) (a := some ⟨h1.next + 2, 0, some 0⟩) (c := 1) (esz := 1) (es := [[.slice none 0 0]]) (.inr ⟨_, rfl, rfl, by omega, o2.same (hput _ (by omega)) (by omega)⟩) s1 (q1 (some ⟨h1.next + 2, 0, some 0⟩) (fun x y hx hy => by cases hx; cases hy; show h1.next + 1 ≠ h1.next + 2; omega) (fun x _ => rfl))
    have hF : FreshA W h.next G3 noneA (.slice (some ⟨h1.next + 1, 0, some 0⟩) 1 1) (.slice (some ⟨h1.next + 2, 0, some 0⟩) 1 1) [.slice none 0 0] := by
      refine ⟨g2, s3, fun j hj => n2 j hj (n1 j hj rfl), rfl, ?_, ?_, rfl, fun i x l hx hl => ?_⟩
      · exact (p1.sub s4).sl
      · exact p2.sl
      · have hi0 : i = 0 := by have := (List.getElem?_eq_some_iff.1 hx).1; simp at this; exact this
        subst hi0
        simp [noneA] at hx hl
        subst hx hl
        exact ⟨none, 0, rfl, (fun b hb => by cases hb), fun _ => ⟨rfl, rfl⟩⟩
    have hbG : G2.own.get (h.next + 1) = some (.cells [.slice none 0 0, .slice none 0 0]) := by rw [hkG2.same _ (by omega), hkG.same _ (by omega)]; exact hb41
    have hrs : aloadN W G3 ⟨h.next + 1, 0, some 0⟩ 2 = some [.slice (some ⟨h1.next + 1, 0, some 0⟩) 1 1, .slice (some ⟨h1.next + 2, 0, some 0⟩) 1 1] := aload2 (by rw [hG3, AHeap.put_get, if_pos rfl])
    have e1 : ¬ h.next = h1.next := by omega
    have e2 : ¬ h.next = h1.next + 1 := by omega
    have e3 : ¬ h.next + 1 = h1.next := by omega
    have e4 : ¬ h.next + 1 = h1.next + 1 := by omega
    have e5 : ¬ h.next + 1 = h1.next + 2 := by omega
    have hM1 : noneA.fin.length ≤ n ∧ ∀ l ∈ noneA.arcs, l.length < 1048576 := ⟨by show 1 ≤ n; omega, fun l hl => by simp [noneA] at hl; subst hl; decide⟩
    have h0 : (0 : Int) ≤ 1 := by decide
    have ht1 : (1 : Int).toNat = 1 := rfl
    rw [hG3, hG2, hG] at hF hk3 hrs
    clear hcs hoc hr0k hr0 hspot hkc q1 s1 s2 s3 s4 p1 p2 n1 n2 hput o1 o2 hbG
    repeat (first | (with_reducible first | apply x_seq | apply x_block | apply x_region | apply x_exit | apply x_ret | apply x_skip | apply t_normal | apply t_exit | apply t_ret | apply b_normal | apply b_ret | apply b_same | apply ops_nil | apply g_T | apply g_F | apply c_T | apply c_F) | (with_reducible refine b_other (by decide) ?_) | ((with_reducible apply x_draws); (with_reducible apply d_pure); (next => kernel_rfl)) | ((with_reducible first | apply ops_d | apply ops_g | apply x_c); (next => simp only [rop, opd, celsL, oneV, aadd, binV, isSh, intBin, scEq, keq, unV, fillL, oP, oA, oS, wantedA, BX, BL, BS, seval, *]; with_reducible exact rfl)))
    refine ⟨.inr rfl, [.agg #[.slice (some ⟨h1.next + 1, 0, some 0⟩) 1 1, .slice (some ⟨h1.next + 2, 0, some 0⟩) 1 1], .bool true], ?_, noneA, _, _, _, rfl, hcan, hacc, hM1, hF, hk3⟩
    simp only [resVals, rop, opd, celsL, oneV, aadd, binV, isSh, intBin, scEq, keq, unV, fillL, oP, oA, oS, wantedA, BX, BL, BS, seval, *]
  · have hk0p : 0 ≤ cl.getD 0 (-1) := by have := hk0.out; omega
    obtain ⟨G, hG⟩ : ∃ G, G = (h1.new (.cells [.slice none 0 0])).put h1.next (.cells [.slice ca n cc]) := ⟨_, rfl⟩
    have hGn : G.next = h1.next + 1 := by rw [hG]; rfl
    have hkG : Keeps h1 G := by rw [hG]; exact hkc
    have hG6 : G.own.get h1.next = some (.cells [.slice ca n cc]) := by rw [hG, AHeap.put_get, if_pos rfl]
    obtain ⟨H2, hH2⟩ : ∃ H2, H2 = ((G.new (.map [])).new (.cells [.map none])).put (h1.next + 2) (.cells [.map (some (h1.next + 1))]) := ⟨_, rfl⟩
    have hH2n : H2.next = h1.next + 3 := by rw [hH2]; simp only [AHeap.put_next, AHeap.new_next, hGn]
    have hkH2 : Keeps h1 H2 := by rw [hH2]; exact ((hkG.new _).new _).put (by omega) _
    have hm2 : H2.own.get (h1.next + 1) = some (.map (mapOf [])) := by rw [hH2, AHeap.put_get, if_neg (by omega), AHeap.new_get, AHeap.new_next, if_neg (by omega), AHeap.new_get, if_pos hGn.symm]; rfl
    have h82c : H2.own.get (h1.next + 2) = some (.cells [.map (some (h1.next + 1))]) := by rw [hH2, AHeap.put_get, if_pos rfl]
    have h62 : H2.own.get h1.next = some (.cells [.slice ca n cc]) := by rw [hH2, AHeap.put_get, if_neg (by omega), AHeap.new_get, AHeap.new_next, if_neg (by omega), AHeap.new_get, if_neg (by omega)]; exact hG6
    have hS0 : StM cl 0 [] := ⟨fun p hp => by simp at hp, fun q k hq => by omega⟩
    have hn2 : h1.next + 3 ≤ H2.next := by omega
    have e1 : ¬ h1.next = h1.next + 1 := by omega
    rw [hH2, hG] at hkH2 hm2 h82c h62 hn2
    repeat (first | (with_reducible first | apply x_seq | apply x_block | apply x_region | apply x_exit | apply x_ret | apply x_skip | apply t_normal | apply t_exit | apply t_ret | apply b_normal | apply b_ret | apply b_same | apply ops_nil | apply g_T | apply g_F | apply c_T | apply c_F) | (with_reducible refine b_other (by decide) ?_) | ((with_reducible apply x_draws); (with_reducible apply d_pure); (next => kernel_rfl)) | ((with_reducible first | apply ops_d | apply ops_g | apply x_c); (next => simp only [rop, opd, celsL, oneV, aadd, binV, isSh, intBin, scEq, keq, unV, fillL, oP, oA, oS, wantedA, BX, BL, BS, seval, *]; with_reducible exact rfl)))
    refine WPX.loop hmix (fun k σ => ∃ i st, i ≤ n ∧ k = n - i ∧ eget σ.e 1 = .int .i64 limit ∧ eget σ.e 2 = .pointer (some ⟨h.next, 0, some 0⟩) ∧ eget σ.e 4 = .pointer (some ⟨h.next + 1, 0, some 0⟩) ∧ eget σ.e 6 = .pointer (some ⟨h1.next, 0, some 0⟩) ∧ eget σ.e 8 = .pointer (some ⟨h1.next + 2, 0, some 0⟩) ∧
      eget σ.e 30 = .slice ca n cc ∧ eget σ.e 31 = .int .i64 n ∧ eget σ.e 32 = .int .i64 (i : Nat) ∧ Keeps h1 σ.h ∧ σ.h.own.get (h1.next + 1) = some (.map (mapOf st)) ∧ σ.h.own.get (h1.next + 2) = some (.cells [.map (some (h1.next + 1))]) ∧ σ.h.own.get h1.next = some (.cells [.slice ca n cc]) ∧ h1.next + 3 ≤ σ.h.next ∧ StM cl i st) n ?h1 ?round1
    case h1 => exact ⟨0, [], Nat.zero_le _, rfl, (by simp only [rop, opd, celsL, oneV, aadd, binV, isSh, intBin, scEq, keq, unV, fillL, oP, oA, oS, wantedA, BX, BL, BS, seval, *]), (by simp only [rop, opd, celsL, oneV, aadd, binV, isSh, intBin, scEq, keq, unV, fillL, oP, oA, oS, wantedA, BX, BL, BS, seval, *]), (by simp only [rop, opd, celsL, oneV, aadd, binV, isSh, intBin, scEq, keq, unV, fillL, oP, oA, oS, wantedA, BX, BL, BS, seval, *]), (by simp only [rop, opd, celsL, oneV, aadd, binV, isSh, intBin, scEq, keq, unV, fillL, oP, oA, oS, wantedA, BX, BL, BS, seval, *]), (by simp only [rop, opd, celsL, oneV, aadd, binV, isSh, intBin, scEq, keq, unV, fillL, oP, oA, oS, wantedA, BX, BL, BS, seval, *]), (by simp only [rop, opd, celsL, oneV, aadd, binV, isSh, intBin, scEq, keq, unV, fillL, oP, oA, oS, wantedA, BX, BL, BS, seval, *]), (by simp only [rop, opd, celsL, oneV, aadd, binV, isSh, intBin, scEq, keq, unV, fillL, oP, oA, oS, wantedA, BX, BL, BS, seval, *]), (by simp only [rop, opd, celsL, oneV, aadd, binV, isSh, intBin, scEq, keq, unV, fillL, oP, oA, oS, wantedA, BX, BL, BS, seval, *]), hkH2, hm2, h82c, h62, hn2, hS0⟩
    clear hkH2 hm2 h82c h62 hn2 hS0 hH2 hH2n hG hGn hkG hG6 hr1 hkc e1
    rintro K ⟨e, g⟩ ⟨i, st, hi, rfl, e1, e2, e4, e6, e8, e30, e31, e32, hkg, hmg, h8g, h6g, hgn, hS⟩
    dsimp only at e1 e2 e4 e6 e8 e30 e31 e32 hkg hmg h8g h6g hgn
    by_cases hlt : i < n
    · have hltI : (i : Int) < n := by omega
      have hw2 : IntKind.i64.wrap ((i : Int) + 1) = ((i + 1 : Nat) : Int) := wrap_i64 (by omega) (by omega)
      obtain ⟨k, hk⟩ : ∃ k, cl[i]? = some k := ⟨_, List.getElem?_eq_getElem (by rw [hcl.out]; exact hlt)⟩
      have hx : (cl.map numV)[i]? = some (numV k) := by simp [hk]
      obtain ⟨d2, hd21, _, hd23⟩ := ((hoc.keeps hkg).sl (W := W)).at hx
      rw [List.length_map, hcl.out] at hd21
      have hr2 := (hd23 0 (.int .i64 k) rfl).1
      have hdd2 : aadd d2 0 = d2 := rfl
      rw [hdd2] at hr2
      obtain ⟨st', hmu, hS'⟩ := hS.upd hmg hk
      have hkf : Keeps h1 (g.put (h1.next + 1) (.map (mapOf st'))) := hkg.put (by omega) _
      have f1 : (g.put (h1.next + 1) (.map (mapOf st'))).own.get (h1.next + 1) = some (.map (mapOf st')) := by rw [AHeap.put_get, if_pos rfl]
      have f2 : (g.put (h1.next + 1) (.map (mapOf st'))).own.get (h1.next + 2) = some (.cells [.map (some (h1.next + 1))]) := by rw [AHeap.put_get, if_neg (by omega)]; exact h8g
      have f3 : (g.put (h1.next + 1) (.map (mapOf st'))).own.get h1.next = some (.cells [.slice ca n cc]) := by rw [AHeap.put_get, if_neg (by omega)]; exact h6g
      clear hd23 hx hk hS
      repeat (first | (with_reducible first | apply x_seq | apply x_block | apply x_region | apply x_exit | apply x_ret | apply x_skip | apply t_normal | apply t_exit | apply t_ret | apply b_normal | apply b_ret | apply b_same | apply ops_nil | apply g_T | apply g_F | apply c_T | apply c_F) | (with_reducible refine b_other (by decide) ?_) | ((with_reducible apply x_draws); (with_reducible apply d_pure); (next => kernel_rfl)) | ((with_reducible first | apply ops_d | apply ops_g | apply x_c); (next => simp only [rop, opd, celsL, oneV, aadd, binV, isSh, intBin, scEq, keq, unV, fillL, oP, oA, oS, wantedA, BX, BL, BS, seval, *]; with_reducible exact rfl)))
      exact ⟨n - (i + 1), by omega, i + 1, st', by omega, rfl, (by simp only [rop, opd, celsL, oneV, aadd, binV, isSh, intBin, scEq, keq, unV, fillL, oP, oA, oS, wantedA, BX, BL, BS, seval, *]), (by simp only [rop, opd, celsL, oneV, aadd, binV, isSh, intBin, scEq, keq, unV, fillL, oP, oA, oS, wantedA, BX, BL, BS, seval, *]), (by simp only [rop, opd, celsL, oneV, aadd, binV, isSh, intBin, scEq, keq, unV, fillL, oP, oA, oS, wantedA, BX, BL, BS, seval, *]), (by simp only [rop, opd, celsL, oneV, aadd, binV, isSh, intBin, scEq, keq, unV, fillL, oP, oA, oS, wantedA, BX, BL, BS, seval, *]), (by simp only [rop, opd, celsL, oneV, aadd, binV, isSh, intBin, scEq, keq, unV, fillL, oP, oA, oS, wantedA, BX, BL, BS, seval, *]), (by simp only [rop, opd, celsL, oneV, aadd, binV, isSh, intBin, scEq, keq, unV, fillL, oP, oA, oS, wantedA, BX, BL, BS, seval, *]), (by simp only [rop, opd, celsL, oneV, aadd, binV, isSh, intBin, scEq, keq, unV, fillL, oP, oA, oS, wantedA, BX, BL, BS, seval, *]), (by simp only [rop, opd, celsL, oneV, aadd, binV, isSh, intBin, scEq, keq, unV, fillL, oP, oA, oS, wantedA, BX, BL, BS, seval, *]), hkf, f1, f2, f3, hgn, hS'⟩
    · have hltI : ¬ (i : Int) < n := by omega
      have hin : i = n := by omega
      rw [hin] at hS
      clear hin
      have hrep : ∀ k : Int, (∃ q : Nat, q < n ∧ cl.getD q (-1) = k) → _ := fun k hk => hS.rep hcl.out hk
      have hI : MinI A cl (repOf st) := ⟨w, hCl, fun k _ hk => by
        rw [← hnn.out] at hk ⊢
        obtain ⟨a, b, _⟩ := hrep k hk
        exact ⟨a, b⟩⟩
      have hbg : g.own.get h.next = some (.cells [.slice fa n fc, .slice aa n ac]) := by rw [hkg.same _ (by omega)]; exact hb1
      have hb4g : g.own.get (h.next + 1) = some (.cells [.slice none 0 0, .slice none 0 0]) := by rw [hkg.same _ (by omega)]; exact hb41
      have hkhg : Keeps h g := hk01.trans hkg
      have hrg := hr0k g hkg
      have hDn : ∀ k, minD A cl k → ∃ q : Nat, q < n ∧ cl.getD q (-1) = k := fun k hk => by have := hk.2; rw [← hnn.out] at this; exact this
      have hkey : ∀ N, (rounds (minE A cl (repOf st)) (cl.getD 0 (-1)) N).1.length ≤ n := fun N => by
        refine keys_bound (rounds_nodup _ _ N) (fun k hk => ?_)
        have hd0 : minD A cl (cl.getD 0 (-1)) := ⟨hk0p, 0, by rw [← hnn.out]; exact hn0, rfl⟩
        have hdE : ∀ k, minD A cl k → ∀ y ∈ minE A cl (repOf st) k, minD A cl y.2.2 := fun k hk y hy => by
          obtain ⟨r1, r2⟩ := hI.rep k hk.1 hk.2
          obtain ⟨h1, z, hz, e⟩ := byClass_keys cl _ y hy
          have hzr := (w.range (List.mem_of_getElem? (getD_arcs w r1)) hz).2
          exact ⟨h1, z.2.2.toNat, by omega, e.symm⟩
        obtain ⟨h2, q, hq, e⟩ := rounds_keys hd0 hdE N k hk
        have := hCl.bound q hq
        have := hnn.out
        omega
      have h82 := f82_ok W g (cl.getD 0 (-1)) 79 80 #[.pointer (some ⟨h.next, 0, some 0⟩), .pointer (some ⟨h1.next + 2, 0, some 0⟩)] #[.pointer (some ⟨h.next, 0, some 0⟩), .pointer (some ⟨h1.next + 2, 0, some 0⟩), .pointer (some ⟨h1.next, 0, some 0⟩)] limit (minF A (repOf st)) (minE A cl (repOf st)) (minD A cl)
        ⟨hk0p, 0, by rw [← hnn.out]; exact hn0, rfl⟩
        (fun k hk y hy => by
          obtain ⟨r1, r2⟩ := hI.rep k hk.1 hk.2
          obtain ⟨h1, z, hz, e⟩ := byClass_keys cl _ y hy
          have hzr := (w.range (List.mem_of_getElem? (getD_arcs w r1)) hz).2
          exact ⟨h1, z.2.2.toNat, by omega, e.symm⟩)
        (fun k hk => by
          obtain ⟨r1, r2⟩ := hI.rep k hk.1 hk.2
          exact byClassM_in (arcs_in w r1).2)
        (fun k hk => by
          obtain ⟨r1, r2⟩ := hI.rep k hk.1 hk.2
          exact Nat.lt_of_le_of_lt (byClassM_len _) (hb _ (List.mem_of_getElem? (getD_arcs w r1))))
        (fun N => by have := hkey N; omega) hlimit
        (fun h' k hk hDk => by
          obtain ⟨r1, r2, r3⟩ := hrep k (hDn k hDk)
          exact f79_ok W h' h.next (h1.next + 1) (h1.next + 2) A _ _ vs k (repOf st k) (by rw [hk.same _ (by omega)]; exact hbg) (hA'.keeps (hkhg.trans hk)) (by rw [hk.same _ (by omega)]; exact h8g)
            (r3 (by rw [hk.same _ (by omega)]; exact hmg)) (by rw [← hnn.out]; exact r1))
        (fun h' k hk hDk => by
          obtain ⟨r1, r2, r3⟩ := hrep k (hDn k hDk)
          have hcs' := (hoc.keeps (hkg.trans hk)).sl (W := W)
          rw [List.length_map, hcl.out] at hcs'
          exact f80_ok W h' h.next (h1.next + 1) (h1.next + 2) h1.next A _ _ vs k (repOf st k) cl _ (by rw [hk.same _ (by omega)]; exact hbg) (hA'.keeps (hkhg.trans hk)) (by rw [hk.same _ (by omega)]; exact h8g) (by rw [hk.same _ (by omega)]; exact h6g) hcs'
            (by rw [hcl.out]; exact hnn.out) w hb (r3 (by rw [hk.same _ (by omega)]; exact hmg)) (by rw [← hnn.out]; exact r1))
      rw [← hk0.out] at h82
      clear hrep hDn
      repeat (first | (with_reducible first | apply x_seq | apply x_block | apply x_region | apply x_exit | apply x_ret | apply x_skip | apply t_normal | apply t_exit | apply t_ret | apply b_normal | apply b_ret | apply b_same | apply ops_nil | apply g_T | apply g_F | apply c_T | apply c_F) | (with_reducible refine b_other (by decide) ?_) | ((with_reducible apply x_draws); (with_reducible apply d_pure); (next => kernel_rfl)) | ((with_reducible first | apply ops_d | apply ops_g | apply x_c); (next => simp only [rop, opd, celsL, oneV, aadd, binV, isSh, intBin, scEq, keq, unV, fillL, oP, oA, oS, wantedA, BX, BL, BS, seval, *]; with_reducible exact rfl)))
      refine ops_callK (by simp only [rop, opd, celsL, oneV, aadd, binV, isSh, intBin, scEq, keq, unV, fillL, oP, oA, oS, wantedA, BX, BL, BS, seval, *]) (by simp only [List.map_cons, List.map_nil, rop, opd, celsL, oneV, aadd, binV, isSh, intBin, scEq, keq, unV, fillL, oP, oA, oS, wantedA, BX, BL, BS, seval, *]) h82 ?_
      rintro r2 g2 ⟨vf', va', vs', N, hN, rfl, hAV, hk2⟩
      clear h82
      rw [hk0.out] at hN hAV
      obtain ⟨hcan, hacc⟩ := min_canon hI (by rw [← hnn.out]; exact hn0) hk0p hN
      have hMl : (keyA (minE A cl (repOf st)) (minF A (repOf st)) (cl.getD 0 (-1)) N).fin.length ≤ n ∧ ∀ l ∈ (keyA (minE A cl (repOf st)) (minF A (repOf st)) (cl.getD 0 (-1)) N).arcs, l.length < 1048576 := by
        refine ⟨?_, fun l hl => ?_⟩
        rotate_left
        · obtain ⟨k, hk, hle⟩ := keyA_len (min_keyed hI (by rw [← hnn.out]; exact hn0) hk0p hN) l hl
          obtain ⟨r1, r2⟩ := hI.rep k hk.1 hk.2
          exact Nat.lt_of_le_of_lt hle (Nat.lt_of_le_of_lt (byClassM_len _) (hb _ (List.mem_of_getElem? (getD_arcs w r1))))
        show ((rounds (minE A cl (repOf st)) (cl.getD 0 (-1)) N).1.map (minF A (repOf st))).length ≤ n
        rw [List.length_map]; exact hkey N
      obtain ⟨fa', n1, fc', aa', n2, ac', rfl, rfl⟩ := AutoV.slices hAV.auto
      have hb42 : g2.own.get (h.next + 1) = some (.cells [.slice none 0 0, .slice none 0 0]) := by rw [hk2.same _ (by omega)]; exact hb4g
      have hkf : Keeps h (g2.put (h.next + 1) (.cells [.slice fa' n1 fc', .slice aa' n2 ac'])) := (hkhg.trans hk2).put (by omega) _
      have hF : FreshA W h.next (g2.put (h.next + 1) (.cells [.slice fa' n1 fc', .slice aa' n2 ac'])) (keyA (minE A cl (repOf st)) (minF A (repOf st)) (cl.getD 0 (-1)) N) (.slice fa' n1 fc') (.slice aa' n2 ac') vs' := (FreshA.put hAV (by omega) _).base (by omega)
      have hrs : aloadN W (g2.put (h.next + 1) (.cells [.slice fa' n1 fc', .slice aa' n2 ac'])) ⟨h.next + 1, 0, some 0⟩ 2 = some [.slice fa' n1 fc', .slice aa' n2 ac'] := aload2 (by rw [AHeap.put_get, if_pos rfl])
      repeat (first | (with_reducible first | apply x_seq | apply x_block | apply x_region | apply x_exit | apply x_ret | apply x_skip | apply t_normal | apply t_exit | apply t_ret | apply b_normal | apply b_ret | apply b_same | apply ops_nil | apply g_T | apply g_F | apply c_T | apply c_F) | (with_reducible refine b_other (by decide) ?_) | ((with_reducible apply x_draws); (with_reducible apply d_pure); (next => kernel_rfl)) | ((with_reducible first | apply ops_d | apply ops_g | apply x_c); (next => simp only [rop, opd, celsL, oneV, aadd, binV, isSh, intBin, scEq, keq, unV, fillL, oP, oA, oS, wantedA, BX, BL, BS, seval, *]; with_reducible exact rfl)))
      refine ⟨.inr rfl, [.agg #[.slice fa' n1 fc', .slice aa' n2 ac'], .bool true], ?_, _, _, _, vs', rfl, hcan, hacc, hMl, hF, hkf⟩
      simp only [resVals, rop, opd, celsL, oneV, aadd, binV, isSh, intBin, scEq, keq, unV, fillL, oP, oA, oS, wantedA, BX, BL, BS, seval, *]
end Go.Proofs.YtlipmjpapkfaeaaGreatDoor.Fn
end
section
set_option linter.unusedSimpArgs false
set_option linter.unusedVariables false
set_option maxRecDepth 100000
namespace Go.Proofs.YtlipmjpapkfaeaaGreatDoor.Fn
open Go Go.Mach Go.RowKit Go.Proofs
attribute [local irreducible] AOps WPX DOps thenS blockS AOp GOps CPick

theorem reach_len {A : Aut} (w : Wf A) (h0 : 0 < A.fin.length) {N M : Nat} (hN : (rounds (edgesA A) 0 N).1.length = N) (hb : ∀ l ∈ A.arcs, l.length < M) : ∀ l ∈ (reachA A N).arcs, l.length < M := by
  intro l hl
  have K := edgesA_keyed w h0 hN
  obtain ⟨i, hi⟩ := List.mem_iff_getElem?.1 hl
  have hlt : i < N := by
    have := (List.getElem?_eq_some_iff.1 hi).1
    rwa [show (reachA A N).arcs.length = N from rounds_arcs hN N (Nat.le_refl _)] at this
  obtain ⟨k, h1, h2, h3, h4⟩ := rounds_arc hN hlt
  have hD := rounds_keys K.d0 K.dE N k (List.mem_of_getElem? h1)
  rw [show (reachA A N).arcs[i]? = (rounds (edgesA A) 0 N).2[i]? from rfl, h3] at hi
  cases hi
  have := (expFold_len (edgesA A k) ((rounds (edgesA A) 0 i).1, [])).1
  have h5 := hb _ (List.mem_of_getElem? (edgesA_mem w.len hD))
  simp only [List.length_nil] at this
  unfold expState
  omega

/-- What Minimize answers. -/
def MinR (W : World) (h : AHeap) (A : Aut) (r : Value) (h' : AHeap) : Prop :=
  (validate A ≠ 0 ∧ r = .tuple #[.agg #[.slice none 0 0, .slice none 0 0], .int .i64 1]) ∨
  (validate A = 0 ∧ ∃ M vf va vs, r = .tuple #[.agg #[vf, va], .int .i64 0] ∧ Canon M ∧ (∀ cs, acc M 0 cs = acc A 0 cs) ∧ (M.fin.length ≤ A.fin.length ∧ ∀ l ∈ M.arcs, l.length < 1048576) ∧ FreshA W h.next h' M vf va vs)

set_option maxHeartbeats 8000000 in
theorem f21_ok (W : World) (h : AHeap) (v : Value) (A : Aut) (vf va : Value) (vs : List Value) (hA : AutoV W h v A vf va vs) (hb : ∀ l ∈ A.arcs, l.length < 1048576) :
    ACalls Tryz.prog W 21 [v] h (fun r h' => MinR W h A r h' ∧ Keeps h h') := by
  have hA' := hA
  obtain ⟨rfl, hf, ha, hl, he⟩ := hA
  obtain ⟨fa, fc, hfs⟩ := hf.len
  obtain ⟨aa, ac, has⟩ := ha.len
  rw [List.length_map] at hfs has
  rw [hl] at has
  subst hfs has
  refine ACalls_ofX hmix c21 (Nat.le_of_ble_eq_true rfl) ?_
  unfold r21
  simp only [envOf1]
  obtain ⟨H, hH⟩ : ∃ H, H = (h.new (.cells [.slice fa A.fin.length fc, .slice aa A.arcs.length ac])).new (.cells [.slice none 0 0, .slice none 0 0]) := ⟨_, rfl⟩
  have hHn : H.next = h.next + 2 := by rw [hH]; rfl
  have hkH : Keeps h H := by rw [hH]; exact ((Keeps.refl h).new _).new _
  have hbH : H.own.get h.next = some (.cells [.slice fa A.fin.length fc, .slice aa A.arcs.length ac]) := by rw [hH, AHeap.new_get, AHeap.new_next, if_neg (by omega), AHeap.new_get, if_pos rfl]
  have hb2 : H.own.get (h.next + 1) = some (.cells [.slice none 0 0, .slice none 0 0]) := by rw [hH, AHeap.new_get, AHeap.new_next, if_pos rfl]
  have h16 := f16_ok W H _ A _ _ vs (hA'.keeps hkH) (fun l hl => by have := hb l hl; omega)
  have hldH : aloadN W H ⟨h.next, 0, some 0⟩ 2 = some [.slice fa A.fin.length fc, .slice aa A.arcs.length ac] := aload2 hbH
  rw [hH] at h16 hldH
  repeat (first | (with_reducible first | apply x_seq | apply x_block | apply x_region | apply x_exit | apply x_ret | apply x_skip | apply t_normal | apply t_exit | apply t_ret | apply b_normal | apply b_ret | apply b_same | apply ops_nil | apply g_T | apply g_F | apply c_T | apply c_F) | (with_reducible refine b_other (by decide) ?_) | ((with_reducible apply x_draws); (with_reducible apply d_pure); (next => kernel_rfl)) | ((with_reducible first | apply ops_d | apply ops_g | apply x_c); (next => simp only [rop, opd, celsL, oneV, aadd, binV, isSh, intBin, scEq, keq, unV, fillL, oP, oA, oS, wantedA, BX, BL, BS, seval, *]; with_reducible exact rfl)))
  refine ops_callK (by simp only [rop, opd, celsL, oneV, aadd, binV, isSh, intBin, scEq, keq, unV, fillL, oP, oA, oS, wantedA, BX, BL, BS, seval, *]) (by simp only [List.map_cons, List.map_nil, rop, opd, celsL, oneV, aadd, binV, isSh, intBin, scEq, keq, unV, fillL, oP, oA, oS, wantedA, BX, BL, BS, seval, *]) h16 ?_
  rintro r1 h1 ⟨rfl, hk1⟩
  rw [← hH] at hk1
  clear h16 hldH
  have hk01 : Keeps h h1 := hkH.trans hk1
  have hlt1 : h.next + 1 < h1.next := by have := hk1.le; omega
  have hb1 : h1.own.get h.next = some (.cells [.slice fa A.fin.length fc, .slice aa A.arcs.length ac]) := by rw [hk1.same _ (by omega)]; exact hbH
  have hb21 : h1.own.get (h.next + 1) = some (.cells [.slice none 0 0, .slice none 0 0]) := by rw [hk1.same _ (by omega)]; exact hb2
  by_cases hv0 : validate A = 0
  case neg =>
    have hkf : Keeps h (h1.put (h.next + 1) (.cells [.slice none 0 0, .slice none 0 0])) := hk01.put (by omega) _
    have hrs : aloadN W (h1.put (h.next + 1) (.cells [.slice none 0 0, .slice none 0 0])) ⟨h.next + 1, 0, some 0⟩ 2 = some [.slice none 0 0, .slice none 0 0] := aload2 (by rw [AHeap.put_get, if_pos rfl])
    repeat (first | (with_reducible first | apply x_seq | apply x_block | apply x_region | apply x_exit | apply x_ret | apply x_skip | apply t_normal | apply t_exit | apply t_ret | apply b_normal | apply b_ret | apply b_same | apply ops_nil | apply g_T | apply g_F | apply c_T | apply c_F) | (with_reducible refine b_other (by decide) ?_) | ((with_reducible apply x_draws); (with_reducible apply d_pure); (next => kernel_rfl)) | ((with_reducible first | apply ops_d | apply ops_g | apply x_c); (next => simp only [rop, opd, celsL, oneV, aadd, binV, isSh, intBin, scEq, keq, unV, fillL, oP, oA, oS, wantedA, BX, BL, BS, seval, *]; with_reducible exact rfl)))
    refine ⟨.inr rfl, [.agg #[.slice none 0 0, .slice none 0 0], .int .i64 1], ?_, .inl ⟨hv0, rfl⟩, hkf⟩
    simp only [resVals, rop, opd, celsL, oneV, aadd, binV, isSh, intBin, scEq, keq, unV, fillL, oP, oA, oS, wantedA, BX, BL, BS, seval, *]
  have hv0' : (!decide (validate A = 0)) = false := by simp [hv0]
  have w := Wf.of_validate hv0
  obtain ⟨hn1, hn2, _, _⟩ := validate_zero hv0
  have hn0 : 0 < A.fin.length := by omega
  have h45 := f45_ok W h1 _ A _ _ vs (hA'.keeps hk01) hb hv0
  have hld1 : aloadN W h1 ⟨h.next, 0, some 0⟩ 2 = some [.slice fa A.fin.length fc, .slice aa A.arcs.length ac] := aload2 hb1
  replace hv0 : Hid (validate A = 0) := hv0
  repeat (first | (with_reducible first | apply x_seq | apply x_block | apply x_region | apply x_exit | apply x_ret | apply x_skip | apply t_normal | apply t_exit | apply t_ret | apply b_normal | apply b_ret | apply b_same | apply ops_nil | apply g_T | apply g_F | apply c_T | apply c_F) | (with_reducible refine b_other (by decide) ?_) | ((with_reducible apply x_draws); (with_reducible apply d_pure); (next => kernel_rfl)) | ((with_reducible first | apply ops_d | apply ops_g | apply x_c); (next => simp only [rop, opd, celsL, oneV, aadd, binV, isSh, intBin, scEq, keq, unV, fillL, oP, oA, oS, wantedA, BX, BL, BS, seval, *]; with_reducible exact rfl)))
  refine ops_callK (by simp only [rop, opd, celsL, oneV, aadd, binV, isSh, intBin, scEq, keq, unV, fillL, oP, oA, oS, wantedA, BX, BL, BS, seval, *]) (by simp only [List.map_cons, List.map_nil, rop, opd, celsL, oneV, aadd, binV, isSh, intBin, scEq, keq, unV, fillL, oP, oA, oS, wantedA, BX, BL, BS, seval, *]) h45 ?_
  rintro r2 h2 ⟨vf2, va2, vs2, N, hN, rfl, hF2, hk2⟩
  clear h45 hld1
  obtain ⟨w2, hl2, hN0, hNn, hacc2⟩ := reach_wf w hn0 hN
  have hlen2 := reach_len w hn0 hN hb
  have h44 := f44_ok W h2 _ (reachA A N) _ _ vs2 256 hF2.auto w2 (by omega) (by omega) hlen2 (by omega) (by omega)
  have hb22 : h2.own.get (h.next + 1) = some (.cells [.slice none 0 0, .slice none 0 0]) := by rw [hk2.same _ (by omega)]; exact hb21
  have hlt2 : h.next + 1 < h2.next := by have := hk2.le; omega
  replace hN : True := trivial
  repeat (first | (with_reducible first | apply x_seq | apply x_block | apply x_region | apply x_exit | apply x_ret | apply x_skip | apply t_normal | apply t_exit | apply t_ret | apply b_normal | apply b_ret | apply b_same | apply ops_nil | apply g_T | apply g_F | apply c_T | apply c_F) | (with_reducible refine b_other (by decide) ?_) | ((with_reducible apply x_draws); (with_reducible apply d_pure); (next => kernel_rfl)) | ((with_reducible first | apply ops_d | apply ops_g | apply x_c); (next => simp only [rop, opd, celsL, oneV, aadd, binV, isSh, intBin, scEq, keq, unV, fillL, oP, oA, oS, wantedA, BX, BL, BS, seval, *]; with_reducible exact rfl)))
  refine ops_callK (by simp only [rop, opd, celsL, oneV, aadd, binV, isSh, intBin, scEq, keq, unV, fillL, oP, oA, oS, wantedA, BX, BL, BS, seval, *]) (by simp only [List.map_cons, List.map_nil, rop, opd, celsL, oneV, aadd, binV, isSh, intBin, scEq, keq, unV, fillL, oP, oA, oS, wantedA, BX, BL, BS, seval, *]) h44 ?_
  rintro r3 h3 ⟨M, vf3, va3, vs3, rfl, hcan, hacc3, hMl, hF3, hk3⟩
  clear h44
  obtain ⟨fa3, n3, fc3, aa3, m3, ac3, rfl, rfl⟩ := AutoV.slices hF3.auto
  have hb23 : h3.own.get (h.next + 1) = some (.cells [.slice none 0 0, .slice none 0 0]) := by rw [hk3.same _ (by omega)]; exact hb22
  have hlt3 : h.next + 1 < h3.next := by have := hk3.le; omega
  have hne : ¬ h.next + 1 = h3.next := by omega
  obtain ⟨G, hG⟩ : ∃ G, G = (h3.new (.cells [.slice none 0 0, .slice none 0 0])).put h3.next (.cells [.slice fa3 n3 fc3, .slice aa3 m3 ac3]) := ⟨_, rfl⟩
  have hkG : Keeps h3 G := by rw [hG]; exact ((Keeps.refl h3).new _).put (Nat.le_refl _) _
  have hldG : aloadN W G ⟨h3.next, 0, some 0⟩ 2 = some [.slice fa3 n3 fc3, .slice aa3 m3 ac3] := aload2 (by rw [hG, AHeap.put_get, if_pos rfl])
  have hkf : Keeps h (G.put (h.next + 1) (.cells [.slice fa3 n3 fc3, .slice aa3 m3 ac3])) := (((hk01.trans hk2).trans hk3).trans hkG).put (by omega) _
  have hFf : FreshA W h.next (G.put (h.next + 1) (.cells [.slice fa3 n3 fc3, .slice aa3 m3 ac3])) M (.slice fa3 n3 fc3) (.slice aa3 m3 ac3) vs3 := ((hF3.keeps hkG).put (by omega) _).base (by omega)
  have hrs : aloadN W (G.put (h.next + 1) (.cells [.slice fa3 n3 fc3, .slice aa3 m3 ac3])) ⟨h.next + 1, 0, some 0⟩ 2 = some [.slice fa3 n3 fc3, .slice aa3 m3 ac3] := aload2 (by rw [AHeap.put_get, if_pos rfl])
  rw [hG] at hldG hkf hFf hrs
  repeat (first | (with_reducible first | apply x_seq | apply x_block | apply x_region | apply x_exit | apply x_ret | apply x_skip | apply t_normal | apply t_exit | apply t_ret | apply b_normal | apply b_ret | apply b_same | apply ops_nil | apply g_T | apply g_F | apply c_T | apply c_F) | (with_reducible refine b_other (by decide) ?_) | ((with_reducible apply x_draws); (with_reducible apply d_pure); (next => kernel_rfl)) | ((with_reducible first | apply ops_d | apply ops_g | apply x_c); (next => simp only [rop, opd, celsL, oneV, aadd, binV, isSh, intBin, scEq, keq, unV, fillL, oP, oA, oS, wantedA, BX, BL, BS, seval, *]; with_reducible exact rfl)))
  refine ⟨.inr rfl, [.agg #[.slice fa3 n3 fc3, .slice aa3 m3 ac3], .int .i64 0], ?_, .inr ⟨hv0.out, M, _, _, vs3, rfl, hcan, fun cs => (hacc3 cs).trans (hacc2 cs), ⟨by have := hMl.1; omega, hMl.2⟩, hFf⟩, hkf⟩
  simp only [resVals, rop, opd, celsL, oneV, aadd, binV, isSh, intBin, scEq, keq, unV, fillL, oP, oA, oS, wantedA, BX, BL, BS, seval, *]
end Go.Proofs.YtlipmjpapkfaeaaGreatDoor.Fn
end
