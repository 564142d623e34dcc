/- automaton.minimal (F44) in the machine: it answers the canonical automaton. No condition but sizes.
Merged from 3 texts. -/
import Derived.Test.YtlipmjpapkfaeaaGreatDoorZC22
import Derived.Test.YtlipmjpapkfaeaaGreatDoorZC11
import Derived.KernelRfl
section
set_option linter.unusedSimpArgs false
set_option linter.unusedVariables false
set_option maxRecDepth 100000
namespace Go.Proofs.YtlipmjpapkfaeaaGreatDoor.Fn
open Go Go.Mach Go.RowKit Go.Proofs
attribute [local irreducible] AOps WPX DOps thenS blockS AOp GOps CPick

theorem keyA_len {E : Int → List Arc3} {F : Int → Bool} {D : Int → Prop} {k0 : Int} {N : Nat} (K : Keyed2 E F D k0 N) : ∀ l ∈ (keyA E F k0 N).arcs, ∃ k, D k ∧ l.length ≤ (E k).length := by
  intro l hl
  obtain ⟨i, hi⟩ := List.mem_iff_getElem?.1 hl
  have hlt : i < N := by
    have := (List.getElem?_eq_some_iff.1 hi).1
    rwa [show (keyA E F k0 N).arcs.length = N from rounds_arcs K.fin N (Nat.le_refl _)] at this
  obtain ⟨k, h1, h2, h3, h4⟩ := rounds_arc K.fin hlt
  have hD := rounds_keys K.d0 K.dE N k (List.mem_of_getElem? h1)
  rw [show (keyA E F k0 N).arcs[i]? = (rounds E k0 N).2[i]? from rfl, h3] at hi
  cases hi
  have := (expFold_len (E k) ((rounds E k0 i).1, [])).1
  simp only [List.length_nil, Nat.zero_add] at this
  exact ⟨k, hD, this⟩

set_option maxHeartbeats 8000000 in
theorem f44_ok (W : World) (h : AHeap) (v : Value) (A : Aut) (vf va : Value) (vs : List Value) (limit : Int) (hA : AutoV W h v A vf va vs) (w : Wf A) (hn0 : 0 < A.fin.length) (hn : A.fin.length ≤ 256) (hb : ∀ l ∈ A.arcs, l.length < 1048576) (hlim : (A.fin.length : Int) ≤ limit) (hlimit : limit < 1048576) :
    ACalls Tryz.prog W 44 [v, .int .i64 limit] h (fun r h' => ∃ M vf va vs, r = .tuple #[.agg #[vf, va], .bool true] ∧ Canon M ∧ (∀ cs, acc M 0 cs = acc A 0 cs) ∧ (M.fin.length ≤ A.fin.length ∧ ∀ l ∈ M.arcs, l.length < 1048576) ∧ FreshA W h.next h' M vf va vs ∧ Keeps h h') := by
  have hA' := hA
  obtain ⟨rfl, hf, ha, hl, he⟩ := hA
  obtain ⟨fa, fc, hfs⟩ := hf.len
  obtain ⟨aa, ac, has⟩ := ha.len
  rw [List.length_map] at hfs has
  rw [hl, w.len] at has
  subst hfs has
  rw [w.len] at hl
  refine ACalls_ofX hmix c44 (Nat.le_of_ble_eq_true rfl) ?_
  unfold r44
  simp only [envOf2]
  obtain ⟨n, hnn⟩ : ∃ n, n = A.fin.length := ⟨_, rfl⟩
  obtain ⟨H, hH⟩ : ∃ H, H = (h.new (.cells [.slice fa n fc, .slice aa n ac])).new (.cells [.slice none 0 0, .slice none 0 0]) := ⟨_, rfl⟩
  have hHn : H.next = h.next + 2 := by rw [hH]; rfl
  have hkH : Keeps h H := by rw [hH]; exact ((Keeps.refl h).new _).new _
  have hbH : H.own.get h.next = some (.cells [.slice fa n fc, .slice aa n ac]) := by rw [hH, AHeap.new_get, AHeap.new_next, if_neg (by omega), AHeap.new_get, if_pos rfl]
  have hb4 : H.own.get (h.next + 1) = some (.cells [.slice none 0 0, .slice none 0 0]) := by rw [hH, AHeap.new_get, AHeap.new_next, if_pos rfl]
  have h78 := f78_ok W H _ A _ _ vs limit (hA'.keeps hkH) w hn hb hlim
  rw [← hnn] at hf ha hA' hl hn hn0 h78 hlim ⊢
  have hldH : aloadN W H ⟨h.next, 0, some 0⟩ 2 = some [.slice fa n fc, .slice aa n ac] := aload2 hbH
  rw [hH] at h78 hldH
  replace hnn : Hid (n = A.fin.length) := hnn
  repeat (first | (with_reducible first | apply x_seq | apply x_block | apply x_region | apply x_exit | apply x_ret | apply x_skip | apply t_normal | apply t_exit | apply t_ret | apply b_normal | apply b_ret | apply b_same | apply ops_nil | apply g_T | apply g_F | apply c_T | apply c_F) | (with_reducible refine b_other (by decide) ?_) | ((with_reducible apply x_draws); (with_reducible apply d_pure); (next => kernel_rfl)) | ((with_reducible first | apply ops_d | apply ops_g | apply x_c); (next => simp only [rop, opd, celsL, oneV, aadd, binV, isSh, intBin, scEq, keq, unV, fillL, oP, oA, oS, wantedA, BX, BL, BS, seval, *]; with_reducible exact rfl)))
  refine ops_callK (by simp only [rop, opd, celsL, oneV, aadd, binV, isSh, intBin, scEq, keq, unV, fillL, oP, oA, oS, wantedA, BX, BL, BS, seval, *]) (by simp only [List.map_cons, List.map_nil, rop, opd, celsL, oneV, aadd, binV, isSh, intBin, scEq, keq, unV, fillL, oP, oA, oS, wantedA, BX, BL, BS, seval, *]) h78 ?_
  rintro r1 h1 ⟨⟨ca, cc, cl, rfl, hoc, hCl⟩, hk1⟩
  rw [← hH] at hk1 hoc
  have hcl : cl.length = n := by rw [hCl.len]; exact hnn.out.symm
  have hk01 : Keeps h h1 := hkH.trans hk1
  have hlt1 : h.next + 1 < h1.next := by have := hk1.le; omega
  have hb1 : h1.own.get h.next = some (.cells [.slice fa n fc, .slice aa n ac]) := by rw [hk1.same _ (by omega)]; exact hbH
  have hb41 : h1.own.get (h.next + 1) = some (.cells [.slice none 0 0, .slice none 0 0]) := by rw [hk1.same _ (by omega)]; exact hb4
  have hcs := hoc.sl (W := W)
  rw [List.length_map, hcl] at hcs
  have hc0 : (cl.map numV)[0]? = some (numV (cl.getD 0 (-1))) := by
    have : 0 < cl.length := by omega
    simp [List.getD, this]
  obtain ⟨d, hd1, _, hd3⟩ := hcs.at hc0
  have hr0 := (hd3 0 (.int .i64 (cl.getD 0 (-1))) rfl).1
  have hdd : aadd d 0 = d := rfl
  rw [hdd] at hr0
  have hd10 : idxV 1 (.slice ca n cc) (.int .i64 0) = some (.pointer (some d)) := hd1
  obtain ⟨k0, hk0⟩ : ∃ k0, k0 = cl.getD 0 (-1) := ⟨_, rfl⟩
  rw [← hk0] at hr0
  have hspot : d.spot ≠ none → d.block < h1.next := (hd3 0 (.int .i64 (cl.getD 0 (-1))) rfl).2
  have hr0k : ∀ g, Keeps h1 g → aload1 W g d = some (.int .i64 k0) := fun g hg => (Rd.keeps ⟨hr0, hspot⟩ hg).1
  have hw1 : IntKind.i64.wrap (1 : Int) = 1 := by decide
  replace hk0 : Hid (k0 = cl.getD 0 (-1)) := hk0
  replace hcl : Hid (cl.length = n) := hcl
  clear h78 hldH hd1 hd3 hc0 hH
  have hkc : Keeps h1 ((h1.new (.cells [.slice none 0 0])).put h1.next (.cells [.slice ca n cc])) := ((Keeps.refl h1).new _).put (Nat.le_refl _) _
  have hr1 := hr0k _ hkc
  by_cases hk00 : k0 < 0
  · -- nothing is accepted
    have hdead : ¬ Live A 0 := (hCl.dead 0 (by rw [← hnn.out]; exact hn0)).1 (by rw [← hk0.out]; exact hk00)
    obtain ⟨hcan, hacc⟩ := none_canon hdead
    obtain ⟨G, hG⟩ : ∃ G, G = (h1.new (.cells [.slice none 0 0])).put h1.next (.cells [.slice ca n cc]) := ⟨_, rfl⟩
    have hGn : G.next = h1.next + 1 := by rw [hG]; rfl
    have hkG : Keeps h1 G := by rw [hG]; exact hkc
    obtain ⟨G2, hG2⟩ : ∃ G2, G2 = (G.new (.cells [.bool false])).new (.cells (repL [.slice none 0 0] 1)) := ⟨_, rfl⟩
    have hkG2 : Keeps G G2 := by rw [hG2]; exact ((Keeps.refl G).new _).new _
    have hG2n : G2.next = h1.next + 3 := by rw [hG2]; simp only [AHeap.new_next, hGn]
    have o1 : Ow G2 (h1.next + 1) 1 [[.bool false]] := ⟨by rw [hG2, AHeap.new_get, AHeap.new_next, if_neg (by omega), AHeap.new_get, if_pos hGn.symm]; rfl, fun e he => by simp at he; subst he; rfl, by omega⟩
    have o2 : Ow G2 (h1.next + 2) 1 [[.slice none 0 0]] := ⟨by rw [hG2, AHeap.new_get, AHeap.new_next, if_pos (by omega)]; rfl, fun e he => by simp at he; subst he; rfl, by omega⟩
    obtain ⟨G3, hG3⟩ : ∃ G3, G3 = G2.put (h.next + 1) (.cells [.slice (some ⟨h1.next + 1, 0, some 0⟩) 1 1, .slice (some ⟨h1.next + 2, 0, some 0⟩) 1 1]) := ⟨_, rfl⟩
    have hput : ∀ i, h.next + 2 ≤ i → G3.own.get i = G2.own.get i := fun i hi => by rw [hG3, AHeap.put_get, if_neg (by omega)]
    have hG3n : G3.next = G2.next := by rw [hG3]; rfl
    have hk3 : Keeps h G3 := by rw [hG3]; exact (hk01.trans (hkG.trans hkG2)).put (by omega) _
    obtain ⟨g1, s1, s2, p1, n1, q1⟩ := OwnV.freeze (g := AHeap.empty) (N := h.next) (h := G3) (a := some ⟨h1.next + 1, 0, some 0⟩) (c := 1) (esz := 1) (es := [[.bool false]]) (.inr ⟨_, rfl, rfl, by omega, o1.same (hput _ (by omega)) (by omega)⟩) ⟨Nat.zero_le _, fun i b hb => by cases hb⟩ (fun x _ => rfl)
    obtain ⟨g2, s3, s4, p2, n2, _⟩ := OwnV.freeze (g := g1) (N := h.next) (h := G3) (a := some ⟨h1.next + 2, 0, some 0⟩) (c := 1) (esz := 1) (es := [[.slice none 0 0]]) (.inr ⟨_, rfl, rfl, by omega, o2.same (hput _ (by omega)) (by omega)⟩) s1 (q1 (some ⟨h1.next + 2, 0, some 0⟩) (fun x y hx hy => by cases hx; cases hy; show h1.next + 1 ≠ h1.next + 2; omega) (fun x _ => rfl))
    have hF : FreshA W h.next G3 noneA (.slice (some ⟨h1.next + 1, 0, some 0⟩) 1 1) (.slice (some ⟨h1.next + 2, 0, some 0⟩) 1 1) [.slice none 0 0] := by
      refine ⟨g2, s3, fun j hj => n2 j hj (n1 j hj rfl), rfl, ?_, ?_, rfl, fun i x l hx hl => ?_⟩
      · exact (p1.sub s4).sl
      · exact p2.sl
      · have hi0 : i = 0 := by have := (List.getElem?_eq_some_iff.1 hx).1; simp at this; exact this
        subst hi0
        simp [noneA] at hx hl
        subst hx hl
        exact ⟨none, 0, rfl, (fun b hb => by cases hb), fun _ => ⟨rfl, rfl⟩⟩
    have hbG : G2.own.get (h.next + 1) = some (.cells [.slice none 0 0, .slice none 0 0]) := by rw [hkG2.same _ (by omega), hkG.same _ (by omega)]; exact hb41
    have hrs : aloadN W G3 ⟨h.next + 1, 0, some 0⟩ 2 = some [.slice (some ⟨h1.next + 1, 0, some 0⟩) 1 1, .slice (some ⟨h1.next + 2, 0, some 0⟩) 1 1] := aload2 (by rw [hG3, AHeap.put_get, if_pos rfl])
    have e1 : ¬ h.next = h1.next := by omega
    have e2 : ¬ h.next = h1.next + 1 := by omega
    have e3 : ¬ h.next + 1 = h1.next := by omega
    have e4 : ¬ h.next + 1 = h1.next + 1 := by omega
    have e5 : ¬ h.next + 1 = h1.next + 2 := by omega
    have hM1 : noneA.fin.length ≤ n ∧ ∀ l ∈ noneA.arcs, l.length < 1048576 := ⟨by show 1 ≤ n; omega, fun l hl => by simp [noneA] at hl; subst hl; decide⟩
    have h0 : (0 : Int) ≤ 1 := by decide
    have ht1 : (1 : Int).toNat = 1 := rfl
    rw [hG3, hG2, hG] at hF hk3 hrs
    clear hcs hoc hr0k hr0 hspot hkc q1 s1 s2 s3 s4 p1 p2 n1 n2 hput o1 o2 hbG
    repeat (first | (with_reducible first | apply x_seq | apply x_block | apply x_region | apply x_exit | apply x_ret | apply x_skip | apply t_normal | apply t_exit | apply t_ret | apply b_normal | apply b_ret | apply b_same | apply ops_nil | apply g_T | apply g_F | apply c_T | apply c_F) | (with_reducible refine b_other (by decide) ?_) | ((with_reducible apply x_draws); (with_reducible apply d_pure); (next => kernel_rfl)) | ((with_reducible first | apply ops_d | apply ops_g | apply x_c); (next => simp only [rop, opd, celsL, oneV, aadd, binV, isSh, intBin, scEq, keq, unV, fillL, oP, oA, oS, wantedA, BX, BL, BS, seval, *]; with_reducible exact rfl)))
    refine ⟨.inr rfl, [.agg #[.slice (some ⟨h1.next + 1, 0, some 0⟩) 1 1, .slice (some ⟨h1.next + 2, 0, some 0⟩) 1 1], .bool true], ?_, noneA, _, _, _, rfl, hcan, hacc, hM1, hF, hk3⟩
    simp only [resVals, rop, opd, celsL, oneV, aadd, binV, isSh, intBin, scEq, keq, unV, fillL, oP, oA, oS, wantedA, BX, BL, BS, seval, *]
  · have hk0p : 0 ≤ cl.getD 0 (-1) := by have := hk0.out; omega
    obtain ⟨G, hG⟩ : ∃ G, G = (h1.new (.cells [.slice none 0 0])).put h1.next (.cells [.slice ca n cc]) := ⟨_, rfl⟩
    have hGn : G.next = h1.next + 1 := by rw [hG]; rfl
    have hkG : Keeps h1 G := by rw [hG]; exact hkc
    have hG6 : G.own.get h1.next = some (.cells [.slice ca n cc]) := by rw [hG, AHeap.put_get, if_pos rfl]
    obtain ⟨H2, hH2⟩ : ∃ H2, H2 = ((G.new (.map [])).new (.cells [.map none])).put (h1.next + 2) (.cells [.map (some (h1.next + 1))]) := ⟨_, rfl⟩
    have hH2n : H2.next = h1.next + 3 := by rw [hH2]; simp only [AHeap.put_next, AHeap.new_next, hGn]
    have hkH2 : Keeps h1 H2 := by rw [hH2]; exact ((hkG.new _).new _).put (by omega) _
    have hm2 : H2.own.get (h1.next + 1) = some (.map (mapOf [])) := by rw [hH2, AHeap.put_get, if_neg (by omega), AHeap.new_get, AHeap.new_next, if_neg (by omega), AHeap.new_get, if_pos hGn.symm]; rfl
    have h82c : H2.own.get (h1.next + 2) = some (.cells [.map (some (h1.next + 1))]) := by rw [hH2, AHeap.put_get, if_pos rfl]
    have h62 : H2.own.get h1.next = some (.cells [.slice ca n cc]) := by rw [hH2, AHeap.put_get, if_neg (by omega), AHeap.new_get, AHeap.new_next, if_neg (by omega), AHeap.new_get, if_neg (by omega)]; exact hG6
    have hS0 : StM cl 0 [] := ⟨fun p hp => by simp at hp, fun q k hq => by omega⟩
    have hn2 : h1.next + 3 ≤ H2.next := by omega
    have e1 : ¬ h1.next = h1.next + 1 := by omega
    rw [hH2, hG] at hkH2 hm2 h82c h62 hn2
    repeat (first | (with_reducible first | apply x_seq | apply x_block | apply x_region | apply x_exit | apply x_ret | apply x_skip | apply t_normal | apply t_exit | apply t_ret | apply b_normal | apply b_ret | apply b_same | apply ops_nil | apply g_T | apply g_F | apply c_T | apply c_F) | (with_reducible refine b_other (by decide) ?_) | ((with_reducible apply x_draws); (with_reducible apply d_pure); (next => kernel_rfl)) | ((with_reducible first | apply ops_d | apply ops_g | apply x_c); (next => simp only [rop, opd, celsL, oneV, aadd, binV, isSh, intBin, scEq, keq, unV, fillL, oP, oA, oS, wantedA, BX, BL, BS, seval, *]; with_reducible exact rfl)))
    refine WPX.loop hmix (fun k σ => ∃ i st, i ≤ n ∧ k = n - i ∧ eget σ.e 1 = .int .i64 limit ∧ eget σ.e 2 = .pointer (some ⟨h.next, 0, some 0⟩) ∧ eget σ.e 4 = .pointer (some ⟨h.next + 1, 0, some 0⟩) ∧ eget σ.e 6 = .pointer (some ⟨h1.next, 0, some 0⟩) ∧ eget σ.e 8 = .pointer (some ⟨h1.next + 2, 0, some 0⟩) ∧
      eget σ.e 30 = .slice ca n cc ∧ eget σ.e 31 = .int .i64 n ∧ eget σ.e 32 = .int .i64 (i : Nat) ∧ Keeps h1 σ.h ∧ σ.h.own.get (h1.next + 1) = some (.map (mapOf st)) ∧ σ.h.own.get (h1.next + 2) = some (.cells [.map (some (h1.next + 1))]) ∧ σ.h.own.get h1.next = some (.cells [.slice ca n cc]) ∧ h1.next + 3 ≤ σ.h.next ∧ StM cl i st) n ?h1 ?round1
    case h1 => exact ⟨0, [], Nat.zero_le _, rfl, (by simp only [rop, opd, celsL, oneV, aadd, binV, isSh, intBin, scEq, keq, unV, fillL, oP, oA, oS, wantedA, BX, BL, BS, seval, *]), (by simp only [rop, opd, celsL, oneV, aadd, binV, isSh, intBin, scEq, keq, unV, fillL, oP, oA, oS, wantedA, BX, BL, BS, seval, *]), (by simp only [rop, opd, celsL, oneV, aadd, binV, isSh, intBin, scEq, keq, unV, fillL, oP, oA, oS, wantedA, BX, BL, BS, seval, *]), (by simp only [rop, opd, celsL, oneV, aadd, binV, isSh, intBin, scEq, keq, unV, fillL, oP, oA, oS, wantedA, BX, BL, BS, seval, *]), (by simp only [rop, opd, celsL, oneV, aadd, binV, isSh, intBin, scEq, keq, unV, fillL, oP, oA, oS, wantedA, BX, BL, BS, seval, *]), (by simp only [rop, opd, celsL, oneV, aadd, binV, isSh, intBin, scEq, keq, unV, fillL, oP, oA, oS, wantedA, BX, BL, BS, seval, *]), (by simp only [rop, opd, celsL, oneV, aadd, binV, isSh, intBin, scEq, keq, unV, fillL, oP, oA, oS, wantedA, BX, BL, BS, seval, *]), (by simp only [rop, opd, celsL, oneV, aadd, binV, isSh, intBin, scEq, keq, unV, fillL, oP, oA, oS, wantedA, BX, BL, BS, seval, *]), hkH2, hm2, h82c, h62, hn2, hS0⟩
    clear hkH2 hm2 h82c h62 hn2 hS0 hH2 hH2n hG hGn hkG hG6 hr1 hkc e1
    rintro K ⟨e, g⟩ ⟨i, st, hi, rfl, e1, e2, e4, e6, e8, e30, e31, e32, hkg, hmg, h8g, h6g, hgn, hS⟩
    dsimp only at e1 e2 e4 e6 e8 e30 e31 e32 hkg hmg h8g h6g hgn
    by_cases hlt : i < n
    · have hltI : (i : Int) < n := by omega
      have hw2 : IntKind.i64.wrap ((i : Int) + 1) = ((i + 1 : Nat) : Int) := wrap_i64 (by omega) (by omega)
      obtain ⟨k, hk⟩ : ∃ k, cl[i]? = some k := ⟨_, List.getElem?_eq_getElem (by rw [hcl.out]; exact hlt)⟩
      have hx : (cl.map numV)[i]? = some (numV k) := by simp [hk]
      obtain ⟨d2, hd21, _, hd23⟩ := ((hoc.keeps hkg).sl (W := W)).at hx
      rw [List.length_map, hcl.out] at hd21
      have hr2 := (hd23 0 (.int .i64 k) rfl).1
      have hdd2 : aadd d2 0 = d2 := rfl
      rw [hdd2] at hr2
      obtain ⟨st', hmu, hS'⟩ := hS.upd hmg hk
      have hkf : Keeps h1 (g.put (h1.next + 1) (.map (mapOf st'))) := hkg.put (by omega) _
      have f1 : (g.put (h1.next + 1) (.map (mapOf st'))).own.get (h1.next + 1) = some (.map (mapOf st')) := by rw [AHeap.put_get, if_pos rfl]
      have f2 : (g.put (h1.next + 1) (.map (mapOf st'))).own.get (h1.next + 2) = some (.cells [.map (some (h1.next + 1))]) := by rw [AHeap.put_get, if_neg (by omega)]; exact h8g
      have f3 : (g.put (h1.next + 1) (.map (mapOf st'))).own.get h1.next = some (.cells [.slice ca n cc]) := by rw [AHeap.put_get, if_neg (by omega)]; exact h6g
      clear hd23 hx hk hS
      repeat (first | (with_reducible first | apply x_seq | apply x_block | apply x_region | apply x_exit | apply x_ret | apply x_skip | apply t_normal | apply t_exit | apply t_ret | apply b_normal | apply b_ret | apply b_same | apply ops_nil | apply g_T | apply g_F | apply c_T | apply c_F) | (with_reducible refine b_other (by decide) ?_) | ((with_reducible apply x_draws); (with_reducible apply d_pure); (next => kernel_rfl)) | ((with_reducible first | apply ops_d | apply ops_g | apply x_c); (next => simp only [rop, opd, celsL, oneV, aadd, binV, isSh, intBin, scEq, keq, unV, fillL, oP, oA, oS, wantedA, BX, BL, BS, seval, *]; with_reducible exact rfl)))
      exact ⟨n - (i + 1), by omega, i + 1, st', by omega, rfl, (by simp only [rop, opd, celsL, oneV, aadd, binV, isSh, intBin, scEq, keq, unV, fillL, oP, oA, oS, wantedA, BX, BL, BS, seval, *]), (by simp only [rop, opd, celsL, oneV, aadd, binV, isSh, intBin, scEq, keq, unV, fillL, oP, oA, oS, wantedA, BX, BL, BS, seval, *]), (by simp only [rop, opd, celsL, oneV, aadd, binV, isSh, intBin, scEq, keq, unV, fillL, oP, oA, oS, wantedA, BX, BL, BS, seval, *]), (by simp only [rop, opd, celsL, oneV, aadd, binV, isSh, intBin, scEq, keq, unV, fillL, oP, oA, oS, wantedA, BX, BL, BS, seval, *]), (by simp only [rop, opd, celsL, oneV, aadd, binV, isSh, intBin, scEq, keq, unV, fillL, oP, oA, oS, wantedA, BX, BL, BS, seval, *]), (by simp only [rop, opd, celsL, oneV, aadd, binV, isSh, intBin, scEq, keq, unV, fillL, oP, oA, oS, wantedA, BX, BL, BS, seval, *]), (by simp only [rop, opd, celsL, oneV, aadd, binV, isSh, intBin, scEq, keq, unV, fillL, oP, oA, oS, wantedA, BX, BL, BS, seval, *]), (by simp only [rop, opd, celsL, oneV, aadd, binV, isSh, intBin, scEq, keq, unV, fillL, oP, oA, oS, wantedA, BX, BL, BS, seval, *]), hkf, f1, f2, f3, hgn, hS'⟩
    · have hltI : ¬ (i : Int) < n := by omega
      have hin : i = n := by omega
      rw [hin] at hS
      clear hin
      have hrep : ∀ k : Int, (∃ q : Nat, q < n ∧ cl.getD q (-1) = k) → _ := fun k hk => hS.rep hcl.out hk
      have hI : MinI A cl (repOf st) := ⟨w, hCl, fun k _ hk => by
        rw [← hnn.out] at hk ⊢
        obtain ⟨a, b, _⟩ := hrep k hk
        exact ⟨a, b⟩⟩
      have hbg : g.own.get h.next = some (.cells [.slice fa n fc, .slice aa n ac]) := by rw [hkg.same _ (by omega)]; exact hb1
      have hb4g : g.own.get (h.next + 1) = some (.cells [.slice none 0 0, .slice none 0 0]) := by rw [hkg.same _ (by omega)]; exact hb41
      have hkhg : Keeps h g := hk01.trans hkg
      have hrg := hr0k g hkg
      have hDn : ∀ k, minD A cl k → ∃ q : Nat, q < n ∧ cl.getD q (-1) = k := fun k hk => by have := hk.2; rw [← hnn.out] at this; exact this
      have hkey : ∀ N, (rounds (minE A cl (repOf st)) (cl.getD 0 (-1)) N).1.length ≤ n := fun N => by
        refine keys_bound (rounds_nodup _ _ N) (fun k hk => ?_)
        have hd0 : minD A cl (cl.getD 0 (-1)) := ⟨hk0p, 0, by rw [← hnn.out]; exact hn0, rfl⟩
        have hdE : ∀ k, minD A cl k → ∀ y ∈ minE A cl (repOf st) k, minD A cl y.2.2 := fun k hk y hy => by
          obtain ⟨r1, r2⟩ := hI.rep k hk.1 hk.2
          obtain ⟨h1, z, hz, e⟩ := byClass_keys cl _ y hy
          have hzr := (w.range (List.mem_of_getElem? (getD_arcs w r1)) hz).2
          exact ⟨h1, z.2.2.toNat, by omega, e.symm⟩
        obtain ⟨h2, q, hq, e⟩ := rounds_keys hd0 hdE N k hk
        have := hCl.bound q hq
        have := hnn.out
        omega
      have h82 := f82_ok W g (cl.getD 0 (-1)) 79 80 #[.pointer (some ⟨h.next, 0, some 0⟩), .pointer (some ⟨h1.next + 2, 0, some 0⟩)] #[.pointer (some ⟨h.next, 0, some 0⟩), .pointer (some ⟨h1.next + 2, 0, some 0⟩), .pointer (some ⟨h1.next, 0, some 0⟩)] limit (minF A (repOf st)) (minE A cl (repOf st)) (minD A cl)
        ⟨hk0p, 0, by rw [← hnn.out]; exact hn0, rfl⟩
        (fun k hk y hy => by
          obtain ⟨r1, r2⟩ := hI.rep k hk.1 hk.2
          obtain ⟨h1, z, hz, e⟩ := byClass_keys cl _ y hy
          have hzr := (w.range (List.mem_of_getElem? (getD_arcs w r1)) hz).2
          exact ⟨h1, z.2.2.toNat, by omega, e.symm⟩)
        (fun k hk => by
          obtain ⟨r1, r2⟩ := hI.rep k hk.1 hk.2
          exact byClassM_in (arcs_in w r1).2)
        (fun k hk => by
          obtain ⟨r1, r2⟩ := hI.rep k hk.1 hk.2
          exact Nat.lt_of_le_of_lt (byClassM_len _) (hb _ (List.mem_of_getElem? (getD_arcs w r1))))
        (fun N => by have := hkey N; omega) hlimit
        (fun h' k hk hDk => by
          obtain ⟨r1, r2, r3⟩ := hrep k (hDn k hDk)
          exact f79_ok W h' h.next (h1.next + 1) (h1.next + 2) A _ _ vs k (repOf st k) (by rw [hk.same _ (by omega)]; exact hbg) (hA'.keeps (hkhg.trans hk)) (by rw [hk.same _ (by omega)]; exact h8g)
            (r3 (by rw [hk.same _ (by omega)]; exact hmg)) (by rw [← hnn.out]; exact r1))
        (fun h' k hk hDk => by
          obtain ⟨r1, r2, r3⟩ := hrep k (hDn k hDk)
          have hcs' := (hoc.keeps (hkg.trans hk)).sl (W := W)
          rw [List.length_map, hcl.out] at hcs'
          exact f80_ok W h' h.next (h1.next + 1) (h1.next + 2) h1.next A _ _ vs k (repOf st k) cl _ (by rw [hk.same _ (by omega)]; exact hbg) (hA'.keeps (hkhg.trans hk)) (by rw [hk.same _ (by omega)]; exact h8g) (by rw [hk.same _ (by omega)]; exact h6g) hcs'
            (by rw [hcl.out]; exact hnn.out) w hb (r3 (by rw [hk.same _ (by omega)]; exact hmg)) (by rw [← hnn.out]; exact r1))
      rw [← hk0.out] at h82
      clear hrep hDn
      repeat (first | (with_reducible first | apply x_seq | apply x_block | apply x_region | apply x_exit | apply x_ret | apply x_skip | apply t_normal | apply t_exit | apply t_ret | apply b_normal | apply b_ret | apply b_same | apply ops_nil | apply g_T | apply g_F | apply c_T | apply c_F) | (with_reducible refine b_other (by decide) ?_) | ((with_reducible apply x_draws); (with_reducible apply d_pure); (next => kernel_rfl)) | ((with_reducible first | apply ops_d | apply ops_g | apply x_c); (next => simp only [rop, opd, celsL, oneV, aadd, binV, isSh, intBin, scEq, keq, unV, fillL, oP, oA, oS, wantedA, BX, BL, BS, seval, *]; with_reducible exact rfl)))
      refine ops_callK (by simp only [rop, opd, celsL, oneV, aadd, binV, isSh, intBin, scEq, keq, unV, fillL, oP, oA, oS, wantedA, BX, BL, BS, seval, *]) (by simp only [List.map_cons, List.map_nil, rop, opd, celsL, oneV, aadd, binV, isSh, intBin, scEq, keq, unV, fillL, oP, oA, oS, wantedA, BX, BL, BS, seval, *]) h82 ?_
      rintro r2 g2 ⟨vf', va', vs', N, hN, rfl, hAV, hk2⟩
      clear h82
      rw [hk0.out] at hN hAV
      obtain ⟨hcan, hacc⟩ := min_canon hI (by rw [← hnn.out]; exact hn0) hk0p hN
      have hMl : (keyA (minE A cl (repOf st)) (minF A (repOf st)) (cl.getD 0 (-1)) N).fin.length ≤ n ∧ ∀ l ∈ (keyA (minE A cl (repOf st)) (minF A (repOf st)) (cl.getD 0 (-1)) N).arcs, l.length < 1048576 := by
        refine ⟨?_, fun l hl => ?_⟩
        rotate_left
        · obtain ⟨k, hk, hle⟩ := keyA_len (min_keyed hI (by rw [← hnn.out]; exact hn0) hk0p hN) l hl
          obtain ⟨r1, r2⟩ := hI.rep k hk.1 hk.2
          exact Nat.lt_of_le_of_lt hle (Nat.lt_of_le_of_lt (byClassM_len _) (hb _ (List.mem_of_getElem? (getD_arcs w r1))))
        show ((rounds (minE A cl (repOf st)) (cl.getD 0 (-1)) N).1.map (minF A (repOf st))).length ≤ n
        rw [List.length_map]; exact hkey N
      obtain ⟨fa', n1, fc', aa', n2, ac', rfl, rfl⟩ := AutoV.slices hAV.auto
      have hb42 : g2.own.get (h.next + 1) = some (.cells [.slice none 0 0, .slice none 0 0]) := by rw [hk2.same _ (by omega)]; exact hb4g
      have hkf : Keeps h (g2.put (h.next + 1) (.cells [.slice fa' n1 fc', .slice aa' n2 ac'])) := (hkhg.trans hk2).put (by omega) _
      have hF : FreshA W h.next (g2.put (h.next + 1) (.cells [.slice fa' n1 fc', .slice aa' n2 ac'])) (keyA (minE A cl (repOf st)) (minF A (repOf st)) (cl.getD 0 (-1)) N) (.slice fa' n1 fc') (.slice aa' n2 ac') vs' := (FreshA.put hAV (by omega) _).base (by omega)
      have hrs : aloadN W (g2.put (h.next + 1) (.cells [.slice fa' n1 fc', .slice aa' n2 ac'])) ⟨h.next + 1, 0, some 0⟩ 2 = some [.slice fa' n1 fc', .slice aa' n2 ac'] := aload2 (by rw [AHeap.put_get, if_pos rfl])
      repeat (first | (with_reducible first | apply x_seq | apply x_block | apply x_region | apply x_exit | apply x_ret | apply x_skip | apply t_normal | apply t_exit | apply t_ret | apply b_normal | apply b_ret | apply b_same | apply ops_nil | apply g_T | apply g_F | apply c_T | apply c_F) | (with_reducible refine b_other (by decide) ?_) | ((with_reducible apply x_draws); (with_reducible apply d_pure); (next => kernel_rfl)) | ((with_reducible first | apply ops_d | apply ops_g | apply x_c); (next => simp only [rop, opd, celsL, oneV, aadd, binV, isSh, intBin, scEq, keq, unV, fillL, oP, oA, oS, wantedA, BX, BL, BS, seval, *]; with_reducible exact rfl)))
      refine ⟨.inr rfl, [.agg #[.slice fa' n1 fc', .slice aa' n2 ac'], .bool true], ?_, _, _, _, vs', rfl, hcan, hacc, hMl, hF, hkf⟩
      simp only [resVals, rop, opd, celsL, oneV, aadd, binV, isSh, intBin, scEq, keq, unV, fillL, oP, oA, oS, wantedA, BX, BL, BS, seval, *]
end Go.Proofs.YtlipmjpapkfaeaaGreatDoor.Fn
end
section
set_option linter.unusedSimpArgs false
set_option linter.unusedVariables false
set_option maxRecDepth 100000
namespace Go.Proofs.YtlipmjpapkfaeaaGreatDoor.Fn
open Go Go.Mach Go.RowKit Go.Proofs
attribute [local irreducible] AOps WPX DOps thenS blockS AOp GOps CPick

theorem reach_len {A : Aut} (w : Wf A) (h0 : 0 < A.fin.length) {N M : Nat} (hN : (rounds (edgesA A) 0 N).1.length = N) (hb : ∀ l ∈ A.arcs, l.length < M) : ∀ l ∈ (reachA A N).arcs, l.length < M := by
  intro l hl
  have K := edgesA_keyed w h0 hN
  obtain ⟨i, hi⟩ := List.mem_iff_getElem?.1 hl
  have hlt : i < N := by
    have := (List.getElem?_eq_some_iff.1 hi).1
    rwa [show (reachA A N).arcs.length = N from rounds_arcs hN N (Nat.le_refl _)] at this
  obtain ⟨k, h1, h2, h3, h4⟩ := rounds_arc hN hlt
  have hD := rounds_keys K.d0 K.dE N k (List.mem_of_getElem? h1)
  rw [show (reachA A N).arcs[i]? = (rounds (edgesA A) 0 N).2[i]? from rfl, h3] at hi
  cases hi
  have := (expFold_len (edgesA A k) ((rounds (edgesA A) 0 i).1, [])).1
  have h5 := hb _ (List.mem_of_getElem? (edgesA_mem w.len hD))
  simp only [List.length_nil] at this
  unfold expState
  omega

/-- What Minimize answers. -/
def MinR (W : World) (h : AHeap) (A : Aut) (r : Value) (h' : AHeap) : Prop :=
  (validate A ≠ 0 ∧ r = .tuple #[.agg #[.slice none 0 0, .slice none 0 0], .int .i64 1]) ∨
  (validate A = 0 ∧ ∃ M vf va vs, r = .tuple #[.agg #[vf, va], .int .i64 0] ∧ Canon M ∧ (∀ cs, acc M 0 cs = acc A 0 cs) ∧ (M.fin.length ≤ A.fin.length ∧ ∀ l ∈ M.arcs, l.length < 1048576) ∧ FreshA W h.next h' M vf va vs)

set_option maxHeartbeats 8000000 in
theorem f21_ok (W : World) (h : AHeap) (v : Value) (A : Aut) (vf va : Value) (vs : List Value) (hA : AutoV W h v A vf va vs) (hb : ∀ l ∈ A.arcs, l.length < 1048576) :
    ACalls Tryz.prog W 21 [v] h (fun r h' => MinR W h A r h' ∧ Keeps h h') := by
  have hA' := hA
  obtain ⟨rfl, hf, ha, hl, he⟩ := hA
  obtain ⟨fa, fc, hfs⟩ := hf.len
  obtain ⟨aa, ac, has⟩ := ha.len
  rw [List.length_map] at hfs has
  rw [hl] at has
  subst hfs has
  refine ACalls_ofX hmix c21 (Nat.le_of_ble_eq_true rfl) ?_
  unfold r21
  simp only [envOf1]
  obtain ⟨H, hH⟩ : ∃ H, H = (h.new (.cells [.slice fa A.fin.length fc, .slice aa A.arcs.length ac])).new (.cells [.slice none 0 0, .slice none 0 0]) := ⟨_, rfl⟩
  have hHn : H.next = h.next + 2 := by rw [hH]; rfl
  have hkH : Keeps h H := by rw [hH]; exact ((Keeps.refl h).new _).new _
  have hbH : H.own.get h.next = some (.cells [.slice fa A.fin.length fc, .slice aa A.arcs.length ac]) := by rw [hH, AHeap.new_get, AHeap.new_next, if_neg (by omega), AHeap.new_get, if_pos rfl]
  have hb2 : H.own.get (h.next + 1) = some (.cells [.slice none 0 0, .slice none 0 0]) := by rw [hH, AHeap.new_get, AHeap.new_next, if_pos rfl]
  have h16 := f16_ok W H _ A _ _ vs (hA'.keeps hkH) (fun l hl => by have := hb l hl; omega)
  have hldH : aloadN W H ⟨h.next, 0, some 0⟩ 2 = some [.slice fa A.fin.length fc, .slice aa A.arcs.length ac] := aload2 hbH
  rw [hH] at h16 hldH
  repeat (first | (with_reducible first | apply x_seq | apply x_block | apply x_region | apply x_exit | apply x_ret | apply x_skip | apply t_normal | apply t_exit | apply t_ret | apply b_normal | apply b_ret | apply b_same | apply ops_nil | apply g_T | apply g_F | apply c_T | apply c_F) | (with_reducible refine b_other (by decide) ?_) | ((with_reducible apply x_draws); (with_reducible apply d_pure); (next => kernel_rfl)) | ((with_reducible first | apply ops_d | apply ops_g | apply x_c); (next => simp only [rop, opd, celsL, oneV, aadd, binV, isSh, intBin, scEq, keq, unV, fillL, oP, oA, oS, wantedA, BX, BL, BS, seval, *]; with_reducible exact rfl)))
  refine ops_callK (by simp only [rop, opd, celsL, oneV, aadd, binV, isSh, intBin, scEq, keq, unV, fillL, oP, oA, oS, wantedA, BX, BL, BS, seval, *]) (by simp only [List.map_cons, List.map_nil, rop, opd, celsL, oneV, aadd, binV, isSh, intBin, scEq, keq, unV, fillL, oP, oA, oS, wantedA, BX, BL, BS, seval, *]) h16 ?_
  rintro r1 h1 ⟨rfl, hk1⟩
  rw [← hH] at hk1
  clear h16 hldH
  have hk01 : Keeps h h1 := hkH.trans hk1
  have hlt1 : h.next + 1 < h1.next := by have := hk1.le; omega
  have hb1 : h1.own.get h.next = some (.cells [.slice fa A.fin.length fc, .slice aa A.arcs.length ac]) := by rw [hk1.same _ (by omega)]; exact hbH
  have hb21 : h1.own.get (h.next + 1) = some (.cells [.slice none 0 0, .slice none 0 0]) := by rw [hk1.same _ (by omega)]; exact hb2
  by_cases hv0 : validate A = 0
  case neg =>
    have hkf : Keeps h (h1.put (h.next + 1) (.cells [.slice none 0 0, .slice none 0 0])) := hk01.put (by omega) _
    have hrs : aloadN W (h1.put (h.next + 1) (.cells [.slice none 0 0, .slice none 0 0])) ⟨h.next + 1, 0, some 0⟩ 2 = some [.slice none 0 0, .slice none 0 0] := aload2 (by rw [AHeap.put_get, if_pos rfl])
    repeat (first | (with_reducible first | apply x_seq | apply x_block | apply x_region | apply x_exit | apply x_ret | apply x_skip | apply t_normal | apply t_exit | apply t_ret | apply b_normal | apply b_ret | apply b_same | apply ops_nil | apply g_T | apply g_F | apply c_T | apply c_F) | (with_reducible refine b_other (by decide) ?_) | ((with_reducible apply x_draws); (with_reducible apply d_pure); (next => kernel_rfl)) | ((with_reducible first | apply ops_d | apply ops_g | apply x_c); (next => simp only [rop, opd, celsL, oneV, aadd, binV, isSh, intBin, scEq, keq, unV, fillL, oP, oA, oS, wantedA, BX, BL, BS, seval, *]; with_reducible exact rfl)))
    refine ⟨.inr rfl, [.agg #[.slice none 0 0, .slice none 0 0], .int .i64 1], ?_, .inl ⟨hv0, rfl⟩, hkf⟩
    simp only [resVals, rop, opd, celsL, oneV, aadd, binV, isSh, intBin, scEq, keq, unV, fillL, oP, oA, oS, wantedA, BX, BL, BS, seval, *]
  have hv0' : (!decide (validate A = 0)) = false := by simp [hv0]
  have w := Wf.of_validate hv0
  obtain ⟨hn1, hn2, _, _⟩ := validate_zero hv0
  have hn0 : 0 < A.fin.length := by omega
  have h45 := f45_ok W h1 _ A _ _ vs (hA'.keeps hk01) hb hv0
  have hld1 : aloadN W h1 ⟨h.next, 0, some 0⟩ 2 = some [.slice fa A.fin.length fc, .slice aa A.arcs.length ac] := aload2 hb1
  replace hv0 : Hid (validate A = 0) := hv0
  repeat (first | (with_reducible first | apply x_seq | apply x_block | apply x_region | apply x_exit | apply x_ret | apply x_skip | apply t_normal | apply t_exit | apply t_ret | apply b_normal | apply b_ret | apply b_same | apply ops_nil | apply g_T | apply g_F | apply c_T | apply c_F) | (with_reducible refine b_other (by decide) ?_) | ((with_reducible apply x_draws); (with_reducible apply d_pure); (next => kernel_rfl)) | ((with_reducible first | apply ops_d | apply ops_g | apply x_c); (next => simp only [rop, opd, celsL, oneV, aadd, binV, isSh, intBin, scEq, keq, unV, fillL, oP, oA, oS, wantedA, BX, BL, BS, seval, *]; with_reducible exact rfl)))
  refine ops_callK (by simp only [rop, opd, celsL, oneV, aadd, binV, isSh, intBin, scEq, keq, unV, fillL, oP, oA, oS, wantedA, BX, BL, BS, seval, *]) (by simp only [List.map_cons, List.map_nil, rop, opd, celsL, oneV, aadd, binV, isSh, intBin, scEq, keq, unV, fillL, oP, oA, oS, wantedA, BX, BL, BS, seval, *]) h45 ?_
  rintro r2 h2 ⟨vf2, va2, vs2, N, hN, rfl, hF2, hk2⟩
  clear h45 hld1
  obtain ⟨w2, hl2, hN0, hNn, hacc2⟩ := reach_wf w hn0 hN
  have hlen2 := reach_len w hn0 hN hb
  have h44 := f44_ok W h2 _ (reachA A N) _ _ vs2 256 hF2.auto w2 (by omega) (by omega) hlen2 (by omega) (by omega)
  have hb22 : h2.own.get (h.next + 1) = some (.cells [.slice none 0 0, .slice none 0 0]) := by rw [hk2.same _ (by omega)]; exact hb21
  have hlt2 : h.next + 1 < h2.next := by have := hk2.le; omega
  replace hN : True := trivial
  repeat (first | (with_reducible first | apply x_seq | apply x_block | apply x_region | apply x_exit | apply x_ret | apply x_skip | apply t_normal | apply t_exit | apply t_ret | apply b_normal | apply b_ret | apply b_same | apply ops_nil | apply g_T | apply g_F | apply c_T | apply c_F) | (with_reducible refine b_other (by decide) ?_) | ((with_reducible apply x_draws); (with_reducible apply d_pure); (next => kernel_rfl)) | ((with_reducible first | apply ops_d | apply ops_g | apply x_c); (next => simp only [rop, opd, celsL, oneV, aadd, binV, isSh, intBin, scEq, keq, unV, fillL, oP, oA, oS, wantedA, BX, BL, BS, seval, *]; with_reducible exact rfl)))
  refine ops_callK (by simp only [rop, opd, celsL, oneV, aadd, binV, isSh, intBin, scEq, keq, unV, fillL, oP, oA, oS, wantedA, BX, BL, BS, seval, *]) (by simp only [List.map_cons, List.map_nil, rop, opd, celsL, oneV, aadd, binV, isSh, intBin, scEq, keq, unV, fillL, oP, oA, oS, wantedA, BX, BL, BS, seval, *]) h44 ?_
  rintro r3 h3 ⟨M, vf3, va3, vs3, rfl, hcan, hacc3, hMl, hF3, hk3⟩
  clear h44
  obtain ⟨fa3, n3, fc3, aa3, m3, ac3, rfl, rfl⟩ := AutoV.slices hF3.auto
  have hb23 : h3.own.get (h.next + 1) = some (.cells [.slice none 0 0, .slice none 0 0]) := by rw [hk3.same _ (by omega)]; exact hb22
  have hlt3 : h.next + 1 < h3.next := by have := hk3.le; omega
  have hne : ¬ h.next + 1 = h3.next := by omega
  obtain ⟨G, hG⟩ : ∃ G, G = (h3.new (.cells [.slice none 0 0, .slice none 0 0])).put h3.next (.cells [.slice fa3 n3 fc3, .slice aa3 m3 ac3]) := ⟨_, rfl⟩
  have hkG : Keeps h3 G := by rw [hG]; exact ((Keeps.refl h3).new _).put (Nat.le_refl _) _
  have hldG : aloadN W G ⟨h3.next, 0, some 0⟩ 2 = some [.slice fa3 n3 fc3, .slice aa3 m3 ac3] := aload2 (by rw [hG, AHeap.put_get, if_pos rfl])
  have hkf : Keeps h (G.put (h.next + 1) (.cells [.slice fa3 n3 fc3, .slice aa3 m3 ac3])) := (((hk01.trans hk2).trans hk3).trans hkG).put (by omega) _
  have hFf : FreshA W h.next (G.put (h.next + 1) (.cells [.slice fa3 n3 fc3, .slice aa3 m3 ac3])) M (.slice fa3 n3 fc3) (.slice aa3 m3 ac3) vs3 := ((hF3.keeps hkG).put (by omega) _).base (by omega)
  have hrs : aloadN W (G.put (h.next + 1) (.cells [.slice fa3 n3 fc3, .slice aa3 m3 ac3])) ⟨h.next + 1, 0, some 0⟩ 2 = some [.slice fa3 n3 fc3, .slice aa3 m3 ac3] := aload2 (by rw [AHeap.put_get, if_pos rfl])
  rw [hG] at hldG hkf hFf hrs
  repeat (first | (with_reducible first | apply x_seq | apply x_block | apply x_region | apply x_exit | apply x_ret | apply x_skip | apply t_normal | apply t_exit | apply t_ret | apply b_normal | apply b_ret | apply b_same | apply ops_nil | apply g_T | apply g_F | apply c_T | apply c_F) | (with_reducible refine b_other (by decide) ?_) | ((with_reducible apply x_draws); (with_reducible apply d_pure); (next => kernel_rfl)) | ((with_reducible first | apply ops_d | apply ops_g | apply x_c); (next => simp only [rop, opd, celsL, oneV, aadd, binV, isSh, intBin, scEq, keq, unV, fillL, oP, oA, oS, wantedA, BX, BL, BS, seval, *]; with_reducible exact rfl)))
  refine ⟨.inr rfl, [.agg #[.slice fa3 n3 fc3, .slice aa3 m3 ac3], .int .i64 0], ?_, .inr ⟨hv0.out, M, _, _, vs3, rfl, hcan, fun cs => (hacc3 cs).trans (hacc2 cs), ⟨by have := hMl.1; omega, hMl.2⟩, hFf⟩, hkf⟩
  simp only [resVals, rop, opd, celsL, oneV, aadd, binV, isSh, intBin, scEq, keq, unV, fillL, oP, oA, oS, wantedA, BX, BL, BS, seval, *]
end Go.Proofs.YtlipmjpapkfaeaaGreatDoor.Fn
end
section
set_option maxRecDepth 100000
namespace Go.Proofs.YtlipmjpapkfaeaaGreatDoor.Fn
open Go Go.Mach
def r5 : RFunc := ⟨31, (.seq (.region [⟨(some 1), .box (.tmp 0), none⟩, ⟨(some 2), .mov (.const (.bool false)), none⟩]) (.seq (.seq (.region [⟨(some 7), .loadN (.tmp 1) 2, none⟩, ⟨(some 8), .buildSl [(.slice none 0 0), (.slice none 0 0)] [(0, 2, (.tmp 7))] 1 2, none⟩, ⟨(some 9), .call (.func 15) [(.const (.int .i64 16)), (.tmp 8)], none⟩]) (.cond (.tmp 9) (.seq (.region [⟨(some 2), .mov (.const (.bool true)), none⟩]) .ret) .skip)) (.seq (.region [⟨(some 11), .loadN (.tmp 1) 2, none⟩, ⟨(some 12), .call (.func 21) [(.tmp 11)], none⟩, ⟨(some 10), .mov (.tmp 12), none⟩, ⟨(some 13), .extract (.tmp 10) 0, none⟩, ⟨(some 14), .extract (.tmp 10) 1, none⟩, ⟨(some 3), .newv [(.slice none 0 0), (.slice none 0 0)], none⟩, ⟨none, .store (.tmp 3) (.tmp 13) 2, none⟩, ⟨(some 4), .mov (.tmp 14), none⟩]) (.seq (.region [⟨(some 16), .loadN (.tmp 1) 2, none⟩, ⟨(some 17), .call (.func 22) [(.tmp 16)], none⟩, ⟨(some 15), .mov (.tmp 17), none⟩, ⟨(some 18), .extract (.tmp 15) 0, none⟩, ⟨(some 19), .extract (.tmp 15) 1, none⟩, ⟨(some 5), .newv [(.slice none 0 0), (.slice none 0 0)], none⟩, ⟨none, .store (.tmp 5) (.tmp 18) 2, none⟩, ⟨(some 6), .mov (.tmp 19), none⟩]) (.seq (.region [⟨(some 20), .loadN (.tmp 3) 2, none⟩, ⟨(some 21), .loadN (.tmp 5) 2, none⟩, ⟨(some 22), .call (.func 23) [(.tmp 20), (.tmp 21)], none⟩, ⟨(some 23), .mov (.tmp 22), none⟩, ⟨(some 24), .mov (.tmp 4), (some (23, true))⟩, ⟨(some 25), .mov (.tmp 6), (some (23, true))⟩, ⟨(some 26), .bin .eql (.sc .i) (.tmp 24) (.tmp 25), (some (23, true))⟩, ⟨(some 27), .pick (.tmp 23) (.tmp 26) (.const (.bool false)), none⟩, ⟨(some 28), .mov (.tmp 27), none⟩, ⟨(some 29), .call (.func 18) [], (some (28, true))⟩, ⟨(some 30), .pick (.tmp 28) (.tmp 29) (.const (.bool false)), none⟩, ⟨(some 2), .mov (.tmp 30), none⟩]) .ret))))), [.tmp 2]⟩
theorem c5 : compFn Tryz.prog 5 = some r5 := by kernel_rfl
def r8 : RFunc := ⟨63, (.seq (.region [⟨(some 2), .box (.tmp 0), none⟩, ⟨(some 4), .mov (.const (.bool false)), none⟩]) (.seq (.seq (.region [⟨(some 9), .loadN (.tmp 2) 2, none⟩, ⟨(some 10), .buildSl [(.slice none 0 0), (.slice none 0 0)] [(0, 2, (.tmp 9))] 1 2, none⟩, ⟨(some 11), .call (.func 15) [(.const (.int .i64 20)), (.tmp 10)], none⟩, ⟨(some 12), .mov (.tmp 11), none⟩, ⟨(some 13), .mov (.tmp 1), (some (12, false))⟩, ⟨(some 14), .lenStr (.tmp 13), (some (12, false))⟩, ⟨(some 15), .bin .gtr (.sc .i) (.tmp 14) (.const (.int .i64 40)), (some (12, false))⟩, ⟨(some 16), .pick (.tmp 12) (.const (.bool true)) (.tmp 15), none⟩]) (.cond (.tmp 16) (.seq (.region [⟨(some 4), .mov (.const (.bool true)), none⟩]) .ret) .skip)) (.seq (.region [⟨(some 18), .loadN (.tmp 2) 2, none⟩, ⟨(some 19), .call (.func 21) [(.tmp 18)], none⟩, ⟨(some 17), .mov (.tmp 19), none⟩, ⟨(some 20), .extract (.tmp 17) 0, none⟩, ⟨(some 21), .extract (.tmp 17) 1, none⟩, ⟨(some 5), .newv [(.slice none 0 0), (.slice none 0 0)], none⟩, ⟨none, .store (.tmp 5) (.tmp 20) 2, none⟩, ⟨(some 6), .mov (.tmp 21), none⟩]) (.seq (.seq (.region [⟨(some 22), .mov (.tmp 6), none⟩, ⟨(some 23), .bin .neq (.sc .i) (.tmp 22) (.const (.int .i64 0)), none⟩]) (.cond (.tmp 23) (.seq (.region [⟨(some 24), .call (.func 18) [], none⟩, ⟨(some 4), .mov (.tmp 24), none⟩]) .ret) .skip)) (.seq (.region [⟨(some 26), .loadN (.tmp 5) 2, none⟩, ⟨(some 27), .call (.func 21) [(.tmp 26)], none⟩, ⟨(some 25), .mov (.tmp 27), none⟩, ⟨(some 28), .extract (.tmp 25) 0, none⟩, ⟨(some 29), .extract (.tmp 25) 1, none⟩, ⟨(some 7), .newv [(.slice none 0 0), (.slice none 0 0)], none⟩, ⟨none, .store (.tmp 7) (.tmp 28) 2, none⟩, ⟨(some 8), .mov (.tmp 29), none⟩]) (.seq (.draws [⟨[⟨(some 30), .mov (.tmp 8), none⟩, ⟨(some 31), .bin .eql (.sc .i) (.tmp 30) (.const (.int .i64 0)), none⟩, ⟨(some 32), .mov (.tmp 31), none⟩, ⟨(some 33), .loadN (.tmp 5) 2, (some (32, true))⟩], [⟨(some 30), .mov (.tmp 8), none⟩, ⟨(some 31), .bin .eql (.sc .i) (.tmp 30) (.const (.int .i64 0)), none⟩, ⟨(some 32), .mov (.tmp 31), none⟩, ⟨(some 33), .loadN (.tmp 5) 2, (some (32, true))⟩], (some ⟨(some 34), .call (.func 16) [(.tmp 33)], (some (32, true))⟩)⟩, ⟨[⟨(some 35), .bin .eql (.sc .i) (.tmp 34) (.const (.int .i64 0)), (some (32, true))⟩, ⟨(some 36), .pick (.tmp 32) (.tmp 35) (.const (.bool false)), none⟩, ⟨(some 37), .mov (.tmp 36), none⟩, ⟨(some 38), .addOff (.tmp 5) 0, (some (37, true))⟩, ⟨(some 39), .load1 (.tmp 38), (some (37, true))⟩, ⟨(some 40), .lenSl (.tmp 39), (some (37, true))⟩, ⟨(some 41), .addOff (.tmp 2) 0, (some (37, true))⟩, ⟨(some 42), .load1 (.tmp 41), (some (37, true))⟩, ⟨(some 43), .lenSl (.tmp 42), (some (37, true))⟩, ⟨(some 44), .bin .leq (.sc .i) (.tmp 40) (.tmp 43), (some (37, true))⟩, ⟨(some 45), .pick (.tmp 37) (.tmp 44) (.const (.bool false)), none⟩, ⟨(some 46), .mov (.tmp 45), none⟩, ⟨(some 47), .loadN (.tmp 5) 2, (some (46, true))⟩, ⟨(some 48), .loadN (.tmp 7) 2, (some (46, true))⟩], [⟨(some 35), .bin .eql (.sc .i) (.tmp 34) (.const (.int .i64 0)), (some (32, true))⟩, ⟨(some 36), .pick (.tmp 32) (.tmp 35) (.const (.bool false)), none⟩, ⟨(some 37), .mov (.tmp 36), none⟩, ⟨(some 38), .addOff (.tmp 5) 0, (some (37, true))⟩, ⟨(some 39), .load1 (.tmp 38), (some (37, true))⟩, ⟨(some 40), .lenSl (.tmp 39), (some (37, true))⟩, ⟨(some 41), .addOff (.tmp 2) 0, (some (37, true))⟩, ⟨(some 42), .load1 (.tmp 41), (some (37, true))⟩, ⟨(some 43), .lenSl (.tmp 42), (some (37, true))⟩, ⟨(some 44), .bin .leq (.sc .i) (.tmp 40) (.tmp 43), (some (37, true))⟩, ⟨(some 45), .pick (.tmp 37) (.tmp 44) (.const (.bool false)), none⟩, ⟨(some 46), .mov (.tmp 45), none⟩, ⟨(some 47), .loadN (.tmp 5) 2, (some (46, true))⟩, ⟨(some 48), .loadN (.tmp 7) 2, (some (46, true))⟩], (some ⟨(some 49), .call (.func 23) [(.tmp 47), (.tmp 48)], (some (46, true))⟩)⟩, ⟨[⟨(some 50), .pick (.tmp 46) (.tmp 49) (.const (.bool false)), none⟩, ⟨(some 51), .mov (.tmp 50), none⟩, ⟨(some 52), .loadN (.tmp 5) 2, (some (51, true))⟩, ⟨(some 53), .mov (.tmp 1), (some (51, true))⟩, ⟨(some 55), .loadN (.tmp 2) 2, (some (51, true))⟩, ⟨(some 56), .mov (.tmp 1), (some (51, true))⟩], [⟨(some 50), .pick (.tmp 46) (.tmp 49) (.const (.bool false)), none⟩, ⟨(some 51), .mov (.tmp 50), none⟩, ⟨(some 52), .loadN (.tmp 5) 2, (some (51, true))⟩, ⟨(some 53), .mov (.tmp 1), (some (51, true))⟩, ⟨(some 55), .loadN (.tmp 2) 2, (some (51, true))⟩, ⟨(some 56), .mov (.tmp 1), (some (51, true))⟩], (some ⟨(some 54), .call (.func 19) [(.tmp 52), (.tmp 53)], (some (51, true))⟩)⟩, ⟨[], [⟨(some 55), .loadN (.tmp 2) 2, (some (51, true))⟩, ⟨(some 56), .mov (.tmp 1), (some (51, true))⟩], (some ⟨(some 57), .call (.func 19) [(.tmp 55), (.tmp 56)], (some (51, true))⟩)⟩, ⟨[⟨(some 58), .bin .eql (.sc .b) (.tmp 54) (.tmp 57), (some (51, true))⟩, ⟨(some 59), .pick (.tmp 51) (.tmp 58) (.const (.bool false)), none⟩, ⟨(some 60), .mov (.tmp 59), none⟩], [⟨(some 58), .bin .eql (.sc .b) (.tmp 54) (.tmp 57), (some (51, true))⟩, ⟨(some 59), .pick (.tmp 51) (.tmp 58) (.const (.bool false)), none⟩, ⟨(some 60), .mov (.tmp 59), none⟩], (some ⟨(some 61), .call (.func 18) [], (some (60, true))⟩)⟩, ⟨[⟨(some 62), .pick (.tmp 60) (.tmp 61) (.const (.bool false)), none⟩, ⟨(some 4), .mov (.tmp 62), none⟩], [⟨(some 62), .pick (.tmp 60) (.tmp 61) (.const (.bool false)), none⟩, ⟨(some 4), .mov (.tmp 62), none⟩], none⟩]) .ret)))))), [.tmp 4]⟩
theorem c8 : compFn Tryz.prog 8 = some r8 := by kernel_rfl
def r22 : RFunc := ⟨12, (.seq (.region [⟨(some 1), .box (.tmp 0), none⟩, ⟨(some 2), .newv [(.slice none 0 0), (.slice none 0 0)], none⟩, ⟨(some 3), .mov (.const (.int .i64 0)), none⟩]) (.seq (.seq (.region [⟨(some 4), .loadN (.tmp 1) 2, none⟩, ⟨(some 5), .call (.func 17) [(.tmp 4)], none⟩, ⟨(some 6), .bin .neq (.sc .i) (.tmp 5) (.const (.int .i64 0)), none⟩]) (.cond (.tmp 6) (.seq (.region [⟨(some 7), .build [(.slice none 0 0), (.slice none 0 0)] [], none⟩, ⟨none, .store (.tmp 2) (.tmp 7) 2, none⟩, ⟨(some 3), .mov (.const (.int .i64 1)), none⟩]) .ret) .skip)) (.seq (.draws [⟨[⟨(some 8), .loadN (.tmp 1) 2, none⟩], [⟨(some 8), .loadN (.tmp 1) 2, none⟩], (some ⟨(some 9), .call (.func 47) [], none⟩)⟩, ⟨[], [⟨(some 8), .loadN (.tmp 1) 2, none⟩], (some ⟨(some 10), .call (.func 46) [(.tmp 8), (.tmp 9), (.const (.int .i64 2))], none⟩)⟩, ⟨[], [], (some ⟨(some 11), .call (.func 48) [(.tmp 10)], none⟩)⟩, ⟨[], [], (some ⟨none, .store (.tmp 2) (.tmp 11) 2, none⟩)⟩, ⟨[⟨(some 3), .mov (.const (.int .i64 0)), none⟩], [⟨(some 3), .mov (.const (.int .i64 0)), none⟩], none⟩]) .ret))), [.many 2 2, .tmp 3]⟩
theorem c22 : compFn Tryz.prog 22 = some r22 := by kernel_rfl
def r23 : RFunc := ⟨89, (.seq (.region [⟨(some 2), .box (.tmp 0), none⟩, ⟨(some 3), .box (.tmp 1), none⟩, ⟨(some 4), .mov (.const (.bool false)), none⟩]) (.seq (.seq (.region [⟨(some 8), .addOff (.tmp 2) 0, none⟩, ⟨(some 9), .load1 (.tmp 8), none⟩, ⟨(some 10), .lenSl (.tmp 9), none⟩, ⟨(some 11), .addOff (.tmp 3) 0, none⟩, ⟨(some 12), .load1 (.tmp 11), none⟩, ⟨(some 13), .lenSl (.tmp 12), none⟩, ⟨(some 14), .bin .neq (.sc .i) (.tmp 10) (.tmp 13), none⟩, ⟨(some 15), .mov (.tmp 14), none⟩, ⟨(some 16), .addOff (.tmp 2) 1, (some (15, false))⟩, ⟨(some 17), .load1 (.tmp 16), (some (15, false))⟩, ⟨(some 18), .lenSl (.tmp 17), (some (15, false))⟩, ⟨(some 19), .addOff (.tmp 3) 1, (some (15, false))⟩, ⟨(some 20), .load1 (.tmp 19), (some (15, false))⟩, ⟨(some 21), .lenSl (.tmp 20), (some (15, false))⟩, ⟨(some 22), .bin .neq (.sc .i) (.tmp 18) (.tmp 21), (some (15, false))⟩, ⟨(some 23), .pick (.tmp 15) (.const (.bool true)) (.tmp 22), none⟩]) (.cond (.tmp 23) (.seq (.region [⟨(some 4), .mov (.const (.bool false)), none⟩]) .ret) .skip)) (.seq (.seq (.region [⟨(some 24), .addOff (.tmp 2) 0, none⟩, ⟨(some 25), .load1 (.tmp 24), none⟩, ⟨(some 26), .lenSl (.tmp 25), none⟩, ⟨(some 27), .mov (.const (.int .i64 0)), none⟩]) (.block 0 (.loop (.seq (.region [⟨(some 28), .bin .lss (.sc .i) (.tmp 27) (.tmp 26), none⟩]) (.seq (.cond (.tmp 28) .skip (.exit 0)) (.seq (.block 1 (.seq (.region [⟨(some 29), .mov (.tmp 27), none⟩, ⟨(some 5), .mov (.tmp 29), none⟩]) (.seq (.draws [⟨[⟨(some 30), .addOff (.tmp 2) 0, none⟩, ⟨(some 31), .load1 (.tmp 30), none⟩, ⟨(some 32), .mov (.tmp 5), none⟩, ⟨(some 33), .idxA 1 (.tmp 31) (.tmp 32), none⟩, ⟨(some 34), .load1 (.tmp 33), none⟩, ⟨(some 35), .addOff (.tmp 3) 0, none⟩, ⟨(some 36), .load1 (.tmp 35), none⟩, ⟨(some 37), .mov (.tmp 5), none⟩, ⟨(some 38), .idxA 1 (.tmp 36) (.tmp 37), none⟩, ⟨(some 39), .load1 (.tmp 38), none⟩, ⟨(some 40), .bin .neq (.sc .b) (.tmp 34) (.tmp 39), none⟩], [⟨(some 30), .addOff (.tmp 2) 0, none⟩, ⟨(some 31), .load1 (.tmp 30), none⟩, ⟨(some 32), .mov (.tmp 5), none⟩, ⟨(some 33), .idxA 1 (.tmp 31) (.tmp 32), none⟩, ⟨(some 34), .load1 (.tmp 33), none⟩, ⟨(some 35), .addOff (.tmp 3) 0, none⟩, ⟨(some 36), .load1 (.tmp 35), none⟩, ⟨(some 37), .mov (.tmp 5), none⟩, ⟨(some 38), .idxA 1 (.tmp 36) (.tmp 37), none⟩, ⟨(some 39), .load1 (.tmp 38), none⟩, ⟨(some 40), .bin .neq (.sc .b) (.tmp 34) (.tmp 39), none⟩], none⟩]) (.cond (.tmp 40) (.seq (.region [⟨(some 4), .mov (.const (.bool false)), none⟩]) .ret) .skip)))) (.region [⟨(some 41), .bin .add (.sc .i) (.tmp 27) (.const (.int .i64 1)), none⟩, ⟨(some 27), .mov (.tmp 41), none⟩]))))))) (.seq (.seq (.region [⟨(some 42), .addOff (.tmp 2) 1, none⟩, ⟨(some 43), .load1 (.tmp 42), none⟩, ⟨(some 44), .lenSl (.tmp 43), none⟩, ⟨(some 45), .mov (.const (.int .i64 0)), none⟩]) (.block 2 (.loop (.seq (.region [⟨(some 46), .bin .lss (.sc .i) (.tmp 45) (.tmp 44), none⟩]) (.seq (.cond (.tmp 46) .skip (.exit 2)) (.seq (.block 3 (.seq (.region [⟨(some 47), .mov (.tmp 45), none⟩, ⟨(some 6), .mov (.tmp 47), none⟩]) (.seq (.seq (.draws [⟨[⟨(some 48), .addOff (.tmp 2) 1, none⟩, ⟨(some 49), .load1 (.tmp 48), none⟩, ⟨(some 50), .mov (.tmp 6), none⟩, ⟨(some 51), .idxA 1 (.tmp 49) (.tmp 50), none⟩, ⟨(some 52), .load1 (.tmp 51), none⟩, ⟨(some 53), .lenSl (.tmp 52), none⟩, ⟨(some 54), .addOff (.tmp 3) 1, none⟩, ⟨(some 55), .load1 (.tmp 54), none⟩, ⟨(some 56), .mov (.tmp 6), none⟩, ⟨(some 57), .idxA 1 (.tmp 55) (.tmp 56), none⟩, ⟨(some 58), .load1 (.tmp 57), none⟩, ⟨(some 59), .lenSl (.tmp 58), none⟩, ⟨(some 60), .bin .neq (.sc .i) (.tmp 53) (.tmp 59), none⟩], [⟨(some 48), .addOff (.tmp 2) 1, none⟩, ⟨(some 49), .load1 (.tmp 48), none⟩, ⟨(some 50), .mov (.tmp 6), none⟩, ⟨(some 51), .idxA 1 (.tmp 49) (.tmp 50), none⟩, ⟨(some 52), .load1 (.tmp 51), none⟩, ⟨(some 53), .lenSl (.tmp 52), none⟩, ⟨(some 54), .addOff (.tmp 3) 1, none⟩, ⟨(some 55), .load1 (.tmp 54), none⟩, ⟨(some 56), .mov (.tmp 6), none⟩, ⟨(some 57), .idxA 1 (.tmp 55) (.tmp 56), none⟩, ⟨(some 58), .load1 (.tmp 57), none⟩, ⟨(some 59), .lenSl (.tmp 58), none⟩, ⟨(some 60), .bin .neq (.sc .i) (.tmp 53) (.tmp 59), none⟩], none⟩]) (.cond (.tmp 60) (.seq (.region [⟨(some 4), .mov (.const (.bool false)), none⟩]) .ret) .skip)) (.seq (.region [⟨(some 61), .addOff (.tmp 2) 1, none⟩, ⟨(some 62), .load1 (.tmp 61), none⟩, ⟨(some 63), .mov (.tmp 6), none⟩, ⟨(some 64), .idxA 1 (.tmp 62) (.tmp 63), none⟩, ⟨(some 65), .load1 (.tmp 64), none⟩, ⟨(some 66), .lenSl (.tmp 65), none⟩, ⟨(some 67), .mov (.const (.int .i64 0)), none⟩]) (.block 4 (.loop (.seq (.region [⟨(some 68), .bin .lss (.sc .i) (.tmp 67) (.tmp 66), none⟩]) (.seq (.cond (.tmp 68) .skip (.exit 4)) (.seq (.block 5 (.seq (.region [⟨(some 69), .mov (.tmp 67), none⟩, ⟨(some 7), .mov (.tmp 69), none⟩]) (.seq (.draws [⟨[⟨(some 70), .addOff (.tmp 2) 1, none⟩, ⟨(some 71), .load1 (.tmp 70), none⟩, ⟨(some 72), .mov (.tmp 6), none⟩, ⟨(some 73), .idxA 1 (.tmp 71) (.tmp 72), none⟩, ⟨(some 74), .load1 (.tmp 73), none⟩, ⟨(some 75), .mov (.tmp 7), none⟩, ⟨(some 76), .idxA 3 (.tmp 74) (.tmp 75), none⟩, ⟨(some 77), .loadN (.tmp 76) 3, none⟩, ⟨(some 78), .addOff (.tmp 3) 1, none⟩, ⟨(some 79), .load1 (.tmp 78), none⟩, ⟨(some 80), .mov (.tmp 6), none⟩, ⟨(some 81), .idxA 1 (.tmp 79) (.tmp 80), none⟩, ⟨(some 82), .load1 (.tmp 81), none⟩, ⟨(some 83), .mov (.tmp 7), none⟩, ⟨(some 84), .idxA 3 (.tmp 82) (.tmp 83), none⟩, ⟨(some 85), .loadN (.tmp 84) 3, none⟩, ⟨(some 86), .bin .neq (.agg [.i, .i, .i]) (.tmp 77) (.tmp 85), none⟩], [⟨(some 70), .addOff (.tmp 2) 1, none⟩, ⟨(some 71), .load1 (.tmp 70), none⟩, ⟨(some 72), .mov (.tmp 6), none⟩, ⟨(some 73), .idxA 1 (.tmp 71) (.tmp 72), none⟩, ⟨(some 74), .load1 (.tmp 73), none⟩, ⟨(some 75), .mov (.tmp 7), none⟩, ⟨(some 76), .idxA 3 (.tmp 74) (.tmp 75), none⟩, ⟨(some 77), .loadN (.tmp 76) 3, none⟩, ⟨(some 78), .addOff (.tmp 3) 1, none⟩, ⟨(some 79), .load1 (.tmp 78), none⟩, ⟨(some 80), .mov (.tmp 6), none⟩, ⟨(some 81), .idxA 1 (.tmp 79) (.tmp 80), none⟩, ⟨(some 82), .load1 (.tmp 81), none⟩, ⟨(some 83), .mov (.tmp 7), none⟩, ⟨(some 84), .idxA 3 (.tmp 82) (.tmp 83), none⟩, ⟨(some 85), .loadN (.tmp 84) 3, none⟩, ⟨(some 86), .bin .neq (.agg [.i, .i, .i]) (.tmp 77) (.tmp 85), none⟩], none⟩]) (.cond (.tmp 86) (.seq (.region [⟨(some 4), .mov (.const (.bool false)), none⟩]) .ret) .skip)))) (.region [⟨(some 87), .bin .add (.sc .i) (.tmp 67) (.const (.int .i64 1)), none⟩, ⟨(some 67), .mov (.tmp 87), none⟩])))))))))) (.region [⟨(some 88), .bin .add (.sc .i) (.tmp 45) (.const (.int .i64 1)), none⟩, ⟨(some 45), .mov (.tmp 88), none⟩]))))))) (.seq (.region [⟨(some 4), .mov (.const (.bool true)), none⟩]) .ret))))), [.tmp 4]⟩
theorem c23 : compFn Tryz.prog 23 = some r23 := by kernel_rfl
end Go.Proofs.YtlipmjpapkfaeaaGreatDoor.Fn
end
