/- automaton.explore over numbers (F82) in the machine: the walk. No condition but sizes.
Merged from 1 texts. -/
import Derived.Test.YtlipmjpapkfaeaaGreatDoorZC25
section
set_option linter.unusedSimpArgs false
set_option linter.unusedVariables false
set_option maxRecDepth 100000
namespace Go.Proofs.YtlipmjpapkfaeaaGreatDoor.Fn
open Go Go.Mach Go.RowKit Go.Proofs
attribute [local irreducible] AOps WPX DOps thenS blockS AOp GOps CPick

theorem new2 (h : AHeap) (a b : ABlk) (i : Nat) (hi : i < h.next) : ((h.new a).new b).own.get i = h.own.get i := by
  rw [AHeap.new_get, if_neg (by rw [AHeap.new_next]; omega), AHeap.new_get, if_neg (by omega)]

theorem aload2 {W : World} {h : AHeap} {b : Nat} {x y : Value} (hb : h.own.get b = some (.cells [x, y])) : aloadN W h ⟨b, 0, some 0⟩ 2 = some [x, y] := by simp [aloadN, aload1, aadd, hb]

set_option maxHeartbeats 8000000 in
theorem f82_ok (W : World) (h : AHeap) (k0 : Int) (ff fe : FuncId) (capF capE : Array Value) (limit : Int) (F : Int → Bool) (E : Int → List Arc3) (D : Int → Prop)
    (h0 : D k0) (hD : ∀ k, D k → ∀ x ∈ E k, D x.2.2) (hEr : ∀ k, D k → InR (E k)) (hEl : ∀ k, D k → (E k).length < 1048576)
    (hlim : ∀ i, ((rounds E k0 i).1.length : Int) ≤ limit) (hlimit : limit < 1048576)
    (hF : ∀ h' k, Keeps h h' → D k → ACalls Tryz.prog W ff ([.int .i64 k] ++ capF.toList) h' (fun r h'' => r = .bool (F k) ∧ Keeps h' h''))
    (hE : ∀ h' k, Keeps h h' → D k → ACalls Tryz.prog W fe ([.int .i64 k] ++ capE.toList) h' (fun r h'' => (∃ a c, r = .slice a (E k).length c ∧ OwnV h'.next h'' a c 3 ((E k).map arcV)) ∧ Keeps h' h'')) :
    ACalls Tryz.prog W 82 [.int .i64 k0, .func (.func ff) #[] capF, .func (.func fe) #[] capE, .int .i64 limit] h (fun r h' => ∃ vf va vs n, (rounds E k0 n).1.length = n ∧ r = .tuple #[.agg #[vf, va], .bool true] ∧
      FreshA W h.next h' ⟨(rounds E k0 n).1.map F, (rounds E k0 n).2⟩ vf va vs ∧ Keeps h h') := by
  refine ACalls_ofX hmix c82 (Nat.le_of_ble_eq_true rfl) ?_
  unfold r82
  simp only [envOf4]
  have hmu : mapUpdH (.sc .i) ((((h.new (.cells [.slice none 0 0, .slice none 0 0])).new (.cells [.slice none 0 0, .slice none 0 0])).new (.map []))) (.map (some (h.next + 2))) (.int .i64 k0) (.int .i64 0) =
      some ((((h.new (.cells [.slice none 0 0, .slice none 0 0])).new (.cells [.slice none 0 0, .slice none 0 0])).new (.map [])).put (h.next + 2) (.map (mapFrom numK 0 [k0]))) :=
    mapUpd_out keyedNum (ks := []) (by simp [AHeap.new_get, AHeap.new_next, mapFrom]) (by simp)
  obtain ⟨G0, hG0⟩ : ∃ G0, G0 = ((((h.new (.cells [.slice none 0 0, .slice none 0 0])).new (.cells [.slice none 0 0, .slice none 0 0])).new (.map [])).put (h.next + 2) (.map (mapFrom numK 0 [k0]))).new (.cells [.int .i64 k0]) := ⟨_, rfl⟩
  have hG0n : G0.next = h.next + 4 := by rw [hG0]; simp only [AHeap.new_next, AHeap.put_next]
  have hO0 : OutI W h G0 F 0 [k0] [] (some ⟨h.next + 3, 0, some 0⟩) 1 none 0 none 0 [] AHeap.empty := by
    have hk : Keeps h G0 := by
      rw [hG0]; exact (((((Keeps.refl h).new _).new _).new _).put (by omega) _).new _
    refine ⟨Nat.zero_le _, ?_, ?_, ?_, by omega, hk, .inr ⟨h.next + 3, rfl, rfl, Nat.le_refl _, ?_, ?_, by omega⟩, OwnV.nil _ _ _, OwnV.nil _ _ _, Apart.none_r _, Apart.none_r _, Apart.none_r _, rfl, rfl, ⟨Nat.zero_le _, fun i b hb => by cases hb⟩,
      (fun j x l hx => by simp at hx), fun j _ => rfl, fun x _ => rfl, fun x _ => rfl, fun x _ => rfl⟩
    · rw [hG0]; simp only [AHeap.new_get, AHeap.put_get, AHeap.new_next, AHeap.put_next, if_true]
      repeat' split
      all_goals first | rfl | (exfalso; omega)
    · rw [hG0]; simp only [AHeap.new_get, AHeap.put_get, AHeap.new_next, AHeap.put_next, if_true]
      repeat' split
      all_goals first | rfl | (exfalso; omega)
    · rw [hG0]; simp only [AHeap.new_get, AHeap.put_get, AHeap.new_next, AHeap.put_next, if_true]
      repeat' split
      all_goals first | rfl | (exfalso; omega)
    · rw [hG0]; simp only [AHeap.new_get, AHeap.put_get, AHeap.new_next, AHeap.put_next, if_true]
      repeat' split
      all_goals first | rfl | (exfalso; omega)
    · intro x hx; simp at hx; subst hx; rfl
  rw [hG0] at hO0
  repeat (first | (with_reducible first | apply x_seq | apply x_block | apply x_region | apply x_exit | apply x_ret | apply x_skip | apply t_normal | apply t_exit | apply t_ret | apply b_normal | apply b_ret | apply b_same | apply ops_nil | apply g_T | apply g_F | apply c_T | apply c_F) | (with_reducible refine b_other (by decide) ?_) | ((with_reducible apply x_draws); (with_reducible apply d_pure); (next => kernel_rfl)) | ((with_reducible first | apply ops_d | apply ops_g | apply x_c); (next => simp only [rop, opd, celsL, oneV, aadd, binV, isSh, intBin, scEq, keq, unV, fillL, oP, oA, oS, wantedA, BX, BL, BS, seval, *]; with_reducible exact rfl)))
  refine WPX.loop hmix (fun k σ => ∃ i ks As ka kc fa fc oa oc vs g, k = limit.toNat + 1 - i ∧ Hid (rounds E k0 i = (ks, As)) ∧ eget σ.e 1 = .func (.func ff) #[] capF ∧ eget σ.e 2 = .func (.func fe) #[] capE ∧ eget σ.e 3 = .int .i64 limit ∧
    eget σ.e 8 = .pointer (some ⟨h.next, 0, some 0⟩) ∧ eget σ.e 10 = .pointer (some ⟨h.next + 1, 0, some 0⟩) ∧ eget σ.e 11 = .map (some (h.next + 2)) ∧ eget σ.e 12 = .slice ka (List.length ks) kc ∧ eget σ.e 13 = .int .i64 (i : Nat) ∧
    OutI W h σ.h F i ks As ka kc fa fc oa oc vs g) (limit.toNat + 1) ?h0 ?round
  case h0 => exact ⟨0, [k0], [], some ⟨h.next + 3, 0, some 0⟩, 1, none, 0, none, 0, [], AHeap.empty, rfl, rfl, (by simp only [rop, opd, celsL, oneV, aadd, binV, isSh, intBin, scEq, keq, unV, fillL, oP, oA, oS, wantedA, BX, BL, BS, seval, *]), (by simp only [rop, opd, celsL, oneV, aadd, binV, isSh, intBin, scEq, keq, unV, fillL, oP, oA, oS, wantedA, BX, BL, BS, seval, *]), (by simp only [rop, opd, celsL, oneV, aadd, binV, isSh, intBin, scEq, keq, unV, fillL, oP, oA, oS, wantedA, BX, BL, BS, seval, *]), (by simp only [rop, opd, celsL, oneV, aadd, binV, isSh, intBin, scEq, keq, unV, fillL, oP, oA, oS, wantedA, BX, BL, BS, seval, *]), (by simp only [rop, opd, celsL, oneV, aadd, binV, isSh, intBin, scEq, keq, unV, fillL, oP, oA, oS, wantedA, BX, BL, BS, seval, *]), (by simp only [rop, opd, celsL, oneV, aadd, binV, isSh, intBin, scEq, keq, unV, fillL, oP, oA, oS, wantedA, BX, BL, BS, seval, *]), (by simp only [rop, opd, celsL, oneV, aadd, binV, isSh, intBin, scEq, keq, unV, fillL, oP, oA, oS, wantedA, BX, BL, BS, seval, *, List.length_singleton]), (by simp only [rop, opd, celsL, oneV, aadd, binV, isSh, intBin, scEq, keq, unV, fillL, oP, oA, oS, wantedA, BX, BL, BS, seval, *]), hO0⟩
  clear hmu hG0 hG0n hO0
  rintro k ⟨e, hh⟩ ⟨i, ks, As, ka, kc, fa, fc, oa, oc, vs, g, rfl, hR, e1, e2, e3, e8, e10, e11, e12, e13, hO⟩
  dsimp only at e1 e2 e3 e8 e10 e11 e12 e13 hO
  have hksl : (ks.length : Int) ≤ limit := by have := hlim i; rw [hR.out] at this; exact this
  by_cases hik : i < ks.length
  · have hikI : (i : Int) < ks.length := by omega
    obtain ⟨k, hk⟩ : ∃ k, ks[i]? = some k := ⟨_, List.getElem?_eq_getElem hik⟩
    have hDk : D k := by
      have := rounds_keys h0 hD i
      rw [hR.out] at this
      exact this k (List.mem_of_getElem? hk)
    have hkx : (ks.map numV)[i]? = some (numV k) := by simp [hk]
    obtain ⟨d, hd1, _, hd3⟩ := (hO.keys.sl (W := W)).at hkx
    rw [List.length_map] at hd1
    have hkl := (hd3 0 (.int .i64 k) rfl).1
    have hdd : aadd d 0 = d := rfl
    rw [hdd] at hkl
    have hEc := hE hh k hO.kp hDk
    clear hkx hd3
    repeat (first | (with_reducible first | apply x_seq | apply x_block | apply x_region | apply x_exit | apply x_ret | apply x_skip | apply t_normal | apply t_exit | apply t_ret | apply b_normal | apply b_ret | apply b_same | apply ops_nil | apply g_T | apply g_F | apply c_T | apply c_F) | (with_reducible refine b_other (by decide) ?_) | ((with_reducible apply x_draws); (with_reducible apply d_pure); (next => kernel_rfl)) | ((with_reducible first | apply ops_d | apply ops_g | apply x_c); (next => simp only [rop, opd, celsL, oneV, aadd, binV, isSh, intBin, scEq, keq, unV, fillL, oP, oA, oS, wantedA, BX, BL, BS, seval, *]; with_reducible exact rfl)))
    refine ops_callC (cap := capE) (by simp only [rop, opd, celsL, oneV, aadd, binV, isSh, intBin, scEq, keq, unV, fillL, oP, oA, oS, wantedA, BX, BL, BS, seval, *]) (by simp only [List.map_cons, List.map_nil, rop, opd, celsL, oneV, aadd, binV, isSh, intBin, scEq, keq, unV, fillL, oP, oA, oS, wantedA, BX, BL, BS, seval, *]) hEc ?_
    rintro r1 H0 ⟨⟨ea, ec, rfl, hoe⟩, hk1⟩
    clear hEc hkl hd1
    have hO1 := hO.keeps hk1
    have hhn := hO.nx
    have hH0n := hO1.nx
    have hkp0 := hO1.kp
    have hkalt : ∀ y, ka = some y → h.next + 3 ≤ y.block ∧ y.block < hh.next := fun y hy => hO.keys.lt hy
    have hka : ∀ y, ka = some y → h.next + 3 ≤ y.block := fun y hy => (hkalt y hy).1
    obtain ⟨n, hn⟩ : ∃ n, n = (E k).length := ⟨_, rfl⟩
    rw [← hn]
    have hnl : n < 1048576 := by rw [hn]; exact hEl k hDk
    have hI0 : InnI h H0 H0 ka ks [] ka kc none 0 := ⟨KeepsBut.refl _ _, hO1.mp, hO1.keys, fun x hx => .inl ⟨x, hx, rfl⟩, OwnV.nil _ _ _, Apart.none_l _⟩
    replace hn : Hid (n = (E k).length) := hn
    repeat (first | (with_reducible first | apply x_seq | apply x_block | apply x_region | apply x_exit | apply x_ret | apply x_skip | apply t_normal | apply t_exit | apply t_ret | apply b_normal | apply b_ret | apply b_same | apply ops_nil | apply g_T | apply g_F | apply c_T | apply c_F) | (with_reducible refine b_other (by decide) ?_) | ((with_reducible apply x_draws); (with_reducible apply d_pure); (next => kernel_rfl)) | ((with_reducible first | apply ops_d | apply ops_g | apply x_c); (next => simp only [rop, opd, celsL, oneV, aadd, binV, isSh, intBin, scEq, keq, unV, fillL, oP, oA, oS, wantedA, BX, BL, BS, seval, *]; with_reducible exact rfl)))
    refine WPX.loop hmix (fun m σ => ∃ j ks' L ka' kc' la lc, j ≤ n ∧ m = n - j ∧ Hid (expState ks ((E k).take j) = (ks', L)) ∧ eget σ.e 1 = .func (.func ff) #[] capF ∧ eget σ.e 2 = .func (.func fe) #[] capE ∧ eget σ.e 3 = .int .i64 limit ∧
      eget σ.e 8 = .pointer (some ⟨h.next, 0, some 0⟩) ∧ eget σ.e 10 = .pointer (some ⟨h.next + 1, 0, some 0⟩) ∧ eget σ.e 11 = .map (some (h.next + 2)) ∧ eget σ.e 12 = .slice ka' (List.length ks') kc' ∧ eget σ.e 13 = .int .i64 (i : Nat) ∧
      eget σ.e 14 = .slice la (List.length L) lc ∧ eget σ.e 36 = .slice ea n ec ∧ eget σ.e 37 = .int .i64 n ∧ eget σ.e 38 = .int .i64 (j : Nat) ∧ InnI h H0 σ.h ka ks' L ka' kc' la lc) n ?h1 ?round1
    case h1 => exact ⟨0, ks, [], ka, kc, none, 0, Nat.zero_le _, rfl, rfl, (by simp only [rop, opd, celsL, oneV, aadd, binV, isSh, intBin, scEq, keq, unV, fillL, oP, oA, oS, wantedA, BX, BL, BS, seval, *]), (by simp only [rop, opd, celsL, oneV, aadd, binV, isSh, intBin, scEq, keq, unV, fillL, oP, oA, oS, wantedA, BX, BL, BS, seval, *]), (by simp only [rop, opd, celsL, oneV, aadd, binV, isSh, intBin, scEq, keq, unV, fillL, oP, oA, oS, wantedA, BX, BL, BS, seval, *]), (by simp only [rop, opd, celsL, oneV, aadd, binV, isSh, intBin, scEq, keq, unV, fillL, oP, oA, oS, wantedA, BX, BL, BS, seval, *]), (by simp only [rop, opd, celsL, oneV, aadd, binV, isSh, intBin, scEq, keq, unV, fillL, oP, oA, oS, wantedA, BX, BL, BS, seval, *]), (by simp only [rop, opd, celsL, oneV, aadd, binV, isSh, intBin, scEq, keq, unV, fillL, oP, oA, oS, wantedA, BX, BL, BS, seval, *]), (by simp only [rop, opd, celsL, oneV, aadd, binV, isSh, intBin, scEq, keq, unV, fillL, oP, oA, oS, wantedA, BX, BL, BS, seval, *]), (by simp only [rop, opd, celsL, oneV, aadd, binV, isSh, intBin, scEq, keq, unV, fillL, oP, oA, oS, wantedA, BX, BL, BS, seval, *]), (by simp only [rop, opd, celsL, oneV, aadd, binV, isSh, intBin, scEq, keq, unV, fillL, oP, oA, oS, wantedA, BX, BL, BS, seval, *, List.length_nil]), (by simp only [rop, opd, celsL, oneV, aadd, binV, isSh, intBin, scEq, keq, unV, fillL, oP, oA, oS, wantedA, BX, BL, BS, seval, *]), (by simp only [rop, opd, celsL, oneV, aadd, binV, isSh, intBin, scEq, keq, unV, fillL, oP, oA, oS, wantedA, BX, BL, BS, seval, *]), (by simp only [rop, opd, celsL, oneV, aadd, binV, isSh, intBin, scEq, keq, unV, fillL, oP, oA, oS, wantedA, BX, BL, BS, seval, *]), hI0⟩
    clear e1 e2 e3 e8 e10 e11 e12 e13 hI0
    rintro m ⟨e', h2⟩ ⟨j, ks', L, ka', kc', la, lc, hj, rfl, hX, q1, q2, q3, q8, q10, q11, q12, q13, q14, q36, q37, q38, hI⟩
    dsimp only at q1 q2 q3 q8 q10 q11 q12 q13 q14 q36 q37 q38 hI
    have hks'l : ks'.length ≤ ks.length + n := by
      have := (expFold_len ((E k).take j) (ks, [])).2
      have h2 : (List.foldl expEdge (ks, []) (List.take j (E k))).1 = ks' := by have := hX.out; unfold expState at this; rw [this]
      rw [h2] at this; simp at this; omega
    have hLl : L.length ≤ j := by
      have := (expFold_len ((E k).take j) (ks, [])).1
      have h2 : (List.foldl expEdge (ks, []) (List.take j (E k))).2 = L := by have := hX.out; unfold expState at this; rw [this]
      rw [h2] at this; simp at this; omega
    by_cases hjl : j < n
    · have hjlI : (j : Int) < n := by omega
      obtain ⟨⟨f, t, s⟩, hx⟩ : ∃ x, (E k)[j]? = some x := ⟨_, List.getElem?_eq_getElem (by rw [← hn.out]; exact hjl)⟩
      have hxl := List.mem_of_getElem? hx
      have hxr := hEr k hDk _ hxl
      simp only at hxr
      have hLr : InR L := by
        have := expFold_in (E := []) ((E k).take j) (ks, []) (fun y hy => hEr k hDk y (List.mem_of_mem_take hy)) (fun y hy => by simp at hy)
        have h2 : (List.foldl expEdge (ks, []) (List.take j (E k))).2 = L := by have := hX.out; unfold expState at this; rw [this]
        rw [h2] at this; exact this
      have hnx := expState_succ (ks := ks) hx
      rw [hX.out] at hnx
      have hoe2 : OwnV hh.next h2 ea ec 3 ((E k).map arcV) := hoe.but hI.but (fun y hy hm => by
        have hge := (hoe.lt hy).1
        rcases hm with hm | ⟨z, hz, hm⟩
        · omega
        · have := (hkalt z hz).2; omega)
      have hxj : ((E k).map arcV)[j]? = some (arcV (f, t, s)) := by simp [hx]
      obtain ⟨b, hb1, _, hb3⟩ := (hoe2.sl (W := W)).at hxj
      rw [List.length_map, ← hn.out] at hb1
      have hld := aloadN_of _ _ hb3
      simp only [arcV, List.length_cons, List.length_nil, Nat.reduceAdd] at hld
      have hw1 : IntKind.i64.wrap ((j : Int) + 1) = ((j + 1 : Nat) : Int) := wrap_i64 (by omega) (by omega)
      obtain ⟨H1, hH1⟩ : ∃ H1, H1 = (h2.new (.cells [.int .i32 0, .int .i32 0, .int .i64 0])).put h2.next (.cells [.int .i32 f, .int .i32 t, .int .i64 s]) := ⟨_, rfl⟩
      have hkk : Keeps h2 H1 := by rw [hH1]; exact ((Keeps.refl h2).new _).put (Nat.le_refl _) _
      have hn1 : H1.next = h2.next + 1 := by rw [hH1]; rfl
      have hg1 : H1.own.get h2.next = some (.cells [.int .i32 f, .int .i32 t, .int .i64 s]) := by rw [hH1, AHeap.put_get, if_pos rfl]
      have hI1 := hI.keeps hH0n hkk
      obtain ⟨q0, b0, hlk, hlk1, hlk2⟩ := lookNum hI1.mp s
      have hh2n := hI.nx hH0n
      clear hb3 hxj hx hxl
      rw [hH1] at hlk
      repeat (first | (with_reducible first | apply x_seq | apply x_block | apply x_region | apply x_exit | apply x_ret | apply x_skip | apply t_normal | apply t_exit | apply t_ret | apply b_normal | apply b_ret | apply b_same | apply ops_nil | apply g_T | apply g_F | apply c_T | apply c_F) | (with_reducible refine b_other (by decide) ?_) | ((with_reducible apply x_draws); (with_reducible apply d_pure); (next => kernel_rfl)) | ((with_reducible first | apply ops_d | apply ops_g | apply x_c); (next => simp only [rop, opd, celsL, oneV, aadd, binV, isSh, intBin, scEq, keq, unV, fillL, oP, oA, oS, wantedA, BX, BL, BS, seval, *]; with_reducible exact rfl)))
      refine c_mid (fun σ => ∃ ks2 ka2 kc2, ∃ q : Nat, Hid (ks2 = (expEdge (ks', L) (f, t, s)).1 ∧ q = ks'.idxOf s) ∧ eget σ.e 1 = .func (.func ff) #[] capF ∧ eget σ.e 2 = .func (.func fe) #[] capE ∧ eget σ.e 3 = .int .i64 limit ∧
        eget σ.e 8 = .pointer (some ⟨h.next, 0, some 0⟩) ∧ eget σ.e 10 = .pointer (some ⟨h.next + 1, 0, some 0⟩) ∧ eget σ.e 11 = .map (some (h.next + 2)) ∧ eget σ.e 12 = .slice ka2 (List.length ks2) kc2 ∧ eget σ.e 13 = .int .i64 (i : Nat) ∧
        eget σ.e 14 = .slice la (List.length L) lc ∧ eget σ.e 16 = .pointer (some ⟨h2.next, 0, some 0⟩) ∧ eget σ.e 17 = .int .i64 (q : Nat) ∧ eget σ.e 36 = .slice ea n ec ∧ eget σ.e 37 = .int .i64 n ∧ eget σ.e 38 = .int .i64 (j : Nat) ∧
        σ.h.own.get h2.next = some (.cells [.int .i32 f, .int .i32 t, .int .i64 s]) ∧ h2.next < σ.h.next ∧ InnI h H0 σ.h ka ks2 L ka2 kc2 la lc) ?key ?rest
      case key =>
        cases b0 with
        | true =>
          obtain ⟨hm, rfl⟩ := hlk1 rfl
          have hee : Hid (ks' = (expEdge (ks', L) (f, t, s)).1 ∧ ks'.idxOf s = ks'.idxOf s) := ⟨by simp [expEdge, hm], rfl⟩
          rw [hH1] at hg1 hI1
          clear hlk hlk1 hlk2 hm hnx
          refine c_isF rfl ?_
          repeat (first | (with_reducible first | apply x_seq | apply x_block | apply x_region | apply x_exit | apply x_ret | apply x_skip | apply t_normal | apply t_exit | apply t_ret | apply b_normal | apply b_ret | apply b_same | apply ops_nil | apply g_T | apply g_F | apply c_T | apply c_F) | (with_reducible refine b_other (by decide) ?_) | ((with_reducible apply x_draws); (with_reducible apply d_pure); (next => kernel_rfl)) | ((with_reducible first | apply ops_d | apply ops_g | apply x_c); (next => simp only [rop, opd, celsL, oneV, aadd, binV, isSh, intBin, scEq, keq, unV, fillL, oP, oA, oS, wantedA, BX, BL, BS, seval, *]; with_reducible exact rfl)))
          exact ⟨rfl, ks', ka', kc', _, hee, (by simp only [rop, opd, celsL, oneV, aadd, binV, isSh, intBin, scEq, keq, unV, fillL, oP, oA, oS, wantedA, BX, BL, BS, seval, *]), (by simp only [rop, opd, celsL, oneV, aadd, binV, isSh, intBin, scEq, keq, unV, fillL, oP, oA, oS, wantedA, BX, BL, BS, seval, *]), (by simp only [rop, opd, celsL, oneV, aadd, binV, isSh, intBin, scEq, keq, unV, fillL, oP, oA, oS, wantedA, BX, BL, BS, seval, *]), (by simp only [rop, opd, celsL, oneV, aadd, binV, isSh, intBin, scEq, keq, unV, fillL, oP, oA, oS, wantedA, BX, BL, BS, seval, *]), (by simp only [rop, opd, celsL, oneV, aadd, binV, isSh, intBin, scEq, keq, unV, fillL, oP, oA, oS, wantedA, BX, BL, BS, seval, *]), (by simp only [rop, opd, celsL, oneV, aadd, binV, isSh, intBin, scEq, keq, unV, fillL, oP, oA, oS, wantedA, BX, BL, BS, seval, *]), (by simp only [rop, opd, celsL, oneV, aadd, binV, isSh, intBin, scEq, keq, unV, fillL, oP, oA, oS, wantedA, BX, BL, BS, seval, *]), (by simp only [rop, opd, celsL, oneV, aadd, binV, isSh, intBin, scEq, keq, unV, fillL, oP, oA, oS, wantedA, BX, BL, BS, seval, *]), (by simp only [rop, opd, celsL, oneV, aadd, binV, isSh, intBin, scEq, keq, unV, fillL, oP, oA, oS, wantedA, BX, BL, BS, seval, *]), (by simp only [rop, opd, celsL, oneV, aadd, binV, isSh, intBin, scEq, keq, unV, fillL, oP, oA, oS, wantedA, BX, BL, BS, seval, *]), (by simp only [rop, opd, celsL, oneV, aadd, binV, isSh, intBin, scEq, keq, unV, fillL, oP, oA, oS, wantedA, BX, BL, BS, seval, *]), (by simp only [rop, opd, celsL, oneV, aadd, binV, isSh, intBin, scEq, keq, unV, fillL, oP, oA, oS, wantedA, BX, BL, BS, seval, *]), (by simp only [rop, opd, celsL, oneV, aadd, binV, isSh, intBin, scEq, keq, unV, fillL, oP, oA, oS, wantedA, BX, BL, BS, seval, *]), (by simp only [rop, opd, celsL, oneV, aadd, binV, isSh, intBin, scEq, keq, unV, fillL, oP, oA, oS, wantedA, BX, BL, BS, seval, *]), hg1, (by rw [← hH1, hn1]; omega), hI1⟩
        | false =>
          have hm := hlk2 rfl
          have hee : Hid (ks' ++ [s] = (expEdge (ks', L) (f, t, s)).1 ∧ ks'.length = ks'.idxOf s) := ⟨by simp [expEdge, hm], by rw [List.idxOf_eq_length hm]⟩
          have hmu := mapUpd_out keyedNum hI1.mp hm
          obtain ⟨a', c', h3, happ, hI3, hlt3, hsm3⟩ := hI1.addKey (W := W) hH0n hkp0 hka (s := s) (by omega)
          have hg3 : h3.own.get h2.next = some (.cells [.int .i32 f, .int .i32 t, .int .i64 s]) := by
            rw [hsm3 h2.next (by omega) (by omega) (fun y hy => by
              have := (hI.keys.lt hy).2; omega)]; exact hg1
          have hlt3' : h2.next < h3.next := by omega
          have hne2 : ¬ h2.next = h.next + 2 := by omega
          simp only [numK] at hmu
          rw [hn1] at happ
          rw [hH1] at happ hmu
          clear hlk hlk1 hlk2 hm hnx hsm3 hlt3
          refine c_isT rfl ?_
          repeat (first | (with_reducible first | apply x_seq | apply x_block | apply x_region | apply x_exit | apply x_ret | apply x_skip | apply t_normal | apply t_exit | apply t_ret | apply b_normal | apply b_ret | apply b_same | apply ops_nil | apply g_T | apply g_F | apply c_T | apply c_F) | (with_reducible refine b_other (by decide) ?_) | ((with_reducible apply x_draws); (with_reducible apply d_pure); (next => kernel_rfl)) | ((with_reducible first | apply ops_d | apply ops_g | apply x_c); (next => simp only [rop, opd, celsL, oneV, aadd, binV, isSh, intBin, scEq, keq, unV, fillL, oP, oA, oS, wantedA, BX, BL, BS, seval, *]; with_reducible exact rfl)))
          exact ⟨rfl, ks' ++ [s], a', c', _, hee, (by simp only [rop, opd, celsL, oneV, aadd, binV, isSh, intBin, scEq, keq, unV, fillL, oP, oA, oS, wantedA, BX, BL, BS, seval, *]), (by simp only [rop, opd, celsL, oneV, aadd, binV, isSh, intBin, scEq, keq, unV, fillL, oP, oA, oS, wantedA, BX, BL, BS, seval, *]), (by simp only [rop, opd, celsL, oneV, aadd, binV, isSh, intBin, scEq, keq, unV, fillL, oP, oA, oS, wantedA, BX, BL, BS, seval, *]), (by simp only [rop, opd, celsL, oneV, aadd, binV, isSh, intBin, scEq, keq, unV, fillL, oP, oA, oS, wantedA, BX, BL, BS, seval, *]), (by simp only [rop, opd, celsL, oneV, aadd, binV, isSh, intBin, scEq, keq, unV, fillL, oP, oA, oS, wantedA, BX, BL, BS, seval, *]), (by simp only [rop, opd, celsL, oneV, aadd, binV, isSh, intBin, scEq, keq, unV, fillL, oP, oA, oS, wantedA, BX, BL, BS, seval, *]), (by simp only [rop, opd, celsL, oneV, aadd, binV, isSh, intBin, scEq, keq, unV, fillL, oP, oA, oS, wantedA, BX, BL, BS, seval, *]), (by simp only [rop, opd, celsL, oneV, aadd, binV, isSh, intBin, scEq, keq, unV, fillL, oP, oA, oS, wantedA, BX, BL, BS, seval, *]), (by simp only [rop, opd, celsL, oneV, aadd, binV, isSh, intBin, scEq, keq, unV, fillL, oP, oA, oS, wantedA, BX, BL, BS, seval, *]), (by simp only [rop, opd, celsL, oneV, aadd, binV, isSh, intBin, scEq, keq, unV, fillL, oP, oA, oS, wantedA, BX, BL, BS, seval, *]), (by simp only [rop, opd, celsL, oneV, aadd, binV, isSh, intBin, scEq, keq, unV, fillL, oP, oA, oS, wantedA, BX, BL, BS, seval, *]), (by simp only [rop, opd, celsL, oneV, aadd, binV, isSh, intBin, scEq, keq, unV, fillL, oP, oA, oS, wantedA, BX, BL, BS, seval, *]), (by simp only [rop, opd, celsL, oneV, aadd, binV, isSh, intBin, scEq, keq, unV, fillL, oP, oA, oS, wantedA, BX, BL, BS, seval, *]), (by simp only [rop, opd, celsL, oneV, aadd, binV, isSh, intBin, scEq, keq, unV, fillL, oP, oA, oS, wantedA, BX, BL, BS, seval, *]), hg3, hlt3', hI3⟩
      case rest =>
        rintro ⟨e3', h3⟩ ⟨ks2, ka2, kc2, q, hq, p1, p2, p3, p8, p10, p11, p12, p13, p14, p16, p17, p36, p37, p38, hg3, hlt3, hI3⟩
        dsimp only at p1 p2 p3 p8 p10 p11 p12 p13 p14 p16 p17 p36 p37 p38 hg3 hlt3 hI3
        clear q1 q2 q3 q8 q10 q11 q12 q13 q14 q36 q37 q38 hlk hlk1 hlk2 hI1 hg1 hld hb1
        have hX' : Hid (expState ks ((E k).take (j + 1)) = (ks2, addArc L (f, t, (q : Int)))) := by
          show _ = _
          rw [hnx, hq.out.1, hq.out.2]; rfl
        clear hnx hX hq hH1 hkk hn1
        refine t_normal ?_
        rcases last_or L with hnil | ⟨l0, f', t', s', hl0⟩
        · have hgt : ¬ (L.length : Int) > 0 := by rw [hnil]; simp
          obtain ⟨a', c', h4, happ, hI4⟩ := hI3.newArc (W := W) hH0n hkp0 hka (f, t, (q : Int)) (by omega)
          have hadd : addArc L (f, t, (q : Int)) = L ++ [(f, t, (q : Int))] := by rw [hnil]; rfl
          rw [hadd] at hX'
          simp only [arcV] at happ
          clear hnil hadd hLr
          repeat (first | (with_reducible first | apply x_seq | apply x_block | apply x_region | apply x_exit | apply x_ret | apply x_skip | apply t_normal | apply t_exit | apply t_ret | apply b_normal | apply b_ret | apply b_same | apply ops_nil | apply g_T | apply g_F | apply c_T | apply c_F) | (with_reducible refine b_other (by decide) ?_) | ((with_reducible apply x_draws); (with_reducible apply d_pure); (next => kernel_rfl)) | ((with_reducible first | apply ops_d | apply ops_g | apply x_c); (next => simp only [rop, opd, celsL, oneV, aadd, binV, isSh, intBin, scEq, keq, unV, fillL, oP, oA, oS, wantedA, BX, BL, BS, seval, *]; with_reducible exact rfl)))
          exact ⟨n - (j + 1), by omega, j + 1, ks2, L ++ [(f, t, (q : Int))], ka2, kc2, a', c', by omega, rfl, hX', (by simp only [rop, opd, celsL, oneV, aadd, binV, isSh, intBin, scEq, keq, unV, fillL, oP, oA, oS, wantedA, BX, BL, BS, seval, *]), (by simp only [rop, opd, celsL, oneV, aadd, binV, isSh, intBin, scEq, keq, unV, fillL, oP, oA, oS, wantedA, BX, BL, BS, seval, *]), (by simp only [rop, opd, celsL, oneV, aadd, binV, isSh, intBin, scEq, keq, unV, fillL, oP, oA, oS, wantedA, BX, BL, BS, seval, *]), (by simp only [rop, opd, celsL, oneV, aadd, binV, isSh, intBin, scEq, keq, unV, fillL, oP, oA, oS, wantedA, BX, BL, BS, seval, *]), (by simp only [rop, opd, celsL, oneV, aadd, binV, isSh, intBin, scEq, keq, unV, fillL, oP, oA, oS, wantedA, BX, BL, BS, seval, *]), (by simp only [rop, opd, celsL, oneV, aadd, binV, isSh, intBin, scEq, keq, unV, fillL, oP, oA, oS, wantedA, BX, BL, BS, seval, *]), (by simp only [rop, opd, celsL, oneV, aadd, binV, isSh, intBin, scEq, keq, unV, fillL, oP, oA, oS, wantedA, BX, BL, BS, seval, *]), (by simp only [rop, opd, celsL, oneV, aadd, binV, isSh, intBin, scEq, keq, unV, fillL, oP, oA, oS, wantedA, BX, BL, BS, seval, *]), (by simp only [rop, opd, celsL, oneV, aadd, binV, isSh, intBin, scEq, keq, unV, fillL, oP, oA, oS, wantedA, BX, BL, BS, seval, *]), (by simp only [rop, opd, celsL, oneV, aadd, binV, isSh, intBin, scEq, keq, unV, fillL, oP, oA, oS, wantedA, BX, BL, BS, seval, *]), (by simp only [rop, opd, celsL, oneV, aadd, binV, isSh, intBin, scEq, keq, unV, fillL, oP, oA, oS, wantedA, BX, BL, BS, seval, *]), (by simp only [rop, opd, celsL, oneV, aadd, binV, isSh, intBin, scEq, keq, unV, fillL, oP, oA, oS, wantedA, BX, BL, BS, seval, *]), hI4⟩
        · have hgt : (L.length : Int) > 0 := by rw [hl0]; simp <;> omega
          have hI3' := hI3
          rw [hl0] at hI3'
          obtain ⟨b', C, rfl, rfl, hbn, hbl, hC, hC1, hC2, hble, C2, hsp, hI4⟩ := hI3'.join hH0n t
          obtain ⟨w, hw⟩ : ∃ w, w = l0.length := ⟨_, rfl⟩
          rw [← hw] at hC1 hC2 hble hsp
          have hLw : L.length = w + 1 := by rw [hl0, hw]; simp
          have hwm : IntKind.i64.wrap ((L.length : Int) - 1) = (w : Int) := (wrap_i64 (by omega) (by omega)).trans (by omega)
          have hidx : idxV 3 (.slice (some ⟨b', 0, some 0⟩) L.length 3) (.int .i64 w) = some (.pointer (some ⟨b', w * 3, some 0⟩)) := idx_own (by omega)
          have hlast := hLr (f', t', s') (by rw [hl0]; simp)
          simp only at hlast
          have hwt : IntKind.i32.wrap (t' + 1) = t' + 1 := wrap_i32 (by omega) (by omega)
          by_cases hjoin : t' + 1 = f ∧ s' = (q : Int)
          · have hadd : addArc L (f, t, (q : Int)) = l0 ++ [(f', t, s')] := by rw [hl0]; exact addArc_join hjoin.1 hjoin.2
            rw [hadd] at hX'
            obtain ⟨L', hLe⟩ : ∃ L', L' = l0 ++ [(f', t, s')] := ⟨_, rfl⟩
            have hlen : L'.length = L.length := by rw [hLe, hl0]; simp
            rw [← hLe] at hX' hI4
            have hj1 : decide (t' + 1 = f) = true := decide_eq_true hjoin.1
            have hj2 : decide (s' = (q : Int)) = true := decide_eq_true hjoin.2
            clear hjoin hadd hLe hLr hl0 hw hLw hI3'
            repeat (first | (with_reducible first | apply x_seq | apply x_block | apply x_region | apply x_exit | apply x_ret | apply x_skip | apply t_normal | apply t_exit | apply t_ret | apply b_normal | apply b_ret | apply b_same | apply ops_nil | apply g_T | apply g_F | apply c_T | apply c_F) | (with_reducible refine b_other (by decide) ?_) | ((with_reducible apply x_draws); (with_reducible apply d_pure); (next => kernel_rfl)) | ((with_reducible first | apply ops_d | apply ops_g | apply x_c); (next => simp only [rop, opd, celsL, oneV, aadd, binV, isSh, intBin, scEq, keq, unV, fillL, oP, oA, oS, wantedA, BX, BL, BS, seval, *]; with_reducible exact rfl)))
            exact ⟨n - (j + 1), by omega, j + 1, ks2, L', ka2, kc2, _, _, by omega, rfl, hX', (by simp only [rop, opd, celsL, oneV, aadd, binV, isSh, intBin, scEq, keq, unV, fillL, oP, oA, oS, wantedA, BX, BL, BS, seval, *]), (by simp only [rop, opd, celsL, oneV, aadd, binV, isSh, intBin, scEq, keq, unV, fillL, oP, oA, oS, wantedA, BX, BL, BS, seval, *]), (by simp only [rop, opd, celsL, oneV, aadd, binV, isSh, intBin, scEq, keq, unV, fillL, oP, oA, oS, wantedA, BX, BL, BS, seval, *]), (by simp only [rop, opd, celsL, oneV, aadd, binV, isSh, intBin, scEq, keq, unV, fillL, oP, oA, oS, wantedA, BX, BL, BS, seval, *]), (by simp only [rop, opd, celsL, oneV, aadd, binV, isSh, intBin, scEq, keq, unV, fillL, oP, oA, oS, wantedA, BX, BL, BS, seval, *]), (by simp only [rop, opd, celsL, oneV, aadd, binV, isSh, intBin, scEq, keq, unV, fillL, oP, oA, oS, wantedA, BX, BL, BS, seval, *]), (by simp only [rop, opd, celsL, oneV, aadd, binV, isSh, intBin, scEq, keq, unV, fillL, oP, oA, oS, wantedA, BX, BL, BS, seval, *]), (by simp only [rop, opd, celsL, oneV, aadd, binV, isSh, intBin, scEq, keq, unV, fillL, oP, oA, oS, wantedA, BX, BL, BS, seval, *]), (by simp only [rop, opd, celsL, oneV, aadd, binV, isSh, intBin, scEq, keq, unV, fillL, oP, oA, oS, wantedA, BX, BL, BS, seval, *]), (by simp only [rop, opd, celsL, oneV, aadd, binV, isSh, intBin, scEq, keq, unV, fillL, oP, oA, oS, wantedA, BX, BL, BS, seval, *]), (by simp only [rop, opd, celsL, oneV, aadd, binV, isSh, intBin, scEq, keq, unV, fillL, oP, oA, oS, wantedA, BX, BL, BS, seval, *]), (by simp only [rop, opd, celsL, oneV, aadd, binV, isSh, intBin, scEq, keq, unV, fillL, oP, oA, oS, wantedA, BX, BL, BS, seval, *]), hI4⟩
          · have hadd : addArc L (f, t, (q : Int)) = L ++ [(f, t, (q : Int))] := by rw [hl0]; exact addArc_new hjoin
            rw [hadd] at hX'
            obtain ⟨a', c', h4, happ, hI5⟩ := hI3.newArc (W := W) hH0n hkp0 hka (f, t, (q : Int)) (by omega)
            simp only [arcV] at happ
            clear hadd hLr hl0 hw hLw hI3' hI4 hsp hble
            by_cases hj1 : t' + 1 = f
            · have hj1' : decide (t' + 1 = f) = true := decide_eq_true hj1
              have hj2 : ¬ s' = (q : Int) := fun e => hjoin ⟨hj1, e⟩
              clear hj1 hjoin
              repeat (first | (with_reducible first | apply x_seq | apply x_block | apply x_region | apply x_exit | apply x_ret | apply x_skip | apply t_normal | apply t_exit | apply t_ret | apply b_normal | apply b_ret | apply b_same | apply ops_nil | apply g_T | apply g_F | apply c_T | apply c_F) | (with_reducible refine b_other (by decide) ?_) | ((with_reducible apply x_draws); (with_reducible apply d_pure); (next => kernel_rfl)) | ((with_reducible first | apply ops_d | apply ops_g | apply x_c); (next => simp only [rop, opd, celsL, oneV, aadd, binV, isSh, intBin, scEq, keq, unV, fillL, oP, oA, oS, wantedA, BX, BL, BS, seval, *]; with_reducible exact rfl)))
              exact ⟨n - (j + 1), by omega, j + 1, ks2, L ++ [(f, t, (q : Int))], ka2, kc2, a', c', by omega, rfl, hX', (by simp only [rop, opd, celsL, oneV, aadd, binV, isSh, intBin, scEq, keq, unV, fillL, oP, oA, oS, wantedA, BX, BL, BS, seval, *]), (by simp only [rop, opd, celsL, oneV, aadd, binV, isSh, intBin, scEq, keq, unV, fillL, oP, oA, oS, wantedA, BX, BL, BS, seval, *]), (by simp only [rop, opd, celsL, oneV, aadd, binV, isSh, intBin, scEq, keq, unV, fillL, oP, oA, oS, wantedA, BX, BL, BS, seval, *]), (by simp only [rop, opd, celsL, oneV, aadd, binV, isSh, intBin, scEq, keq, unV, fillL, oP, oA, oS, wantedA, BX, BL, BS, seval, *]), (by simp only [rop, opd, celsL, oneV, aadd, binV, isSh, intBin, scEq, keq, unV, fillL, oP, oA, oS, wantedA, BX, BL, BS, seval, *]), (by simp only [rop, opd, celsL, oneV, aadd, binV, isSh, intBin, scEq, keq, unV, fillL, oP, oA, oS, wantedA, BX, BL, BS, seval, *]), (by simp only [rop, opd, celsL, oneV, aadd, binV, isSh, intBin, scEq, keq, unV, fillL, oP, oA, oS, wantedA, BX, BL, BS, seval, *]), (by simp only [rop, opd, celsL, oneV, aadd, binV, isSh, intBin, scEq, keq, unV, fillL, oP, oA, oS, wantedA, BX, BL, BS, seval, *]), (by simp only [rop, opd, celsL, oneV, aadd, binV, isSh, intBin, scEq, keq, unV, fillL, oP, oA, oS, wantedA, BX, BL, BS, seval, *]), (by simp only [rop, opd, celsL, oneV, aadd, binV, isSh, intBin, scEq, keq, unV, fillL, oP, oA, oS, wantedA, BX, BL, BS, seval, *]), (by simp only [rop, opd, celsL, oneV, aadd, binV, isSh, intBin, scEq, keq, unV, fillL, oP, oA, oS, wantedA, BX, BL, BS, seval, *]), (by simp only [rop, opd, celsL, oneV, aadd, binV, isSh, intBin, scEq, keq, unV, fillL, oP, oA, oS, wantedA, BX, BL, BS, seval, *]), hI5⟩
            · clear hjoin
              repeat (first | (with_reducible first | apply x_seq | apply x_block | apply x_region | apply x_exit | apply x_ret | apply x_skip | apply t_normal | apply t_exit | apply t_ret | apply b_normal | apply b_ret | apply b_same | apply ops_nil | apply g_T | apply g_F | apply c_T | apply c_F) | (with_reducible refine b_other (by decide) ?_) | ((with_reducible apply x_draws); (with_reducible apply d_pure); (next => kernel_rfl)) | ((with_reducible first | apply ops_d | apply ops_g | apply x_c); (next => simp only [rop, opd, celsL, oneV, aadd, binV, isSh, intBin, scEq, keq, unV, fillL, oP, oA, oS, wantedA, BX, BL, BS, seval, *]; with_reducible exact rfl)))
              exact ⟨n - (j + 1), by omega, j + 1, ks2, L ++ [(f, t, (q : Int))], ka2, kc2, a', c', by omega, rfl, hX', (by simp only [rop, opd, celsL, oneV, aadd, binV, isSh, intBin, scEq, keq, unV, fillL, oP, oA, oS, wantedA, BX, BL, BS, seval, *]), (by simp only [rop, opd, celsL, oneV, aadd, binV, isSh, intBin, scEq, keq, unV, fillL, oP, oA, oS, wantedA, BX, BL, BS, seval, *]), (by simp only [rop, opd, celsL, oneV, aadd, binV, isSh, intBin, scEq, keq, unV, fillL, oP, oA, oS, wantedA, BX, BL, BS, seval, *]), (by simp only [rop, opd, celsL, oneV, aadd, binV, isSh, intBin, scEq, keq, unV, fillL, oP, oA, oS, wantedA, BX, BL, BS, seval, *]), (by simp only [rop, opd, celsL, oneV, aadd, binV, isSh, intBin, scEq, keq, unV, fillL, oP, oA, oS, wantedA, BX, BL, BS, seval, *]), (by simp only [rop, opd, celsL, oneV, aadd, binV, isSh, intBin, scEq, keq, unV, fillL, oP, oA, oS, wantedA, BX, BL, BS, seval, *]), (by simp only [rop, opd, celsL, oneV, aadd, binV, isSh, intBin, scEq, keq, unV, fillL, oP, oA, oS, wantedA, BX, BL, BS, seval, *]), (by simp only [rop, opd, celsL, oneV, aadd, binV, isSh, intBin, scEq, keq, unV, fillL, oP, oA, oS, wantedA, BX, BL, BS, seval, *]), (by simp only [rop, opd, celsL, oneV, aadd, binV, isSh, intBin, scEq, keq, unV, fillL, oP, oA, oS, wantedA, BX, BL, BS, seval, *]), (by simp only [rop, opd, celsL, oneV, aadd, binV, isSh, intBin, scEq, keq, unV, fillL, oP, oA, oS, wantedA, BX, BL, BS, seval, *]), (by simp only [rop, opd, celsL, oneV, aadd, binV, isSh, intBin, scEq, keq, unV, fillL, oP, oA, oS, wantedA, BX, BL, BS, seval, *]), (by simp only [rop, opd, celsL, oneV, aadd, binV, isSh, intBin, scEq, keq, unV, fillL, oP, oA, oS, wantedA, BX, BL, BS, seval, *]), hI5⟩
    · have hjlI : ¬ (j : Int) < n := by omega
      have hX' : expState ks (E k) = (ks', L) := by
        have := hX.out
        rwa [List.take_of_length_le (by rw [← hn.out]; omega)] at this
      have hRk : (rounds E k0 i).1[i]? = some k := by rw [hR.out]; exact hk
      have hR' : Hid (rounds E k0 (i + 1) = (ks', As ++ [L])) := by
        show _ = _
        rw [rounds_succ hRk, hR.out]; simp only [hX']
      have hks'i : (ks'.length : Int) ≤ limit := by have := hlim (i + 1); rw [hR'.out] at this; exact this
      have hng : ¬ (ks'.length : Int) > limit := by omega
      obtain ⟨r, hr⟩ := expState_pre ks (E k)
      rw [hX'] at hr
      dsimp only at hr
      have hk' : ks'[i]? = some k := by rw [hr, List.getElem?_append_left hik]; exact hk
      have hpre : ks'.take i = ks.take i := by rw [hr, List.take_append_of_le_length (by omega)]
      have hkx : (ks'.map numV)[i]? = some (numV k) := by simp [hk']
      obtain ⟨d, hd1, _, hd3⟩ := (hI.keys.sl (W := W)).at hkx
      rw [List.length_map] at hd1
      have hkl := (hd3 0 (.int .i64 k) rfl).1
      have hdd : aadd d 0 = d := rfl
      rw [hdd] at hkl
      have hb102 := (hO1.next (W := W) hI (Keeps.refl h2) hk' hpre (by omega)).1
      have hFc := hF h2 k (hI.kp hkp0 hka) hDk
      have hw1 : IntKind.i64.wrap ((i : Int) + 1) = ((i + 1 : Nat) : Int) := wrap_i64 (by omega) (by omega)
      clear hkx hd3 hX' hr hX hjl
      repeat (first | (with_reducible first | apply x_seq | apply x_block | apply x_region | apply x_exit | apply x_ret | apply x_skip | apply t_normal | apply t_exit | apply t_ret | apply b_normal | apply b_ret | apply b_same | apply ops_nil | apply g_T | apply g_F | apply c_T | apply c_F) | (with_reducible refine b_other (by decide) ?_) | ((with_reducible apply x_draws); (with_reducible apply d_pure); (next => kernel_rfl)) | ((with_reducible first | apply ops_d | apply ops_g | apply x_c); (next => simp only [rop, opd, celsL, oneV, aadd, binV, isSh, intBin, scEq, keq, unV, fillL, oP, oA, oS, wantedA, BX, BL, BS, seval, *]; with_reducible exact rfl)))
      refine x_draws (d_eff (by kernel_rfl) ?_)
      repeat (first | (with_reducible first | apply x_seq | apply x_block | apply x_region | apply x_exit | apply x_ret | apply x_skip | apply t_normal | apply t_exit | apply t_ret | apply b_normal | apply b_ret | apply b_same | apply ops_nil | apply g_T | apply g_F | apply c_T | apply c_F) | (with_reducible refine b_other (by decide) ?_) | ((with_reducible apply x_draws); (with_reducible apply d_pure); (next => kernel_rfl)) | ((with_reducible first | apply ops_d | apply ops_g | apply x_c); (next => simp only [rop, opd, celsL, oneV, aadd, binV, isSh, intBin, scEq, keq, unV, fillL, oP, oA, oS, wantedA, BX, BL, BS, seval, *]; with_reducible exact rfl)))
      refine aop_callC (cap := capF) rfl (by simp only [rop, opd, celsL, oneV, aadd, binV, isSh, intBin, scEq, keq, unV, fillL, oP, oA, oS, wantedA, BX, BL, BS, seval, *]) (by simp only [List.map_cons, List.map_nil, rop, opd, celsL, oneV, aadd, binV, isSh, intBin, scEq, keq, unV, fillL, oP, oA, oS, wantedA, BX, BL, BS, seval, *]) hFc ?_
      rintro r2 h3 ⟨rfl, hk3⟩
      clear hFc hkl hd1
      obtain ⟨_, hb103, hlt3, fa', fc', h4, happF, hb104, hlt4, oa', oc', h6, happO, hb106, g', hON⟩ := hO1.next (W := W) hI hk3 hk' hpre (by omega)
      have hne3 : ¬ h.next + 1 = h3.next := by omega
      have hne4 : ¬ h.next + 1 = h4.next := by omega
      clear hb102 hI hk' hpre
      refine d_chk (by kernel_rfl) ?chk1 ?_
      case chk1 =>
        intro o ho
        simp only [List.mem_cons, List.not_mem_nil, or_false] at ho
        rcases ho with rfl | rfl <;> simp only [Chk, kindOf, dval, rop, opd, celsL, oneV, aadd, binV, isSh, intBin, scEq, keq, unV, fillL, oP, oA, oS, wantedA, BX, BL, BS, seval, *]
      apply aop_do
      (next => simp only [rop, opd, celsL, oneV, aadd, binV, isSh, intBin, scEq, keq, unV, fillL, oP, oA, oS, wantedA, BX, BL, BS, seval, *]; with_reducible exact rfl)
      refine d_chk (by kernel_rfl) ?chk2 ?_
      case chk2 =>
        intro o ho
        simp only [List.mem_cons, List.not_mem_nil, or_false] at ho
        rcases ho with rfl | rfl <;> simp only [Chk, kindOf, dval, rop, opd, celsL, oneV, aadd, binV, isSh, intBin, scEq, keq, unV, fillL, oP, oA, oS, wantedA, BX, BL, BS, seval, *]
      apply aop_do
      (next => simp only [rop, opd, celsL, oneV, aadd, binV, isSh, intBin, scEq, keq, unV, fillL, oP, oA, oS, wantedA, BX, BL, BS, seval, *]; with_reducible exact rfl)
      refine d_next (by kernel_rfl) (by kernel_rfl) ?_
      repeat (first | (with_reducible first | apply x_seq | apply x_block | apply x_region | apply x_exit | apply x_ret | apply x_skip | apply t_normal | apply t_exit | apply t_ret | apply b_normal | apply b_ret | apply b_same | apply ops_nil | apply g_T | apply g_F | apply c_T | apply c_F) | (with_reducible refine b_other (by decide) ?_) | ((with_reducible apply x_draws); (with_reducible apply d_pure); (next => kernel_rfl)) | ((with_reducible first | apply ops_d | apply ops_g | apply x_c); (next => simp only [rop, opd, celsL, oneV, aadd, binV, isSh, intBin, scEq, keq, unV, fillL, oP, oA, oS, wantedA, BX, BL, BS, seval, *]; with_reducible exact rfl)))
      refine ⟨?chk3, ?_⟩
      case chk3 =>
        intro o ho
        rw [List.mem_singleton] at ho
        subst ho
        simp only [Chk, kindOf, dval, rop, opd, celsL, oneV, aadd, binV, isSh, intBin, scEq, keq, unV, fillL, oP, oA, oS, wantedA, BX, BL, BS, seval, *]
      show AOp _ _ _ _ _
      apply aop_do
      (next => simp only [rop, opd, celsL, oneV, aadd, binV, isSh, intBin, scEq, keq, unV, fillL, oP, oA, oS, wantedA, BX, BL, BS, seval, *]; with_reducible exact rfl)
      refine d_end ?_
      repeat (first | (with_reducible first | apply x_seq | apply x_block | apply x_region | apply x_exit | apply x_ret | apply x_skip | apply t_normal | apply t_exit | apply t_ret | apply b_normal | apply b_ret | apply b_same | apply ops_nil | apply g_T | apply g_F | apply c_T | apply c_F) | (with_reducible refine b_other (by decide) ?_) | ((with_reducible apply x_draws); (with_reducible apply d_pure); (next => kernel_rfl)) | ((with_reducible first | apply ops_d | apply ops_g | apply x_c); (next => simp only [rop, opd, celsL, oneV, aadd, binV, isSh, intBin, scEq, keq, unV, fillL, oP, oA, oS, wantedA, BX, BL, BS, seval, *]; with_reducible exact rfl)))
      exact ⟨limit.toNat + 1 - (i + 1), by omega, i + 1, ks', As ++ [L], ka', kc', fa', fc', oa', oc', vs ++ [.slice la L.length lc], g', rfl, hR', (by simp only [rop, opd, celsL, oneV, aadd, binV, isSh, intBin, scEq, keq, unV, fillL, oP, oA, oS, wantedA, BX, BL, BS, seval, *]), (by simp only [rop, opd, celsL, oneV, aadd, binV, isSh, intBin, scEq, keq, unV, fillL, oP, oA, oS, wantedA, BX, BL, BS, seval, *]), (by simp only [rop, opd, celsL, oneV, aadd, binV, isSh, intBin, scEq, keq, unV, fillL, oP, oA, oS, wantedA, BX, BL, BS, seval, *]), (by simp only [rop, opd, celsL, oneV, aadd, binV, isSh, intBin, scEq, keq, unV, fillL, oP, oA, oS, wantedA, BX, BL, BS, seval, *]), (by simp only [rop, opd, celsL, oneV, aadd, binV, isSh, intBin, scEq, keq, unV, fillL, oP, oA, oS, wantedA, BX, BL, BS, seval, *]), (by simp only [rop, opd, celsL, oneV, aadd, binV, isSh, intBin, scEq, keq, unV, fillL, oP, oA, oS, wantedA, BX, BL, BS, seval, *]), (by simp only [rop, opd, celsL, oneV, aadd, binV, isSh, intBin, scEq, keq, unV, fillL, oP, oA, oS, wantedA, BX, BL, BS, seval, *]), (by simp only [rop, opd, celsL, oneV, aadd, binV, isSh, intBin, scEq, keq, unV, fillL, oP, oA, oS, wantedA, BX, BL, BS, seval, *]), hON⟩
  · have hikI : ¬ (i : Int) < ks.length := by omega
    have hb8 := hO.b8
    have hb10 := hO.b10
    have hln := aload2 (W := W) hb10
    have hle := hO.le
    have hil : i = ks.length := by omega
    have hput : ∀ j, h.next + 3 ≤ j → j < hh.next → (hh.put h.next (.cells [.slice fa i fc, .slice oa i oc])).own.get j = hh.own.get j := fun j hj _ => by rw [AHeap.put_get, if_neg (by omega)]
    have hsubp : Mach.Sub g (hh.put h.next (.cells [.slice fa i fc, .slice oa i oc])) := hO.sub.put (hO.g0 _ (by omega)) _
    obtain ⟨g1, s1, s2, o1, n1, p1⟩ := (hO.fin.same hput (Nat.le_refl _)).freeze hsubp hO.gf
    obtain ⟨g2, s3, s4, o2, n2, p2⟩ := (hO.out.same hput (Nat.le_refl _)).freeze s1 (p1 _ hO.fo hO.go)
    have hfin := (o1.sub s4).sl (W := W)
    have hout := o2.sl (W := W)
    rw [List.length_map, List.length_take, Nat.min_eq_left hle] at hfin
    rw [List.length_map, hO.vl] at hout
    have hAV : FreshA W h.next (hh.put h.next (.cells [.slice fa i fc, .slice oa i oc])) ⟨(rounds E k0 i).1.map F, (rounds E k0 i).2⟩ (.slice fa i fc) (.slice oa i oc) vs := by
      refine ⟨g2, s3, fun j hj => n2 j (by omega) (n1 j (by omega) (hO.g0 j (by omega))), ?_⟩
      rw [hR.out]
      refine ⟨rfl, ?_, hout, hO.vl.trans hO.al.symm, fun j x l hx hl => ((hO.inner j x l hx hl).sub s2).sub s4⟩
      have e : (ks.take i).map (fun k => boolV (F k)) = (ks.map F).map fun b => [Value.bool b] := by
        rw [hil, List.take_length, List.map_map]; rfl
      rw [e] at hfin; exact hfin
    have hkp : Keeps h (hh.put h.next (.cells [.slice fa i fc, .slice oa i oc])) := hO.kp.put (Nat.le_refl _) _
    have hnn : (rounds E k0 i).1.length = i := by rw [hR.out]; exact hil.symm
    have hrs : aloadN W (hh.put h.next (.cells [.slice fa i fc, .slice oa i oc])) ⟨h.next, 0, some 0⟩ 2 = some [.slice fa i fc, .slice oa i oc] := aload2 (by rw [AHeap.put_get, if_pos rfl])
    replace hil : Hid (i = ks.length) := hil
    clear hfin hout hput hsubp s1 s2 s3 s4 n1 n2 p1 p2 o1 o2
    repeat (first | (with_reducible first | apply x_seq | apply x_block | apply x_region | apply x_exit | apply x_ret | apply x_skip | apply t_normal | apply t_exit | apply t_ret | apply b_normal | apply b_ret | apply b_same | apply ops_nil | apply g_T | apply g_F | apply c_T | apply c_F) | (with_reducible refine b_other (by decide) ?_) | ((with_reducible apply x_draws); (with_reducible apply d_pure); (next => kernel_rfl)) | ((with_reducible first | apply ops_d | apply ops_g | apply x_c); (next => simp only [rop, opd, celsL, oneV, aadd, binV, isSh, intBin, scEq, keq, unV, fillL, oP, oA, oS, wantedA, BX, BL, BS, seval, *]; with_reducible exact rfl)))
    refine ⟨.inr rfl, [.agg #[.slice fa i fc, .slice oa i oc], .bool true], ?_, .slice fa i fc, .slice oa i oc, vs, i, hnn, rfl, hAV, hkp⟩
    simp only [resVals, rop, opd, celsL, oneV, aadd, binV, isSh, intBin, scEq, keq, unV, fillL, oP, oA, oS, wantedA, BX, BL, BS, seval, *]
end Go.Proofs.YtlipmjpapkfaeaaGreatDoor.Fn
end
