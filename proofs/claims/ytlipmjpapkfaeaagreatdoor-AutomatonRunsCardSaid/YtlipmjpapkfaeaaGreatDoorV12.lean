/- corporaref01.Valid (F42) and corporaref20.Next (F43) in the machine. No condition but sizes. -/
import Derived.Test.YtlipmjpapkfaeaaGreatDoorV11
set_option linter.unusedSimpArgs false
set_option linter.unusedVariables false
set_option maxRecDepth 100000
namespace Go.Proofs.YtlipmjpapkfaeaaGreatDoor.Fn
open Go Go.Mach Go.RowKit Go.Proofs Go.Proofs.YtlipmjpapkfaeaaGreatDoor.Orc
attribute [local irreducible] AOps WPX DOps thenS blockS AOp GOps CPick

set_option maxHeartbeats 4000000 in
theorem f42_ok (W : World) (h : AHeap) (s : ByteArray) (hs : s.size < 1073741824) :
    ACalls Tryz.prog W 42 [.string s] h (fun r h' => r = .bool (validB s) ∧ Keeps h h') := by
  refine ACalls_ofX hmix c42 (Nat.le_of_ble_eq_true rfl) ?_
  unfold r42
  simp only [envOf1]
  have h77 := f77_ok W h s hs
  repeat (first | (with_reducible first | apply x_seq | apply x_block | apply x_region | apply x_exit | apply x_ret | apply x_skip | apply t_normal | apply t_exit | apply t_ret | apply b_normal | apply b_ret | apply b_same | apply ops_nil | apply g_T | apply g_F | apply c_T | apply c_F) | (with_reducible refine b_other (by decide) ?_) | ((with_reducible apply x_draws); (with_reducible apply d_pure); (next => kernel_rfl)) | ((with_reducible first | apply ops_d | apply ops_g | apply x_c); (next => simp only [rop, opd, celsL, oneV, aadd, binV, isSh, intBin, scEq, keq, unV, fillL, oP, oA, oS, wantedA, BX, BL, BS, seval, *]; with_reducible exact rfl)))
  refine ops_callK (by simp only [rop, opd, celsL, oneV, aadd, binV, isSh, intBin, scEq, keq, unV, fillL, oP, oA, oS, wantedA, BX, BL, BS, seval, *]) (by simp only [List.map_cons, List.map_nil, rop, opd, celsL, oneV, aadd, binV, isSh, intBin, scEq, keq, unV, fillL, oP, oA, oS, wantedA, BX, BL, BS, seval, *]) h77 ?_
  rintro r1 h1 ⟨⟨a, c, rfl, ho⟩, hk1⟩
  clear h77
  obtain ⟨U, hU⟩ : ∃ U, U = units s := ⟨_, rfl⟩
  have hvb : validB s = U.all okU := by rw [hU]; rfl
  have hUl : U.length ≤ s.size := by
    rw [hU]; unfold units; rw [mkU_len]; have := decs_len s s.size 0; omega
  rw [← hU] at ho ⊢
  clear hU
  have hsl := ho.sl (W := W)
  rw [List.length_map] at hsl
  repeat (first | (with_reducible first | apply x_seq | apply x_block | apply x_region | apply x_exit | apply x_ret | apply x_skip | apply t_normal | apply t_exit | apply t_ret | apply b_normal | apply b_ret | apply b_same | apply ops_nil | apply g_T | apply g_F | apply c_T | apply c_F) | (with_reducible refine b_other (by decide) ?_) | ((with_reducible apply x_draws); (with_reducible apply d_pure); (next => kernel_rfl)) | ((with_reducible first | apply ops_d | apply ops_g | apply x_c); (next => simp only [rop, opd, celsL, oneV, aadd, binV, isSh, intBin, scEq, keq, unV, fillL, oP, oA, oS, wantedA, BX, BL, BS, seval, *]; with_reducible exact rfl)))
  refine WPX.loop hmix (fun k σ => ∃ j, j ≤ U.length ∧ k = U.length - j ∧ eget σ.e 6 = .slice a U.length c ∧ eget σ.e 7 = .int .i64 U.length ∧ eget σ.e 8 = .int .i64 (j : Nat) ∧ Keeps h1 σ.h ∧ (U.take j).all okU = true) U.length ?h0 ?round
  case h0 => exact ⟨0, Nat.zero_le _, rfl, (by simp only [rop, opd, celsL, oneV, aadd, binV, isSh, intBin, scEq, keq, unV, fillL, oP, oA, oS, wantedA, BX, BL, BS, seval, *]), (by simp only [rop, opd, celsL, oneV, aadd, binV, isSh, intBin, scEq, keq, unV, fillL, oP, oA, oS, wantedA, BX, BL, BS, seval, *]), (by simp only [rop, opd, celsL, oneV, aadd, binV, isSh, intBin, scEq, keq, unV, fillL, oP, oA, oS, wantedA, BX, BL, BS, seval, *]), Keeps.refl _, rfl⟩
  rintro k ⟨e, hh⟩ ⟨j, hj, rfl, e6, e7, e8, hk, hall⟩
  dsimp only at e6 e7 e8 hk
  by_cases hjl : j < U.length
  · have hjlI : (j : Int) < U.length := by omega
    obtain ⟨⟨cc, p, z⟩, hu⟩ : ∃ u, U[j]? = some u := ⟨_, List.getElem?_eq_getElem hjl⟩
    have hx : (U.map okRec)[j]? = some (okRec (cc, p, z)) := by simp [hu]
    obtain ⟨b, hb1, _, hb3⟩ := (hsl.keeps hk).at hx
    have hld := aloadN_of _ _ hb3
    simp only [okRec, enc4, List.length_cons, List.length_nil, Nat.reduceAdd] at hld
    have hw1 : IntKind.i64.wrap ((j : Int) + 1) = ((j + 1 : Nat) : Int) := wrap_i64 (by omega) (by omega)
    have hkk : Keeps h1 ((hh.new (.cells [.int .i32 0, .int .i64 0, .int .i64 0, .bool false])).put hh.next (.cells [.int .i32 cc, .int .i64 p, .int .i64 z, .bool (okU (cc, p, z))])) := (hk.new _).put hk.le _
    have hkkh := hk1.trans hkk
    clear hx hb3
    cases hok : okU (cc, p, z) with
    | false =>
      have hv : validB s = false := by
        rw [hvb]; exact List.all_eq_false.2 ⟨_, List.mem_of_getElem? hu, by simp [hok]⟩
      rw [hok] at hld hkkh
      clear hok hu hkk hvb
      repeat (first | (with_reducible first | apply x_seq | apply x_block | apply x_region | apply x_exit | apply x_ret | apply x_skip | apply t_normal | apply t_exit | apply t_ret | apply b_normal | apply b_ret | apply b_same | apply ops_nil | apply g_T | apply g_F | apply c_T | apply c_F) | (with_reducible refine b_other (by decide) ?_) | ((with_reducible apply x_draws); (with_reducible apply d_pure); (next => kernel_rfl)) | ((with_reducible first | apply ops_d | apply ops_g | apply x_c); (next => simp only [rop, opd, celsL, oneV, aadd, binV, isSh, intBin, scEq, keq, unV, fillL, oP, oA, oS, wantedA, BX, BL, BS, seval, *]; with_reducible exact rfl)))
      refine ⟨.inr rfl, _, rfl, ?_, hkkh⟩
      simp only [resOf, rop, opd, celsL, oneV, aadd, binV, isSh, intBin, scEq, keq, unV, fillL, oP, oA, oS, wantedA, BX, BL, BS, seval, hv]
    | true =>
      have hnx : (U.take (j + 1)).all okU = true := by rw [List.take_add_one, hu, List.all_append, hall]; simp [hok]
      rw [hok] at hld hkk
      clear hok hu hkkh hvb
      repeat (first | (with_reducible first | apply x_seq | apply x_block | apply x_region | apply x_exit | apply x_ret | apply x_skip | apply t_normal | apply t_exit | apply t_ret | apply b_normal | apply b_ret | apply b_same | apply ops_nil | apply g_T | apply g_F | apply c_T | apply c_F) | (with_reducible refine b_other (by decide) ?_) | ((with_reducible apply x_draws); (with_reducible apply d_pure); (next => kernel_rfl)) | ((with_reducible first | apply ops_d | apply ops_g | apply x_c); (next => simp only [rop, opd, celsL, oneV, aadd, binV, isSh, intBin, scEq, keq, unV, fillL, oP, oA, oS, wantedA, BX, BL, BS, seval, *]; with_reducible exact rfl)))
      exact ⟨U.length - (j + 1), by omega, j + 1, by omega, rfl, (by simp only [rop, opd, celsL, oneV, aadd, binV, isSh, intBin, scEq, keq, unV, fillL, oP, oA, oS, wantedA, BX, BL, BS, seval, *]), (by simp only [rop, opd, celsL, oneV, aadd, binV, isSh, intBin, scEq, keq, unV, fillL, oP, oA, oS, wantedA, BX, BL, BS, seval, *]), (by simp only [rop, opd, celsL, oneV, aadd, binV, isSh, intBin, scEq, keq, unV, fillL, oP, oA, oS, wantedA, BX, BL, BS, seval, *]), hkk, hnx⟩
  · have hjlI : ¬ (j : Int) < U.length := by omega
    rw [List.take_of_length_le (by omega)] at hall
    have hv : validB s = true := by rw [hvb, hall]
    clear hall hvb
    repeat (first | (with_reducible first | apply x_seq | apply x_block | apply x_region | apply x_exit | apply x_ret | apply x_skip | apply t_normal | apply t_exit | apply t_ret | apply b_normal | apply b_ret | apply b_same | apply ops_nil | apply g_T | apply g_F | apply c_T | apply c_F) | (with_reducible refine b_other (by decide) ?_) | ((with_reducible apply x_draws); (with_reducible apply d_pure); (next => kernel_rfl)) | ((with_reducible first | apply ops_d | apply ops_g | apply x_c); (next => simp only [rop, opd, celsL, oneV, aadd, binV, isSh, intBin, scEq, keq, unV, fillL, oP, oA, oS, wantedA, BX, BL, BS, seval, *]; with_reducible exact rfl)))
    refine ⟨.inr rfl, _, rfl, ?_, hk1.trans hk⟩
    simp only [resOf, rop, opd, celsL, oneV, aadd, binV, isSh, intBin, scEq, keq, unV, fillL, oP, oA, oS, wantedA, BX, BL, BS, seval, hv]

def hitA (c : Int) (x : Arc3) : Bool := decide (x.1 ≤ c) && decide (c ≤ x.2.1)
theorem nextA_hit {l : List Arc3} {c : Int} {j : Nat} {x : Arc3} (hj : l[j]? = some x) (h0 : (l.take j).find? (hitA c) = none) (hx : hitA c x = true) : nextA l c = x.2.2 := by
  have hlt := (List.getElem?_eq_some_iff.1 hj).1
  have hs : l = l.take j ++ x :: l.drop (j + 1) := by
    rw [← (List.getElem?_eq_some_iff.1 hj).2, List.getElem_cons_drop, List.take_append_drop]
  unfold nextA
  show (match l.find? (hitA c) with | some x => x.2.2 | none => -1) = _
  rw [hs, List.find?_append, h0]
  simp [hx]
theorem nextA_none {l : List Arc3} {c : Int} (h0 : l.find? (hitA c) = none) : nextA l c = -1 := by
  unfold nextA
  show (match l.find? (hitA c) with | some x => x.2.2 | none => -1) = _
  rw [h0]

def nextQ (A : Aut) (q c : Int) : Int := if q < 0 then -1 else nextA (A.arcs.getD q.toNat []) c

set_option maxHeartbeats 4000000 in
theorem f43_ok (W : World) (h : AHeap) (v : Value) (A : Aut) (vf va : Value) (vs : List Value) (q c : Int) (hA : AutoV W h v A vf va vs) (hb : ∀ l ∈ A.arcs, l.length < 1073741824) (hq : q < 0 ∨ q.toNat < A.arcs.length) :
    ACalls Tryz.prog W 43 [v, .int .i64 q, .int .i32 c] h (fun r h' => r = .int .i64 (nextQ A q c) ∧ Keeps h h') := by
  obtain ⟨rfl, hf, ha, hl, he⟩ := hA
  obtain ⟨fa, fc, hfs⟩ := hf.len
  obtain ⟨aa, ac, has⟩ := ha.len
  rw [List.length_map] at hfs has
  rw [hl] at has
  subst hfs has
  refine ACalls_ofX hmix c43 (Nat.le_of_ble_eq_true rfl) ?_
  unfold r43
  simp only [envOf3]
  by_cases hq0 : q < 0
  · have hv : nextQ A q c = -1 := by simp [nextQ, hq0]
    repeat (first | (with_reducible first | apply x_seq | apply x_block | apply x_region | apply x_exit | apply x_ret | apply x_skip | apply t_normal | apply t_exit | apply t_ret | apply b_normal | apply b_ret | apply b_same | apply ops_nil | apply g_T | apply g_F | apply c_T | apply c_F) | (with_reducible refine b_other (by decide) ?_) | ((with_reducible apply x_draws); (with_reducible apply d_pure); (next => kernel_rfl)) | ((with_reducible first | apply ops_d | apply ops_g | apply x_c); (next => simp only [rop, opd, celsL, oneV, aadd, binV, isSh, intBin, scEq, keq, unV, fillL, oP, oA, oS, wantedA, BX, BL, BS, seval, *]; with_reducible exact rfl)))
    refine ⟨.inr rfl, _, rfl, ?_, (Keeps.refl h).new _⟩
    simp only [resOf, rop, opd, celsL, oneV, aadd, binV, isSh, intBin, scEq, keq, unV, fillL, oP, oA, oS, wantedA, BX, BL, BS, seval, hv]
  obtain ⟨n, rfl⟩ : ∃ n : Nat, q = n := ⟨q.toNat, by omega⟩
  have hn : n < A.arcs.length := by omega
  obtain ⟨l, hll⟩ : ∃ l, A.arcs[n]? = some l := ⟨_, List.getElem?_eq_getElem hn⟩
  obtain ⟨x, hxs⟩ : ∃ x, vs[n]? = some x := ⟨_, List.getElem?_eq_getElem (show n < vs.length by omega)⟩
  have hnq : nextQ A n c = nextA l c := by simp only [nextQ, if_neg hq0]; simp [hll]
  have hxm : (vs.map fun x => [x])[n]? = some [x] := by simp [hxs]
  have hk0 : Keeps h (h.new (.cells [.slice fa A.fin.length fc, .slice aa A.arcs.length ac])) := (Keeps.refl h).new _
  obtain ⟨a, ha1, _, ha3⟩ := (ha.keeps hk0).at hxm
  have hrd := (ha3 0 x rfl).1
  have haa : aadd a 0 = a := rfl
  rw [haa] at hrd
  have hsl := he n x l hxs hll
  obtain ⟨la, lc, hls⟩ := hsl.len
  rw [List.length_map] at hls
  subst hls
  have hbl := hb l (List.mem_of_getElem? hll)
  clear hxm ha3 hq hll hxs
  repeat (first | (with_reducible first | apply x_seq | apply x_block | apply x_region | apply x_exit | apply x_ret | apply x_skip | apply t_normal | apply t_exit | apply t_ret | apply b_normal | apply b_ret | apply b_same | apply ops_nil | apply g_T | apply g_F | apply c_T | apply c_F) | (with_reducible refine b_other (by decide) ?_) | ((with_reducible apply x_draws); (with_reducible apply d_pure); (next => kernel_rfl)) | ((with_reducible first | apply ops_d | apply ops_g | apply x_c); (next => simp only [rop, opd, celsL, oneV, aadd, binV, isSh, intBin, scEq, keq, unV, fillL, oP, oA, oS, wantedA, BX, BL, BS, seval, *]; with_reducible exact rfl)))
  refine WPX.loop hmix (fun k σ => ∃ j, j ≤ l.length ∧ k = l.length - j ∧ eget σ.e 2 = .int .i32 c ∧ eget σ.e 15 = .slice la l.length lc ∧ eget σ.e 16 = .int .i64 l.length ∧ eget σ.e 17 = .int .i64 (j : Nat) ∧ Keeps h σ.h ∧ (l.take j).find? (hitA c) = none) l.length ?h0 ?round
  case h0 => exact ⟨0, Nat.zero_le _, rfl, (by simp only [rop, opd, celsL, oneV, aadd, binV, isSh, intBin, scEq, keq, unV, fillL, oP, oA, oS, wantedA, BX, BL, BS, seval, *]), (by simp only [rop, opd, celsL, oneV, aadd, binV, isSh, intBin, scEq, keq, unV, fillL, oP, oA, oS, wantedA, BX, BL, BS, seval, *]), (by simp only [rop, opd, celsL, oneV, aadd, binV, isSh, intBin, scEq, keq, unV, fillL, oP, oA, oS, wantedA, BX, BL, BS, seval, *]), (by simp only [rop, opd, celsL, oneV, aadd, binV, isSh, intBin, scEq, keq, unV, fillL, oP, oA, oS, wantedA, BX, BL, BS, seval, *]), hk0, rfl⟩
  rintro k ⟨e, hh⟩ ⟨j, hj, rfl, e2, e15, e16, e17, hk, hnone⟩
  dsimp only at e2 e15 e16 e17 hk
  clear hrd ha1
  by_cases hjl : j < l.length
  · have hjlI : (j : Int) < l.length := by omega
    obtain ⟨⟨f, t, s⟩, hx⟩ : ∃ x, l[j]? = some x := ⟨_, List.getElem?_eq_getElem hjl⟩
    have hxj : (l.map arcV)[j]? = some (arcV (f, t, s)) := by simp [hx]
    obtain ⟨b, hb1, _, hb3⟩ := (hsl.keeps hk).at hxj
    have hld := aloadN_of _ _ hb3
    simp only [arcV, List.length_cons, List.length_nil, Nat.reduceAdd] at hld
    have hw1 : IntKind.i64.wrap ((j : Int) + 1) = ((j + 1 : Nat) : Int) := wrap_i64 (by omega) (by omega)
    have hkk : Keeps h ((hh.new (.cells [.int .i32 0, .int .i32 0, .int .i64 0])).put hh.next (.cells [.int .i32 f, .int .i32 t, .int .i64 s])) := (hk.new _).put hk.le _
    have hnx : hitA c (f, t, s) = false → (l.take (j + 1)).find? (hitA c) = none := fun hf => by
      rw [List.take_add_one, hx, List.find?_append, hnone]; simp [hf]
    have hft : hitA c (f, t, s) = true → nextQ A n c = s := fun hf => by rw [hnq]; exact nextA_hit hx hnone hf
    clear hxj hb3 hx hnq
    by_cases b1 : f ≤ c
    · by_cases b2 : c ≤ t
      · have hv := hft (by simp [hitA, b1, b2])
        clear hnx hft
        repeat (first | (with_reducible first | apply x_seq | apply x_block | apply x_region | apply x_exit | apply x_ret | apply x_skip | apply t_normal | apply t_exit | apply t_ret | apply b_normal | apply b_ret | apply b_same | apply ops_nil | apply g_T | apply g_F | apply c_T | apply c_F) | (with_reducible refine b_other (by decide) ?_) | ((with_reducible apply x_draws); (with_reducible apply d_pure); (next => kernel_rfl)) | ((with_reducible first | apply ops_d | apply ops_g | apply x_c); (next => simp only [rop, opd, celsL, oneV, aadd, binV, isSh, intBin, scEq, keq, unV, fillL, oP, oA, oS, wantedA, BX, BL, BS, seval, *]; with_reducible exact rfl)))
        refine ⟨.inr rfl, _, rfl, ?_, hkk⟩
        simp only [resOf, rop, opd, celsL, oneV, aadd, binV, isSh, intBin, scEq, keq, unV, fillL, oP, oA, oS, wantedA, BX, BL, BS, seval, hv]
      · have hv := hnx (by simp [hitA, b2])
        clear hnx hft
        repeat (first | (with_reducible first | apply x_seq | apply x_block | apply x_region | apply x_exit | apply x_ret | apply x_skip | apply t_normal | apply t_exit | apply t_ret | apply b_normal | apply b_ret | apply b_same | apply ops_nil | apply g_T | apply g_F | apply c_T | apply c_F) | (with_reducible refine b_other (by decide) ?_) | ((with_reducible apply x_draws); (with_reducible apply d_pure); (next => kernel_rfl)) | ((with_reducible first | apply ops_d | apply ops_g | apply x_c); (next => simp only [rop, opd, celsL, oneV, aadd, binV, isSh, intBin, scEq, keq, unV, fillL, oP, oA, oS, wantedA, BX, BL, BS, seval, *]; with_reducible exact rfl)))
        exact ⟨l.length - (j + 1), by omega, j + 1, by omega, rfl, (by simp only [rop, opd, celsL, oneV, aadd, binV, isSh, intBin, scEq, keq, unV, fillL, oP, oA, oS, wantedA, BX, BL, BS, seval, *]), (by simp only [rop, opd, celsL, oneV, aadd, binV, isSh, intBin, scEq, keq, unV, fillL, oP, oA, oS, wantedA, BX, BL, BS, seval, *]), (by simp only [rop, opd, celsL, oneV, aadd, binV, isSh, intBin, scEq, keq, unV, fillL, oP, oA, oS, wantedA, BX, BL, BS, seval, *]), (by simp only [rop, opd, celsL, oneV, aadd, binV, isSh, intBin, scEq, keq, unV, fillL, oP, oA, oS, wantedA, BX, BL, BS, seval, *]), hkk, hv⟩
    · have hv := hnx (by simp [hitA, b1])
      clear hnx hft
      repeat (first | (with_reducible first | apply x_seq | apply x_block | apply x_region | apply x_exit | apply x_ret | apply x_skip | apply t_normal | apply t_exit | apply t_ret | apply b_normal | apply b_ret | apply b_same | apply ops_nil | apply g_T | apply g_F | apply c_T | apply c_F) | (with_reducible refine b_other (by decide) ?_) | ((with_reducible apply x_draws); (with_reducible apply d_pure); (next => kernel_rfl)) | ((with_reducible first | apply ops_d | apply ops_g | apply x_c); (next => simp only [rop, opd, celsL, oneV, aadd, binV, isSh, intBin, scEq, keq, unV, fillL, oP, oA, oS, wantedA, BX, BL, BS, seval, *]; with_reducible exact rfl)))
      exact ⟨l.length - (j + 1), by omega, j + 1, by omega, rfl, (by simp only [rop, opd, celsL, oneV, aadd, binV, isSh, intBin, scEq, keq, unV, fillL, oP, oA, oS, wantedA, BX, BL, BS, seval, *]), (by simp only [rop, opd, celsL, oneV, aadd, binV, isSh, intBin, scEq, keq, unV, fillL, oP, oA, oS, wantedA, BX, BL, BS, seval, *]), (by simp only [rop, opd, celsL, oneV, aadd, binV, isSh, intBin, scEq, keq, unV, fillL, oP, oA, oS, wantedA, BX, BL, BS, seval, *]), (by simp only [rop, opd, celsL, oneV, aadd, binV, isSh, intBin, scEq, keq, unV, fillL, oP, oA, oS, wantedA, BX, BL, BS, seval, *]), hkk, hv⟩
  · have hjlI : ¬ (j : Int) < l.length := by omega
    rw [List.take_of_length_le (by omega)] at hnone
    have hv : nextQ A n c = -1 := by rw [hnq]; exact nextA_none hnone
    clear hnone hnq
    repeat (first | (with_reducible first | apply x_seq | apply x_block | apply x_region | apply x_exit | apply x_ret | apply x_skip | apply t_normal | apply t_exit | apply t_ret | apply b_normal | apply b_ret | apply b_same | apply ops_nil | apply g_T | apply g_F | apply c_T | apply c_F) | (with_reducible refine b_other (by decide) ?_) | ((with_reducible apply x_draws); (with_reducible apply d_pure); (next => kernel_rfl)) | ((with_reducible first | apply ops_d | apply ops_g | apply x_c); (next => simp only [rop, opd, celsL, oneV, aadd, binV, isSh, intBin, scEq, keq, unV, fillL, oP, oA, oS, wantedA, BX, BL, BS, seval, *]; with_reducible exact rfl)))
    refine ⟨.inr rfl, _, rfl, ?_, hk⟩
    simp only [resOf, rop, opd, celsL, oneV, aadd, binV, isSh, intBin, scEq, keq, unV, fillL, oP, oA, oS, wantedA, BX, BL, BS, seval, hv]
end Go.Proofs.YtlipmjpapkfaeaaGreatDoor.Fn
