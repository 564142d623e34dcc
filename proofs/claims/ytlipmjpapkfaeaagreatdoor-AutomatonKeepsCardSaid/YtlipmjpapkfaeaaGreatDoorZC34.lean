/- corporaref20.Same (F23) in the machine, at one automaton in two places: true. No condition but sizes.
Merged from 2 texts. -/
import Derived.Test.YtlipmjpapkfaeaaGreatDoorZC32
import Derived.Test.YtlipmjpapkfaeaaGreatDoorZC33
import Derived.Test.YtlipmjpapkfaeaaGreatDoorZC21
import Derived.Test.YtlipmjpapkfaeaaGreatDoorZC9
section
set_option linter.unusedSimpArgs false
set_option linter.unusedVariables false
set_option maxRecDepth 100000
namespace Go.Proofs.YtlipmjpapkfaeaaGreatDoor.Fn
open Go Go.Mach Go.RowKit Go.Proofs
attribute [local irreducible] AOps WPX DOps thenS blockS AOp GOps CPick

set_option maxHeartbeats 8000000 in
theorem f23_ok (W : World) (h : AHeap) (A : Aut) (vf va vf' va' : Value) (vs vs' : List Value) (hA : AutoV W h (.agg #[vf, va]) A vf va vs) (hB : AutoV W h (.agg #[vf', va']) A vf' va' vs') (hn : A.fin.length < 1073741824) (hm : A.arcs.length < 1073741824) (hb : ∀ l ∈ A.arcs, l.length < 1073741824) :
    ACalls Tryz.prog W 23 [.agg #[vf, va], .agg #[vf', va']] h (fun r h' => r = .bool true ∧ Keeps h h') := by
  obtain ⟨_, hf, ha, hl, he⟩ := hA
  obtain ⟨_, hf', ha', hl', he'⟩ := hB
  obtain ⟨fa, fc, hfs⟩ := hf.len
  obtain ⟨aa, ac, has⟩ := ha.len
  obtain ⟨fa', fc', hfs'⟩ := hf'.len
  obtain ⟨aa', ac', has'⟩ := ha'.len
  rw [List.length_map] at hfs has hfs' has'
  rw [hl] at has
  rw [hl'] at has'
  subst hfs has hfs' has'
  refine ACalls_ofX hmix c23 (Nat.le_of_ble_eq_true rfl) ?_
  unfold r23
  simp only [envOf2]
  obtain ⟨H, hH⟩ : ∃ H, H = (h.new (.cells [.slice fa A.fin.length fc, .slice aa A.arcs.length ac])).new (.cells [.slice fa' A.fin.length fc', .slice aa' A.arcs.length ac']) := ⟨_, rfl⟩
  have hkH : Keeps h H := by rw [hH]; exact ((Keeps.refl h).new _).new _
  have hb1 : H.own.get h.next = some (.cells [.slice fa A.fin.length fc, .slice aa A.arcs.length ac]) := by rw [hH, AHeap.new_get, AHeap.new_next, if_neg (by omega), AHeap.new_get, if_pos rfl]
  have hb2 : H.own.get (h.next + 1) = some (.cells [.slice fa' A.fin.length fc', .slice aa' A.arcs.length ac']) := by rw [hH, AHeap.new_get, AHeap.new_next, if_pos rfl]
  have hse : ∀ a : Int, decide (a = a) = true := fun a => by simp
  have hse2 : ∀ a : Int, (a == a) = true := fun a => by simp
  have hkx : ∀ a b c : Int, keq (.agg [.i, .i, .i]) (.agg #[.int .i32 a, .int .i32 b, .int .i64 c]) (.agg #[.int .i32 a, .int .i32 b, .int .i64 c]) = some true := fun a b c => by simp [keq, scEqs, scEq]
  have hsq : ∀ a b c : Int, scEqs [.i, .i, .i] [.int .i32 a, .int .i32 b, .int .i64 c] [.int .i32 a, .int .i32 b, .int .i64 c] = some true := fun a b c => by simp [scEqs, scEq]
  have e1 : ¬ h.next = h.next + 1 := by omega
  rw [hH] at hb1 hb2
  repeat (first | (with_reducible first | apply x_seq | apply x_block | apply x_region | apply x_exit | apply x_ret | apply x_skip | apply t_normal | apply t_exit | apply t_ret | apply b_normal | apply b_ret | apply b_same | apply ops_nil | apply g_T | apply g_F | apply c_T | apply c_F) | (with_reducible refine b_other (by decide) ?_) | ((with_reducible apply x_draws); (with_reducible apply d_pure); (next => kernel_rfl)) | ((with_reducible first | apply ops_d | apply ops_g | apply x_c); (next => simp only [rop, opd, celsL, oneV, aadd, binV, isSh, intBin, scEq, keq, unV, fillL, oP, oA, oS, wantedA, BX, BL, BS, seval, *]; with_reducible exact rfl)))
  refine WPX.loop hmix (fun k σ => ∃ i, i ≤ A.fin.length ∧ k = A.fin.length - i ∧ eget σ.e 2 = .pointer (some ⟨h.next, 0, some 0⟩) ∧ eget σ.e 3 = .pointer (some ⟨h.next + 1, 0, some 0⟩) ∧ eget σ.e 26 = .int .i64 A.fin.length ∧ eget σ.e 27 = .int .i64 (i : Nat) ∧ σ.h = H) A.fin.length ?h0 ?round
  case h0 => exact ⟨0, Nat.zero_le _, rfl, (by simp only [rop, opd, celsL, oneV, aadd, binV, isSh, intBin, scEq, keq, unV, fillL, oP, oA, oS, wantedA, BX, BL, BS, seval, *]), (by simp only [rop, opd, celsL, oneV, aadd, binV, isSh, intBin, scEq, keq, unV, fillL, oP, oA, oS, wantedA, BX, BL, BS, seval, *]), (by simp only [rop, opd, celsL, oneV, aadd, binV, isSh, intBin, scEq, keq, unV, fillL, oP, oA, oS, wantedA, BX, BL, BS, seval, *]), (by simp only [rop, opd, celsL, oneV, aadd, binV, isSh, intBin, scEq, keq, unV, fillL, oP, oA, oS, wantedA, BX, BL, BS, seval, *]), hH.symm⟩
  rw [← hH] at hb1 hb2
  clear hH
  rintro k ⟨e, hh⟩ ⟨i, hi, rfl, q2, q3, q26, q27, rfl⟩
  dsimp only at q2 q3 q26 q27 hb1 hb2 hkH
  by_cases hlt : i < A.fin.length
  · have hltI : (i : Int) < A.fin.length := by omega
    have hw1 : IntKind.i64.wrap ((i : Int) + 1) = ((i + 1 : Nat) : Int) := wrap_i64 (by omega) (by omega)
    have hx : (A.fin.map fun b => [Value.bool b])[i]? = some [.bool A.fin[i]] := by simp [hlt]
    obtain ⟨d, hd1, _, hd3⟩ := (hf.keeps hkH).at hx
    have hr := (hd3 0 (.bool A.fin[i]) rfl).1
    have hdd : aadd d 0 = d := rfl
    rw [hdd] at hr
    obtain ⟨d', hd1', _, hd3'⟩ := (hf'.keeps hkH).at hx
    have hr' := (hd3' 0 (.bool A.fin[i]) rfl).1
    have hdd' : aadd d' 0 = d' := rfl
    rw [hdd'] at hr'
    clear hx hd3 hd3'
    repeat (first | (with_reducible first | apply x_seq | apply x_block | apply x_region | apply x_exit | apply x_ret | apply x_skip | apply t_normal | apply t_exit | apply t_ret | apply b_normal | apply b_ret | apply b_same | apply ops_nil | apply g_T | apply g_F | apply c_T | apply c_F) | (with_reducible refine b_other (by decide) ?_) | ((with_reducible apply x_draws); (with_reducible apply d_pure); (next => kernel_rfl)) | ((with_reducible first | apply ops_d | apply ops_g | apply x_c); (next => simp only [rop, opd, celsL, oneV, aadd, binV, isSh, intBin, scEq, keq, unV, fillL, oP, oA, oS, wantedA, BX, BL, BS, seval, *]; with_reducible exact rfl)))
    exact ⟨A.fin.length - (i + 1), by omega, i + 1, by omega, rfl, (by simp only [rop, opd, celsL, oneV, aadd, binV, isSh, intBin, scEq, keq, unV, fillL, oP, oA, oS, wantedA, BX, BL, BS, seval, *]), (by simp only [rop, opd, celsL, oneV, aadd, binV, isSh, intBin, scEq, keq, unV, fillL, oP, oA, oS, wantedA, BX, BL, BS, seval, *]), (by simp only [rop, opd, celsL, oneV, aadd, binV, isSh, intBin, scEq, keq, unV, fillL, oP, oA, oS, wantedA, BX, BL, BS, seval, *]), (by simp only [rop, opd, celsL, oneV, aadd, binV, isSh, intBin, scEq, keq, unV, fillL, oP, oA, oS, wantedA, BX, BL, BS, seval, *]), rfl⟩
  · have hltI : ¬ (i : Int) < A.fin.length := by omega
    repeat (first | (with_reducible first | apply x_seq | apply x_block | apply x_region | apply x_exit | apply x_ret | apply x_skip | apply t_normal | apply t_exit | apply t_ret | apply b_normal | apply b_ret | apply b_same | apply ops_nil | apply g_T | apply g_F | apply c_T | apply c_F) | (with_reducible refine b_other (by decide) ?_) | ((with_reducible apply x_draws); (with_reducible apply d_pure); (next => kernel_rfl)) | ((with_reducible first | apply ops_d | apply ops_g | apply x_c); (next => simp only [rop, opd, celsL, oneV, aadd, binV, isSh, intBin, scEq, keq, unV, fillL, oP, oA, oS, wantedA, BX, BL, BS, seval, *]; with_reducible exact rfl)))
    refine WPX.loop hmix (fun k σ => ∃ i, i ≤ A.arcs.length ∧ k = A.arcs.length - i ∧ eget σ.e 2 = .pointer (some ⟨h.next, 0, some 0⟩) ∧ eget σ.e 3 = .pointer (some ⟨h.next + 1, 0, some 0⟩) ∧ eget σ.e 44 = .int .i64 A.arcs.length ∧ eget σ.e 45 = .int .i64 (i : Nat) ∧ σ.h = hh) A.arcs.length ?h1 ?round1
    case h1 => exact ⟨0, Nat.zero_le _, rfl, (by simp only [rop, opd, celsL, oneV, aadd, binV, isSh, intBin, scEq, keq, unV, fillL, oP, oA, oS, wantedA, BX, BL, BS, seval, *]), (by simp only [rop, opd, celsL, oneV, aadd, binV, isSh, intBin, scEq, keq, unV, fillL, oP, oA, oS, wantedA, BX, BL, BS, seval, *]), (by simp only [rop, opd, celsL, oneV, aadd, binV, isSh, intBin, scEq, keq, unV, fillL, oP, oA, oS, wantedA, BX, BL, BS, seval, *]), (by simp only [rop, opd, celsL, oneV, aadd, binV, isSh, intBin, scEq, keq, unV, fillL, oP, oA, oS, wantedA, BX, BL, BS, seval, *]), rfl⟩
    clear q2 q3 q26 q27 hltI hlt hi
    rintro k ⟨e, hh2⟩ ⟨i, hi, rfl, q2, q3, q44, q45, rfl⟩
    dsimp only at q2 q3 q44 q45 hb1 hb2 hkH
    by_cases hlt : i < A.arcs.length
    · have hltI : (i : Int) < A.arcs.length := by omega
      have hw1 : IntKind.i64.wrap ((i : Int) + 1) = ((i + 1 : Nat) : Int) := wrap_i64 (by omega) (by omega)
      obtain ⟨l, hll⟩ : ∃ l, A.arcs[i]? = some l := ⟨_, List.getElem?_eq_getElem hlt⟩
      obtain ⟨x, hxs⟩ : ∃ x, vs[i]? = some x := ⟨_, List.getElem?_eq_getElem (show i < vs.length by omega)⟩
      obtain ⟨x', hxs'⟩ : ∃ x, vs'[i]? = some x := ⟨_, List.getElem?_eq_getElem (show i < vs'.length by omega)⟩
      have hx : (vs.map fun x => [x])[i]? = some [x] := by simp [hxs]
      have hx' : (vs'.map fun x => [x])[i]? = some [x'] := by simp [hxs']
      obtain ⟨d, hd1, _, hd3⟩ := (ha.keeps hkH).at hx
      have hr := (hd3 0 x rfl).1
      have hdd : aadd d 0 = d := rfl
      rw [hdd] at hr
      obtain ⟨d', hd1', _, hd3'⟩ := (ha'.keeps hkH).at hx'
      have hr' := (hd3' 0 x' rfl).1
      have hdd' : aadd d' 0 = d' := rfl
      rw [hdd'] at hr'
      have hs := (he i x l hxs hll).keeps hkH
      have hs' := (he' i x' l hxs' hll).keeps hkH
      have hbl := hb l (List.mem_of_getElem? hll)
      obtain ⟨la, lc, hls⟩ := hs.len
      obtain ⟨la', lc', hls'⟩ := hs'.len
      rw [List.length_map] at hls hls'
      subst hls hls'
      clear hx hx' hd3 hd3' hxs hxs' hll
      repeat (first | (with_reducible first | apply x_seq | apply x_block | apply x_region | apply x_exit | apply x_ret | apply x_skip | apply t_normal | apply t_exit | apply t_ret | apply b_normal | apply b_ret | apply b_same | apply ops_nil | apply g_T | apply g_F | apply c_T | apply c_F) | (with_reducible refine b_other (by decide) ?_) | ((with_reducible apply x_draws); (with_reducible apply d_pure); (next => kernel_rfl)) | ((with_reducible first | apply ops_d | apply ops_g | apply x_c); (next => simp only [rop, opd, celsL, oneV, aadd, binV, isSh, intBin, scEq, keq, unV, fillL, oP, oA, oS, wantedA, BX, BL, BS, seval, *]; with_reducible exact rfl)))
      refine WPX.loop hmix (fun k σ => ∃ j, j ≤ l.length ∧ k = l.length - j ∧ eget σ.e 2 = .pointer (some ⟨h.next, 0, some 0⟩) ∧ eget σ.e 3 = .pointer (some ⟨h.next + 1, 0, some 0⟩) ∧ eget σ.e 6 = .int .i64 (i : Nat) ∧ eget σ.e 44 = .int .i64 A.arcs.length ∧ eget σ.e 45 = .int .i64 (i : Nat) ∧
        eget σ.e 66 = .int .i64 l.length ∧ eget σ.e 67 = .int .i64 (j : Nat) ∧ σ.h = hh2) l.length ?h2 ?round2
      case h2 => exact ⟨0, Nat.zero_le _, rfl, (by simp only [rop, opd, celsL, oneV, aadd, binV, isSh, intBin, scEq, keq, unV, fillL, oP, oA, oS, wantedA, BX, BL, BS, seval, *]), (by simp only [rop, opd, celsL, oneV, aadd, binV, isSh, intBin, scEq, keq, unV, fillL, oP, oA, oS, wantedA, BX, BL, BS, seval, *]), (by simp only [rop, opd, celsL, oneV, aadd, binV, isSh, intBin, scEq, keq, unV, fillL, oP, oA, oS, wantedA, BX, BL, BS, seval, *]), (by simp only [rop, opd, celsL, oneV, aadd, binV, isSh, intBin, scEq, keq, unV, fillL, oP, oA, oS, wantedA, BX, BL, BS, seval, *]), (by simp only [rop, opd, celsL, oneV, aadd, binV, isSh, intBin, scEq, keq, unV, fillL, oP, oA, oS, wantedA, BX, BL, BS, seval, *]), (by simp only [rop, opd, celsL, oneV, aadd, binV, isSh, intBin, scEq, keq, unV, fillL, oP, oA, oS, wantedA, BX, BL, BS, seval, *]), (by simp only [rop, opd, celsL, oneV, aadd, binV, isSh, intBin, scEq, keq, unV, fillL, oP, oA, oS, wantedA, BX, BL, BS, seval, *]), rfl⟩
      clear q2 q3 q44 q45
      rintro k ⟨e, hh3⟩ ⟨j, hj, rfl, q2, q3, q6, q44, q45, q66, q67, rfl⟩
      dsimp only at q2 q3 q6 q44 q45 q66 q67 hb1 hb2 hkH hr hr' hs hs'
      by_cases hjl : j < l.length
      · have hjlI : (j : Int) < l.length := by omega
        have hw2 : IntKind.i64.wrap ((j : Int) + 1) = ((j + 1 : Nat) : Int) := wrap_i64 (by omega) (by omega)
        obtain ⟨⟨f, t, s⟩, hx⟩ : ∃ x, l[j]? = some x := ⟨_, List.getElem?_eq_getElem hjl⟩
        have hxj : (l.map arcV)[j]? = some (arcV (f, t, s)) := by simp [hx]
        obtain ⟨b, hbb1, _, hbb3⟩ := hs.at hxj
        have hld := aloadN_of _ _ hbb3
        obtain ⟨b', hbb1', _, hbb3'⟩ := hs'.at hxj
        have hld' := aloadN_of _ _ hbb3'
        simp only [arcV, List.length_cons, List.length_nil, Nat.reduceAdd] at hld hld'
        clear hbb3 hbb3' hxj hx
        repeat (first | (with_reducible first | apply x_seq | apply x_block | apply x_region | apply x_exit | apply x_ret | apply x_skip | apply t_normal | apply t_exit | apply t_ret | apply b_normal | apply b_ret | apply b_same | apply ops_nil | apply g_T | apply g_F | apply c_T | apply c_F) | (with_reducible refine b_other (by decide) ?_) | ((with_reducible apply x_draws); (with_reducible apply d_pure); (next => kernel_rfl)) | ((with_reducible first | apply ops_d | apply ops_g | apply x_c); (next => simp only [rop, opd, celsL, oneV, aadd, binV, isSh, intBin, scEq, keq, unV, fillL, oP, oA, oS, wantedA, BX, BL, BS, seval, *]; with_reducible exact rfl)))
        exact ⟨l.length - (j + 1), by omega, j + 1, by omega, rfl, (by simp only [rop, opd, celsL, oneV, aadd, binV, isSh, intBin, scEq, keq, unV, fillL, oP, oA, oS, wantedA, BX, BL, BS, seval, *]), (by simp only [rop, opd, celsL, oneV, aadd, binV, isSh, intBin, scEq, keq, unV, fillL, oP, oA, oS, wantedA, BX, BL, BS, seval, *]), (by simp only [rop, opd, celsL, oneV, aadd, binV, isSh, intBin, scEq, keq, unV, fillL, oP, oA, oS, wantedA, BX, BL, BS, seval, *]), (by simp only [rop, opd, celsL, oneV, aadd, binV, isSh, intBin, scEq, keq, unV, fillL, oP, oA, oS, wantedA, BX, BL, BS, seval, *]), (by simp only [rop, opd, celsL, oneV, aadd, binV, isSh, intBin, scEq, keq, unV, fillL, oP, oA, oS, wantedA, BX, BL, BS, seval, *]), (by simp only [rop, opd, celsL, oneV, aadd, binV, isSh, intBin, scEq, keq, unV, fillL, oP, oA, oS, wantedA, BX, BL, BS, seval, *]), (by simp only [rop, opd, celsL, oneV, aadd, binV, isSh, intBin, scEq, keq, unV, fillL, oP, oA, oS, wantedA, BX, BL, BS, seval, *]), rfl⟩
      · have hjlI : ¬ (j : Int) < l.length := by omega
        repeat (first | (with_reducible first | apply x_seq | apply x_block | apply x_region | apply x_exit | apply x_ret | apply x_skip | apply t_normal | apply t_exit | apply t_ret | apply b_normal | apply b_ret | apply b_same | apply ops_nil | apply g_T | apply g_F | apply c_T | apply c_F) | (with_reducible refine b_other (by decide) ?_) | ((with_reducible apply x_draws); (with_reducible apply d_pure); (next => kernel_rfl)) | ((with_reducible first | apply ops_d | apply ops_g | apply x_c); (next => simp only [rop, opd, celsL, oneV, aadd, binV, isSh, intBin, scEq, keq, unV, fillL, oP, oA, oS, wantedA, BX, BL, BS, seval, *]; with_reducible exact rfl)))
        exact ⟨A.arcs.length - (i + 1), by omega, i + 1, by omega, rfl, (by simp only [rop, opd, celsL, oneV, aadd, binV, isSh, intBin, scEq, keq, unV, fillL, oP, oA, oS, wantedA, BX, BL, BS, seval, *]), (by simp only [rop, opd, celsL, oneV, aadd, binV, isSh, intBin, scEq, keq, unV, fillL, oP, oA, oS, wantedA, BX, BL, BS, seval, *]), (by simp only [rop, opd, celsL, oneV, aadd, binV, isSh, intBin, scEq, keq, unV, fillL, oP, oA, oS, wantedA, BX, BL, BS, seval, *]), (by simp only [rop, opd, celsL, oneV, aadd, binV, isSh, intBin, scEq, keq, unV, fillL, oP, oA, oS, wantedA, BX, BL, BS, seval, *]), rfl⟩
    · have hltI : ¬ (i : Int) < A.arcs.length := by omega
      repeat (first | (with_reducible first | apply x_seq | apply x_block | apply x_region | apply x_exit | apply x_ret | apply x_skip | apply t_normal | apply t_exit | apply t_ret | apply b_normal | apply b_ret | apply b_same | apply ops_nil | apply g_T | apply g_F | apply c_T | apply c_F) | (with_reducible refine b_other (by decide) ?_) | ((with_reducible apply x_draws); (with_reducible apply d_pure); (next => kernel_rfl)) | ((with_reducible first | apply ops_d | apply ops_g | apply x_c); (next => simp only [rop, opd, celsL, oneV, aadd, binV, isSh, intBin, scEq, keq, unV, fillL, oP, oA, oS, wantedA, BX, BL, BS, seval, *]; with_reducible exact rfl)))
      refine ⟨.inr rfl, _, rfl, ?_, hkH⟩
      simp only [resOf, rop, opd, celsL, oneV, aadd, binV, isSh, intBin, scEq, keq, unV, fillL, oP, oA, oS, wantedA, BX, BL, BS, seval]
end Go.Proofs.YtlipmjpapkfaeaaGreatDoor.Fn
end
section
set_option linter.unusedSimpArgs false
set_option linter.unusedVariables false
set_option maxRecDepth 100000
namespace Go.Proofs.YtlipmjpapkfaeaaGreatDoor.Fn
open Go Go.Mach Go.RowKit Go.Proofs Go.Proofs.YtlipmjpapkfaeaaGreatDoor.Orc
attribute [local irreducible] AOps WPX DOps thenS blockS AOp GOps CPick

theorem f40_ok (W : World) (h : AHeap) (s : ByteArray) (hs : s.size < 4611686018427387904) : ACalls Tryz.prog W 40 [.string s] h (fun r h' => r = .bool (validB s) ∧ h' = h) :=
  orc_ok W 40 [.string s] h (.bool (validB s)) h (by simp [orc, hs])

theorem blt_of {a b : Nat} (h : a < b) : Nat.blt a b = true := by rw [Nat.blt_eq]; exact h
theorem blt_not {a b : Nat} (h : ¬ a < b) : Nat.blt a b = false := by
  cases hb : Nat.blt a b with
  | false => rfl
  | true => rw [Nat.blt_eq] at hb; exact absurd hb h

set_option maxHeartbeats 4000000 in
theorem f19_ok (W : World) (h : AHeap) (v : Value) (A : Aut) (vf va : Value) (vs : List Value) (s : ByteArray) (hA : AutoV W h v A vf va vs) (hb : ∀ l ∈ A.arcs, l.length < 1073741824) (hs : s.size < 4611686018427387904) :
    ACalls Tryz.prog W 19 [v, .string s] h (fun r h' => r = .bool (runA A s) ∧ Keeps h h') := by
  have hA' := hA
  obtain ⟨rfl, hf, ha, hl, he⟩ := hA
  obtain ⟨fa, fc, hfs⟩ := hf.len
  obtain ⟨aa, ac, has⟩ := ha.len
  rw [List.length_map] at hfs has
  rw [hl] at has
  subst hfs has
  refine ACalls_ofX hmix c19 (Nat.le_of_ble_eq_true rfl) ?_
  unfold r19
  simp only [envOf2]
  have hk0 : Keeps h (h.new (.cells [.slice fa A.fin.length fc, .slice aa A.arcs.length ac])) := (Keeps.refl h).new _
  have hown0 : (h.new (.cells [.slice fa A.fin.length fc, .slice aa A.arcs.length ac])).own.get h.next = some (.cells [.slice fa A.fin.length fc, .slice aa A.arcs.length ac]) := by rw [AHeap.new_get, if_pos rfl]
  have hn0 : (h.new (.cells [.slice fa A.fin.length fc, .slice aa A.arcs.length ac])).next = h.next + 1 := AHeap.new_next _ _
  have h16 := f16_ok W (h.new (.cells [.slice fa A.fin.length fc, .slice aa A.arcs.length ac])) _ A _ _ vs (hA'.keeps hk0) hb
  have hb1 : aloadN W (h.new (.cells [.slice fa A.fin.length fc, .slice aa A.arcs.length ac])) ⟨h.next, 0, some 0⟩ 2 = some [.slice fa A.fin.length fc, .slice aa A.arcs.length ac] := by simp [aloadN, aload1, aadd, AHeap.new_get]
  repeat (first | (with_reducible first | apply x_seq | apply x_block | apply x_region | apply x_exit | apply x_ret | apply x_skip | apply t_normal | apply t_exit | apply t_ret | apply b_normal | apply b_ret | apply b_same | apply ops_nil | apply g_T | apply g_F | apply c_T | apply c_F) | (with_reducible refine b_other (by decide) ?_) | ((with_reducible apply x_draws); (with_reducible apply d_pure); (next => kernel_rfl)) | ((with_reducible first | apply ops_d | apply ops_g | apply x_c); (next => simp only [rop, opd, celsL, oneV, aadd, binV, isSh, intBin, scEq, keq, unV, fillL, oP, oA, oS, wantedA, BX, BL, BS, seval, *]; with_reducible exact rfl)))
  refine ops_callK (by simp only [rop, opd, celsL, oneV, aadd, binV, isSh, intBin, scEq, keq, unV, fillL, oP, oA, oS, wantedA, BX, BL, BS, seval, *]) (by simp only [List.map_cons, List.map_nil, rop, opd, celsL, oneV, aadd, binV, isSh, intBin, scEq, keq, unV, fillL, oP, oA, oS, wantedA, BX, BL, BS, seval, *]) h16 ?_
  rintro r1 h1 ⟨rfl, hk1⟩
  clear h16
  have hown1 : h1.own.get h.next = some (.cells [.slice fa A.fin.length fc, .slice aa A.arcs.length ac]) := by rw [hk1.same _ (by rw [hn0]; omega)]; exact hown0
  have hle1 : h.next < h1.next := by have := hk1.le; omega
  have hk01 : Keeps h h1 := hk0.trans hk1
  clear hown0 hn0 hk1 hk0
  by_cases hv0 : validate A = 0
  case neg =>
    have hv : runA A s = false := by simp [runA, hv0]
    repeat (first | (with_reducible first | apply x_seq | apply x_block | apply x_region | apply x_exit | apply x_ret | apply x_skip | apply t_normal | apply t_exit | apply t_ret | apply b_normal | apply b_ret | apply b_same | apply ops_nil | apply g_T | apply g_F | apply c_T | apply c_F) | (with_reducible refine b_other (by decide) ?_) | ((with_reducible apply x_draws); (with_reducible apply d_pure); (next => kernel_rfl)) | ((with_reducible first | apply ops_d | apply ops_g | apply x_c); (next => simp only [rop, opd, celsL, oneV, aadd, binV, isSh, intBin, scEq, keq, unV, fillL, oP, oA, oS, wantedA, BX, BL, BS, seval, *]; with_reducible exact rfl)))
    refine ⟨.inr rfl, _, rfl, ?_, hk01⟩
    simp only [resOf, rop, opd, celsL, oneV, aadd, binV, isSh, intBin, scEq, keq, unV, fillL, oP, oA, oS, wantedA, BX, BL, BS, seval, hv]
  obtain ⟨hn1, hn2, hn3', hn4⟩ := validate_zero hv0
  have hn3 : Hid (A.arcs.length = A.fin.length) := hn3'
  clear hn3'
  have hv0' : (!decide (validate A = 0)) = false := by simp [hv0]
  have h40 := f40_ok W h1 s hs
  have hrun : runA A s = (validB s && acceptA A s) := by simp [runA, hv0]
  clear hv0
  repeat (first | (with_reducible first | apply x_seq | apply x_block | apply x_region | apply x_exit | apply x_ret | apply x_skip | apply t_normal | apply t_exit | apply t_ret | apply b_normal | apply b_ret | apply b_same | apply ops_nil | apply g_T | apply g_F | apply c_T | apply c_F) | (with_reducible refine b_other (by decide) ?_) | ((with_reducible apply x_draws); (with_reducible apply d_pure); (next => kernel_rfl)) | ((with_reducible first | apply ops_d | apply ops_g | apply x_c); (next => simp only [rop, opd, celsL, oneV, aadd, binV, isSh, intBin, scEq, keq, unV, fillL, oP, oA, oS, wantedA, BX, BL, BS, seval, *]; with_reducible exact rfl)))
  refine ops_callK (by simp only [rop, opd, celsL, oneV, aadd, binV, isSh, intBin, scEq, keq, unV, fillL, oP, oA, oS, wantedA, BX, BL, BS, seval, *]) (by simp only [List.map_cons, List.map_nil, rop, opd, celsL, oneV, aadd, binV, isSh, intBin, scEq, keq, unV, fillL, oP, oA, oS, wantedA, BX, BL, BS, seval, *]) h40 ?_
  rintro r2 h2 ⟨rfl, rfl⟩
  clear h40
  cases hvs : validB s with
  | false =>
    rw [hvs, Bool.false_and] at hrun
    repeat (first | (with_reducible first | apply x_seq | apply x_block | apply x_region | apply x_exit | apply x_ret | apply x_skip | apply t_normal | apply t_exit | apply t_ret | apply b_normal | apply b_ret | apply b_same | apply ops_nil | apply g_T | apply g_F | apply c_T | apply c_F) | (with_reducible refine b_other (by decide) ?_) | ((with_reducible apply x_draws); (with_reducible apply d_pure); (next => kernel_rfl)) | ((with_reducible first | apply ops_d | apply ops_g | apply x_c); (next => simp only [rop, opd, celsL, oneV, aadd, binV, isSh, intBin, scEq, keq, unV, fillL, oP, oA, oS, wantedA, BX, BL, BS, seval, *]; with_reducible exact rfl)))
    refine ⟨.inr rfl, _, rfl, ?_, hk01⟩
    simp only [resOf, rop, opd, celsL, oneV, aadd, binV, isSh, intBin, scEq, keq, unV, fillL, oP, oA, oS, wantedA, BX, BL, BS, seval, hrun]
  | true =>
  rw [hvs, Bool.true_and] at hrun
  have hmem : ∀ (q : Nat) l, A.arcs[q]? = some l → chkFrom A.fin.length none l = none := fun q l hl => chkAll_each hn4 l (List.mem_of_getElem? hl)
  repeat (first | (with_reducible first | apply x_seq | apply x_block | apply x_region | apply x_exit | apply x_ret | apply x_skip | apply t_normal | apply t_exit | apply t_ret | apply b_normal | apply b_ret | apply b_same | apply ops_nil | apply g_T | apply g_F | apply c_T | apply c_F) | (with_reducible refine b_other (by decide) ?_) | ((with_reducible apply x_draws); (with_reducible apply d_pure); (next => kernel_rfl)) | ((with_reducible first | apply ops_d | apply ops_g | apply x_c); (next => simp only [rop, opd, celsL, oneV, aadd, binV, isSh, intBin, scEq, keq, unV, fillL, oP, oA, oS, wantedA, BX, BL, BS, seval, *]; with_reducible exact rfl)))
  refine WPX.loop hmix (fun k σ => ∃ pos q : Nat, k = s.size - pos ∧ eget σ.e 2 = .pointer (some ⟨h.next, 0, some 0⟩) ∧ eget σ.e 5 = .int .i64 (q : Nat) ∧ eget σ.e 17 = .pointer (some ⟨h2.next, 0, some 0⟩) ∧
    σ.h.own.get h2.next = some (.iter s pos) ∧ σ.h.own.get h.next = some (.cells [.slice fa A.fin.length fc, .slice aa A.arcs.length ac]) ∧ h2.next < σ.h.next ∧ Keeps h σ.h ∧ q < A.fin.length ∧ goA A q (rest s pos) = goA A 0 (rest s 0)) s.size ?h0 ?round
  case h0 =>
    refine ⟨0, 0, rfl, (by simp only [rop, opd, celsL, oneV, aadd, binV, isSh, intBin, scEq, keq, unV, fillL, oP, oA, oS, wantedA, BX, BL, BS, seval, *]), (by simp only [rop, opd, celsL, oneV, aadd, binV, isSh, intBin, scEq, keq, unV, fillL, oP, oA, oS, wantedA, BX, BL, BS, seval, *]), (by simp only [rop, opd, celsL, oneV, aadd, binV, isSh, intBin, scEq, keq, unV, fillL, oP, oA, oS, wantedA, BX, BL, BS, seval, *]), (by simp only [rop, opd, celsL, oneV, aadd, binV, isSh, intBin, scEq, keq, unV, fillL, oP, oA, oS, wantedA, BX, BL, BS, seval, *]), ?_, (by simp only [AHeap.new_next]; omega), hk01.new _, by omega, rfl⟩
    simp only [AHeap.new_get]
    rw [if_neg (by omega)]; exact hown1
  rintro k ⟨e, hh⟩ ⟨pos, q, rfl, e2, e5, e17, hit, hbx, hlt, hk, hq, hgo⟩
  dsimp only at e2 e5 e17 hit hbx hlt hk
  clear hown1
  by_cases hp : pos < s.size
  · have hblt := blt_of hp
    obtain ⟨⟨c, w⟩, hd⟩ : ∃ x, Utf8.decode s pos = x := ⟨_, rfl⟩
    have hw := width_pos s pos hp
    rw [hd] at hw
    dsimp only at hw
    rw [rest_cons hp hd] at hgo
    obtain ⟨l, hll⟩ : ∃ l, A.arcs[q]? = some l := ⟨_, List.getElem?_eq_getElem (show q < A.arcs.length by have := hn3.out; omega)⟩
    obtain ⟨x, hxs⟩ : ∃ x, vs[q]? = some x := ⟨_, List.getElem?_eq_getElem (show q < vs.length by have := hn3.out; omega)⟩
    have hkp : Keeps h (hh.put h2.next (.iter s (pos + w))) := hk.put (by omega) _
    have hxm : (vs.map fun x => [x])[q]? = some [x] := by simp [hxs]
    obtain ⟨a, ha1, _, ha3⟩ := (ha.keeps hkp).at hxm
    have hrd := (ha3 0 x rfl).1
    have haa : aadd a 0 = a := rfl
    rw [haa] at hrd
    have h41 := f41_ok W (hh.put h2.next (.iter s (pos + w))) x A.fin.length l c ((he q x l hxs hll).keeps hkp) (hb l (List.mem_of_getElem? hll)) (hmem q l hll)
    have hnr := nextA_range (hmem q l hll) c
    have hgd : A.arcs.getD q [] = l := by simp [List.getD, hll]
    have hne : h.next ≠ h2.next := by omega
    have hgo' : goA A (nextA l c) (rest s (pos + w)) = goA A 0 (rest s 0) := by
      rw [← hgo]
      conv => rhs; unfold goA
      rw [if_neg (by omega)]
      simp only [Int.toNat_natCast, hgd]
    clear hxm ha3 hgo hgd hll hxs
    repeat (first | (with_reducible first | apply x_seq | apply x_block | apply x_region | apply x_exit | apply x_ret | apply x_skip | apply t_normal | apply t_exit | apply t_ret | apply b_normal | apply b_ret | apply b_same | apply ops_nil | apply g_T | apply g_F | apply c_T | apply c_F) | (with_reducible refine b_other (by decide) ?_) | ((with_reducible apply x_draws); (with_reducible apply d_pure); (next => kernel_rfl)) | ((with_reducible first | apply ops_d | apply ops_g | apply x_c); (next => simp only [rop, opd, celsL, oneV, aadd, binV, isSh, intBin, scEq, keq, unV, fillL, oP, oA, oS, wantedA, BX, BL, BS, seval, *]; with_reducible exact rfl)))
    refine ops_callK (by simp only [rop, opd, celsL, oneV, aadd, binV, isSh, intBin, scEq, keq, unV, fillL, oP, oA, oS, wantedA, BX, BL, BS, seval, *]) (by simp only [List.map_cons, List.map_nil, rop, opd, celsL, oneV, aadd, binV, isSh, intBin, scEq, keq, unV, fillL, oP, oA, oS, wantedA, BX, BL, BS, seval, *]) h41 ?_
    rintro r3 h3 ⟨rfl, hk3⟩
    clear h41
    have hk03 : Keeps h h3 := hkp.trans hk3
    have hi3 : h3.own.get h2.next = some (.iter s (pos + w)) := by rw [hk3.same _ (by rw [AHeap.put_next]; exact hlt), AHeap.put_get, if_pos rfl]
    have hb3 : h3.own.get h.next = some (.cells [.slice fa A.fin.length fc, .slice aa A.arcs.length ac]) := by rw [hk3.same _ (by rw [AHeap.put_next]; omega), AHeap.put_get, if_neg (by omega)]; exact hbx
    have hl3 : h2.next < h3.next := by have := hk3.le; rw [AHeap.put_next] at this; omega
    rcases hnr with hnr | ⟨hnr0, hnr1⟩
    · have hv : runA A s = false := by
        rw [hrun]
        have : goA A 0 (rest s 0) < 0 := by rw [← hgo', hnr]; exact goA_dead A _ (by omega)
        simp [acceptA, show ¬ 0 ≤ goA A 0 (rest s 0) by omega]
      have hneg : nextA l c < 0 := by omega
      clear hnr hbx hit e2 e5 e17 hrun
      repeat (first | (with_reducible first | apply x_seq | apply x_block | apply x_region | apply x_exit | apply x_ret | apply x_skip | apply t_normal | apply t_exit | apply t_ret | apply b_normal | apply b_ret | apply b_same | apply ops_nil | apply g_T | apply g_F | apply c_T | apply c_F) | (with_reducible refine b_other (by decide) ?_) | ((with_reducible apply x_draws); (with_reducible apply d_pure); (next => kernel_rfl)) | ((with_reducible first | apply ops_d | apply ops_g | apply x_c); (next => simp only [rop, opd, celsL, oneV, aadd, binV, isSh, intBin, scEq, keq, unV, fillL, oP, oA, oS, wantedA, BX, BL, BS, seval, *]; with_reducible exact rfl)))
      refine ⟨.inr rfl, _, rfl, ?_, hk03⟩
      simp only [resOf, rop, opd, celsL, oneV, aadd, binV, isSh, intBin, scEq, keq, unV, fillL, oP, oA, oS, wantedA, BX, BL, BS, seval, hv]
    · have hneg : ¬ nextA l c < 0 := by omega
      obtain ⟨q', hq'⟩ : ∃ q' : Nat, nextA l c = (q' : Int) := ⟨(nextA l c).toNat, by omega⟩
      rw [hq'] at hgo' hnr0 hnr1 hneg
      have hq1 : q' < A.fin.length := by omega
      clear hbx hit e5 hnr0 hnr1 hrun hrd ha1
      repeat (first | (with_reducible first | apply x_seq | apply x_block | apply x_region | apply x_exit | apply x_ret | apply x_skip | apply t_normal | apply t_exit | apply t_ret | apply b_normal | apply b_ret | apply b_same | apply ops_nil | apply g_T | apply g_F | apply c_T | apply c_F) | (with_reducible refine b_other (by decide) ?_) | ((with_reducible apply x_draws); (with_reducible apply d_pure); (next => kernel_rfl)) | ((with_reducible first | apply ops_d | apply ops_g | apply x_c); (next => simp only [rop, opd, celsL, oneV, aadd, binV, isSh, intBin, scEq, keq, unV, fillL, oP, oA, oS, wantedA, BX, BL, BS, seval, *]; with_reducible exact rfl)))
      refine ⟨s.size - (pos + w), by omega, pos + w, q', rfl, ?_⟩
      (simp only [rop, opd, celsL, oneV, aadd, binV, isSh, intBin, scEq, keq, unV, fillL, oP, oA, oS, wantedA, BX, BL, BS, seval, and_self, *]) <;> trivial
  · have hblt := blt_not hp
    have hgo : (q : Int) = goA A 0 (rest s 0) := by rw [← hgo, rest_end hp]; rfl
    have hxm : (A.fin.map fun b => [Value.bool b])[q]? = some [.bool A.fin[q]] := by simp [hq]
    obtain ⟨a, ha1, _, ha3⟩ := (hf.keeps hk).at hxm
    have hrd := (ha3 0 (.bool A.fin[q]) rfl).1
    have haa : aadd a 0 = a := rfl
    rw [haa] at hrd
    have hv : runA A s = A.fin[q] := by
      rw [hrun]; unfold acceptA; rw [← hgo]; simp [hq]
    clear ha3 hxm hgo hrun
    repeat (first | (with_reducible first | apply x_seq | apply x_block | apply x_region | apply x_exit | apply x_ret | apply x_skip | apply t_normal | apply t_exit | apply t_ret | apply b_normal | apply b_ret | apply b_same | apply ops_nil | apply g_T | apply g_F | apply c_T | apply c_F) | (with_reducible refine b_other (by decide) ?_) | ((with_reducible apply x_draws); (with_reducible apply d_pure); (next => kernel_rfl)) | ((with_reducible first | apply ops_d | apply ops_g | apply x_c); (next => simp only [rop, opd, celsL, oneV, aadd, binV, isSh, intBin, scEq, keq, unV, fillL, oP, oA, oS, wantedA, BX, BL, BS, seval, *]; with_reducible exact rfl)))
    refine ⟨.inr rfl, _, rfl, ?_, hk⟩
    simp only [resOf, rop, opd, celsL, oneV, aadd, binV, isSh, intBin, scEq, keq, unV, fillL, oP, oA, oS, wantedA, BX, BL, BS, seval, hv]
end Go.Proofs.YtlipmjpapkfaeaaGreatDoor.Fn
end
