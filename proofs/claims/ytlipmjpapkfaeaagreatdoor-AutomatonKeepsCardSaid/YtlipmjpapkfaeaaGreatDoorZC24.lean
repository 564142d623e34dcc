/- corporaref20.Same (F23) in the machine, at one automaton in two places: true. No condition but sizes.
Merged from 4 texts. -/
import Derived.Test.YtlipmjpapkfaeaaGreatDoorZC23
import Derived.Test.YtlipmjpapkfaeaaGreatDoorZC13
import Derived.Test.YtlipmjpapkfaeaaGreatDoorZC9
import Derived.Test.YtlipmjpapkfaeaaGreatDoorZC11
import Derived.KernelRfl
import Derived.Test.YtlipmjpapkfaeaaGreatDoorZC8
section
set_option linter.unusedSimpArgs false
set_option linter.unusedVariables false
set_option maxRecDepth 100000
namespace Go.Proofs.YtlipmjpapkfaeaaGreatDoor.Fn
open Go Go.Mach Go.RowKit Go.Proofs
attribute [local irreducible] AOps WPX DOps thenS blockS AOp GOps CPick

set_option maxHeartbeats 8000000 in
theorem f23_ok (W : World) (h : AHeap) (A : Aut) (vf va vf' va' : Value) (vs vs' : List Value) (hA : AutoV W h (.agg #[vf, va]) A vf va vs) (hB : AutoV W h (.agg #[vf', va']) A vf' va' vs') (hn : A.fin.length < 1073741824) (hm : A.arcs.length < 1073741824) (hb : ∀ l ∈ A.arcs, l.length < 1073741824) :
    ACalls Tryz.prog W 23 [.agg #[vf, va], .agg #[vf', va']] h (fun r h' => r = .bool true ∧ Keeps h h') := by
  obtain ⟨_, hf, ha, hl, he⟩ := hA
  obtain ⟨_, hf', ha', hl', he'⟩ := hB
  obtain ⟨fa, fc, hfs⟩ := hf.len
  obtain ⟨aa, ac, has⟩ := ha.len
  obtain ⟨fa', fc', hfs'⟩ := hf'.len
  obtain ⟨aa', ac', has'⟩ := ha'.len
  rw [List.length_map] at hfs has hfs' has'
  rw [hl] at has
  rw [hl'] at has'
  subst hfs has hfs' has'
  refine ACalls_ofX hmix c23 (Nat.le_of_ble_eq_true rfl) ?_
  unfold r23
  simp only [envOf2]
  obtain ⟨H, hH⟩ : ∃ H, H = (h.new (.cells [.slice fa A.fin.length fc, .slice aa A.arcs.length ac])).new (.cells [.slice fa' A.fin.length fc', .slice aa' A.arcs.length ac']) := ⟨_, rfl⟩
  have hkH : Keeps h H := by rw [hH]; exact ((Keeps.refl h).new _).new _
  have hb1 : H.own.get h.next = some (.cells [.slice fa A.fin.length fc, .slice aa A.arcs.length ac]) := by rw [hH, AHeap.new_get, AHeap.new_next, if_neg (by omega), AHeap.new_get, if_pos rfl]
  have hb2 : H.own.get (h.next + 1) = some (.cells [.slice fa' A.fin.length fc', .slice aa' A.arcs.length ac']) := by rw [hH, AHeap.new_get, AHeap.new_next, if_pos rfl]
  have hse : ∀ a : Int, decide (a = a) = true := fun a => by simp
  have hse2 : ∀ a : Int, (a == a) = true := fun a => by simp
  have hkx : ∀ a b c : Int, keq (.agg [.i, .i, .i]) (.agg #[.int .i32 a, .int .i32 b, .int .i64 c]) (.agg #[.int .i32 a, .int .i32 b, .int .i64 c]) = some true := fun a b c => by simp [keq, scEqs, scEq]
  have hsq : ∀ a b c : Int, scEqs [.i, .i, .i] [.int .i32 a, .int .i32 b, .int .i64 c] [.int .i32 a, .int .i32 b, .int .i64 c] = some true := fun a b c => by simp [scEqs, scEq]
  have e1 : ¬ h.next = h.next + 1 := by omega
  rw [hH] at hb1 hb2
  repeat (first | (with_reducible first | apply x_seq | apply x_block | apply x_region | apply x_exit | apply x_ret | apply x_skip | apply t_normal | apply t_exit | apply t_ret | apply b_normal | apply b_ret | apply b_same | apply ops_nil | apply g_T | apply g_F | apply c_T | apply c_F) | (with_reducible refine b_other (by decide) ?_) | ((with_reducible apply x_draws); (with_reducible apply d_pure); (next => kernel_rfl)) | ((with_reducible first | apply ops_d | apply ops_g | apply x_c); (next => simp only [rop, opd, celsL, oneV, aadd, binV, isSh, intBin, scEq, keq, unV, fillL, oP, oA, oS, wantedA, BX, BL, BS, seval, *]; with_reducible exact rfl)))
  refine WPX.loop hmix (fun k σ => ∃ i, i ≤ A.fin.length ∧ k = A.fin.length - i ∧ eget σ.e 2 = .pointer (some ⟨h.next, 0, some 0⟩) ∧ eget σ.e 3 = .pointer (some ⟨h.next + 1, 0, some 0⟩) ∧ eget σ.e 26 = .int .i64 A.fin.length ∧ eget σ.e 27 = .int .i64 (i : Nat) ∧ σ.h = H) A.fin.length ?h0 ?round
  case h0 => exact ⟨0, Nat.zero_le _, rfl, (by simp only [rop, opd, celsL, oneV, aadd, binV, isSh, intBin, scEq, keq, unV, fillL, oP, oA, oS, wantedA, BX, BL, BS, seval, *]), (by simp only [rop, opd, celsL, oneV, aadd, binV, isSh, intBin, scEq, keq, unV, fillL, oP, oA, oS, wantedA, BX, BL, BS, seval, *]), (by simp only [rop, opd, celsL, oneV, aadd, binV, isSh, intBin, scEq, keq, unV, fillL, oP, oA, oS, wantedA, BX, BL, BS, seval, *]), (by simp only [rop, opd, celsL, oneV, aadd, binV, isSh, intBin, scEq, keq, unV, fillL, oP, oA, oS, wantedA, BX, BL, BS, seval, *]), hH.symm⟩
  rw [← hH] at hb1 hb2
  clear hH
  rintro k ⟨e, hh⟩ ⟨i, hi, rfl, q2, q3, q26, q27, rfl⟩
  dsimp only at q2 q3 q26 q27 hb1 hb2 hkH
  by_cases hlt : i < A.fin.length
  · have hltI : (i : Int) < A.fin.length := by omega
    have hw1 : IntKind.i64.wrap ((i : Int) + 1) = ((i + 1 : Nat) : Int) := wrap_i64 (by omega) (by omega)
    have hx : (A.fin.map fun b => [Value.bool b])[i]? = some [.bool A.fin[i]] := by simp [hlt]
    obtain ⟨d, hd1, _, hd3⟩ := (hf.keeps hkH).at hx
    have hr := (hd3 0 (.bool A.fin[i]) rfl).1
    have hdd : aadd d 0 = d := rfl
    rw [hdd] at hr
    obtain ⟨d', hd1', _, hd3'⟩ := (hf'.keeps hkH).at hx
    have hr' := (hd3' 0 (.bool A.fin[i]) rfl).1
    have hdd' : aadd d' 0 = d' := rfl
    rw [hdd'] at hr'
    clear hx hd3 hd3'
    repeat (first | (with_reducible first | apply x_seq | apply x_block | apply x_region | apply x_exit | apply x_ret | apply x_skip | apply t_normal | apply t_exit | apply t_ret | apply b_normal | apply b_ret | apply b_same | apply ops_nil | apply g_T | apply g_F | apply c_T | apply c_F) | (with_reducible refine b_other (by decide) ?_) | ((with_reducible apply x_draws); (with_reducible apply d_pure); (next => kernel_rfl)) | ((with_reducible first | apply ops_d | apply ops_g | apply x_c); (next => simp only [rop, opd, celsL, oneV, aadd, binV, isSh, intBin, scEq, keq, unV, fillL, oP, oA, oS, wantedA, BX, BL, BS, seval, *]; with_reducible exact rfl)))
    exact ⟨A.fin.length - (i + 1), by omega, i + 1, by omega, rfl, (by simp only [rop, opd, celsL, oneV, aadd, binV, isSh, intBin, scEq, keq, unV, fillL, oP, oA, oS, wantedA, BX, BL, BS, seval, *]), (by simp only [rop, opd, celsL, oneV, aadd, binV, isSh, intBin, scEq, keq, unV, fillL, oP, oA, oS, wantedA, BX, BL, BS, seval, *]), (by simp only [rop, opd, celsL, oneV, aadd, binV, isSh, intBin, scEq, keq, unV, fillL, oP, oA, oS, wantedA, BX, BL, BS, seval, *]), (by simp only [rop, opd, celsL, oneV, aadd, binV, isSh, intBin, scEq, keq, unV, fillL, oP, oA, oS, wantedA, BX, BL, BS, seval, *]), rfl⟩
  · have hltI : ¬ (i : Int) < A.fin.length := by omega
    repeat (first | (with_reducible first | apply x_seq | apply x_block | apply x_region | apply x_exit | apply x_ret | apply x_skip | apply t_normal | apply t_exit | apply t_ret | apply b_normal | apply b_ret | apply b_same | apply ops_nil | apply g_T | apply g_F | apply c_T | apply c_F) | (with_reducible refine b_other (by decide) ?_) | ((with_reducible apply x_draws); (with_reducible apply d_pure); (next => kernel_rfl)) | ((with_reducible first | apply ops_d | apply ops_g | apply x_c); (next => simp only [rop, opd, celsL, oneV, aadd, binV, isSh, intBin, scEq, keq, unV, fillL, oP, oA, oS, wantedA, BX, BL, BS, seval, *]; with_reducible exact rfl)))
    refine WPX.loop hmix (fun k σ => ∃ i, i ≤ A.arcs.length ∧ k = A.arcs.length - i ∧ eget σ.e 2 = .pointer (some ⟨h.next, 0, some 0⟩) ∧ eget σ.e 3 = .pointer (some ⟨h.next + 1, 0, some 0⟩) ∧ eget σ.e 44 = .int .i64 A.arcs.length ∧ eget σ.e 45 = .int .i64 (i : Nat) ∧ σ.h = hh) A.arcs.length ?h1 ?round1
    case h1 => exact ⟨0, Nat.zero_le _, rfl, (by simp only [rop, opd, celsL, oneV, aadd, binV, isSh, intBin, scEq, keq, unV, fillL, oP, oA, oS, wantedA, BX, BL, BS, seval, *]), (by simp only [rop, opd, celsL, oneV, aadd, binV, isSh, intBin, scEq, keq, unV, fillL, oP, oA, oS, wantedA, BX, BL, BS, seval, *]), (by simp only [rop, opd, celsL, oneV, aadd, binV, isSh, intBin, scEq, keq, unV, fillL, oP, oA, oS, wantedA, BX, BL, BS, seval, *]), (by simp only [rop, opd, celsL, oneV, aadd, binV, isSh, intBin, scEq, keq, unV, fillL, oP, oA, oS, wantedA, BX, BL, BS, seval, *]), rfl⟩
    clear q2 q3 q26 q27 hltI hlt hi
    rintro k ⟨e, hh2⟩ ⟨i, hi, rfl, q2, q3, q44, q45, rfl⟩
    dsimp only at q2 q3 q44 q45 hb1 hb2 hkH
    by_cases hlt : i < A.arcs.length
    · have hltI : (i : Int) < A.arcs.length := by omega
      have hw1 : IntKind.i64.wrap ((i : Int) + 1) = ((i + 1 : Nat) : Int) := wrap_i64 (by omega) (by omega)
      obtain ⟨l, hll⟩ : ∃ l, A.arcs[i]? = some l := ⟨_, List.getElem?_eq_getElem hlt⟩
      obtain ⟨x, hxs⟩ : ∃ x, vs[i]? = some x := ⟨_, List.getElem?_eq_getElem (show i < vs.length by omega)⟩
      obtain ⟨x', hxs'⟩ : ∃ x, vs'[i]? = some x := ⟨_, List.getElem?_eq_getElem (show i < vs'.length by omega)⟩
      have hx : (vs.map fun x => [x])[i]? = some [x] := by simp [hxs]
      have hx' : (vs'.map fun x => [x])[i]? = some [x'] := by simp [hxs']
      obtain ⟨d, hd1, _, hd3⟩ := (ha.keeps hkH).at hx
      have hr := (hd3 0 x rfl).1
      have hdd : aadd d 0 = d := rfl
      rw [hdd] at hr
      obtain ⟨d', hd1', _, hd3'⟩ := (ha'.keeps hkH).at hx'
      have hr' := (hd3' 0 x' rfl).1
      have hdd' : aadd d' 0 = d' := rfl
      rw [hdd'] at hr'
      have hs := (he i x l hxs hll).keeps hkH
      have hs' := (he' i x' l hxs' hll).keeps hkH
      have hbl := hb l (List.mem_of_getElem? hll)
      obtain ⟨la, lc, hls⟩ := hs.len
      obtain ⟨la', lc', hls'⟩ := hs'.len
      rw [List.length_map] at hls hls'
      subst hls hls'
      clear hx hx' hd3 hd3' hxs hxs' hll
      repeat (first | (with_reducible first | apply x_seq | apply x_block | apply x_region | apply x_exit | apply x_ret | apply x_skip | apply t_normal | apply t_exit | apply t_ret | apply b_normal | apply b_ret | apply b_same | apply ops_nil | apply g_T | apply g_F | apply c_T | apply c_F) | (with_reducible refine b_other (by decide) ?_) | ((with_reducible apply x_draws); (with_reducible apply d_pure); (next => kernel_rfl)) | ((with_reducible first | apply ops_d | apply ops_g | apply x_c); (next => simp only [rop, opd, celsL, oneV, aadd, binV, isSh, intBin, scEq, keq, unV, fillL, oP, oA, oS, wantedA, BX, BL, BS, seval, *]; with_reducible exact rfl)))
      refine WPX.loop hmix (fun k σ => ∃ j, j ≤ l.length ∧ k = l.length - j ∧ eget σ.e 2 = .pointer (some ⟨h.next, 0, some 0⟩) ∧ eget σ.e 3 = .pointer (some ⟨h.next + 1, 0, some 0⟩) ∧ eget σ.e 6 = .int .i64 (i : Nat) ∧ eget σ.e 44 = .int .i64 A.arcs.length ∧ eget σ.e 45 = .int .i64 (i : Nat) ∧
        eget σ.e 66 = .int .i64 l.length ∧ eget σ.e 67 = .int .i64 (j : Nat) ∧ σ.h = hh2) l.length ?h2 ?round2
      case h2 => exact ⟨0, Nat.zero_le _, rfl, (by simp only [rop, opd, celsL, oneV, aadd, binV, isSh, intBin, scEq, keq, unV, fillL, oP, oA, oS, wantedA, BX, BL, BS, seval, *]), (by simp only [rop, opd, celsL, oneV, aadd, binV, isSh, intBin, scEq, keq, unV, fillL, oP, oA, oS, wantedA, BX, BL, BS, seval, *]), (by simp only [rop, opd, celsL, oneV, aadd, binV, isSh, intBin, scEq, keq, unV, fillL, oP, oA, oS, wantedA, BX, BL, BS, seval, *]), (by simp only [rop, opd, celsL, oneV, aadd, binV, isSh, intBin, scEq, keq, unV, fillL, oP, oA, oS, wantedA, BX, BL, BS, seval, *]), (by simp only [rop, opd, celsL, oneV, aadd, binV, isSh, intBin, scEq, keq, unV, fillL, oP, oA, oS, wantedA, BX, BL, BS, seval, *]), (by simp only [rop, opd, celsL, oneV, aadd, binV, isSh, intBin, scEq, keq, unV, fillL, oP, oA, oS, wantedA, BX, BL, BS, seval, *]), (by simp only [rop, opd, celsL, oneV, aadd, binV, isSh, intBin, scEq, keq, unV, fillL, oP, oA, oS, wantedA, BX, BL, BS, seval, *]), rfl⟩
      clear q2 q3 q44 q45
      rintro k ⟨e, hh3⟩ ⟨j, hj, rfl, q2, q3, q6, q44, q45, q66, q67, rfl⟩
      dsimp only at q2 q3 q6 q44 q45 q66 q67 hb1 hb2 hkH hr hr' hs hs'
      by_cases hjl : j < l.length
      · have hjlI : (j : Int) < l.length := by omega
        have hw2 : IntKind.i64.wrap ((j : Int) + 1) = ((j + 1 : Nat) : Int) := wrap_i64 (by omega) (by omega)
        obtain ⟨⟨f, t, s⟩, hx⟩ : ∃ x, l[j]? = some x := ⟨_, List.getElem?_eq_getElem hjl⟩
        have hxj : (l.map arcV)[j]? = some (arcV (f, t, s)) := by simp [hx]
        obtain ⟨b, hbb1, _, hbb3⟩ := hs.at hxj
        have hld := aloadN_of _ _ hbb3
        obtain ⟨b', hbb1', _, hbb3'⟩ := hs'.at hxj
        have hld' := aloadN_of _ _ hbb3'
        simp only [arcV, List.length_cons, List.length_nil, Nat.reduceAdd] at hld hld'
        clear hbb3 hbb3' hxj hx
        repeat (first | (with_reducible first | apply x_seq | apply x_block | apply x_region | apply x_exit | apply x_ret | apply x_skip | apply t_normal | apply t_exit | apply t_ret | apply b_normal | apply b_ret | apply b_same | apply ops_nil | apply g_T | apply g_F | apply c_T | apply c_F) | (with_reducible refine b_other (by decide) ?_) | ((with_reducible apply x_draws); (with_reducible apply d_pure); (next => kernel_rfl)) | ((with_reducible first | apply ops_d | apply ops_g | apply x_c); (next => simp only [rop, opd, celsL, oneV, aadd, binV, isSh, intBin, scEq, keq, unV, fillL, oP, oA, oS, wantedA, BX, BL, BS, seval, *]; with_reducible exact rfl)))
        exact ⟨l.length - (j + 1), by omega, j + 1, by omega, rfl, (by simp only [rop, opd, celsL, oneV, aadd, binV, isSh, intBin, scEq, keq, unV, fillL, oP, oA, oS, wantedA, BX, BL, BS, seval, *]), (by simp only [rop, opd, celsL, oneV, aadd, binV, isSh, intBin, scEq, keq, unV, fillL, oP, oA, oS, wantedA, BX, BL, BS, seval, *]), (by simp only [rop, opd, celsL, oneV, aadd, binV, isSh, intBin, scEq, keq, unV, fillL, oP, oA, oS, wantedA, BX, BL, BS, seval, *]), (by simp only [rop, opd, celsL, oneV, aadd, binV, isSh, intBin, scEq, keq, unV, fillL, oP, oA, oS, wantedA, BX, BL, BS, seval, *]), (by simp only [rop, opd, celsL, oneV, aadd, binV, isSh, intBin, scEq, keq, unV, fillL, oP, oA, oS, wantedA, BX, BL, BS, seval, *]), (by simp only [rop, opd, celsL, oneV, aadd, binV, isSh, intBin, scEq, keq, unV, fillL, oP, oA, oS, wantedA, BX, BL, BS, seval, *]), (by simp only [rop, opd, celsL, oneV, aadd, binV, isSh, intBin, scEq, keq, unV, fillL, oP, oA, oS, wantedA, BX, BL, BS, seval, *]), rfl⟩
      · have hjlI : ¬ (j : Int) < l.length := by omega
        repeat (first | (with_reducible first | apply x_seq | apply x_block | apply x_region | apply x_exit | apply x_ret | apply x_skip | apply t_normal | apply t_exit | apply t_ret | apply b_normal | apply b_ret | apply b_same | apply ops_nil | apply g_T | apply g_F | apply c_T | apply c_F) | (with_reducible refine b_other (by decide) ?_) | ((with_reducible apply x_draws); (with_reducible apply d_pure); (next => kernel_rfl)) | ((with_reducible first | apply ops_d | apply ops_g | apply x_c); (next => simp only [rop, opd, celsL, oneV, aadd, binV, isSh, intBin, scEq, keq, unV, fillL, oP, oA, oS, wantedA, BX, BL, BS, seval, *]; with_reducible exact rfl)))
        exact ⟨A.arcs.length - (i + 1), by omega, i + 1, by omega, rfl, (by simp only [rop, opd, celsL, oneV, aadd, binV, isSh, intBin, scEq, keq, unV, fillL, oP, oA, oS, wantedA, BX, BL, BS, seval, *]), (by simp only [rop, opd, celsL, oneV, aadd, binV, isSh, intBin, scEq, keq, unV, fillL, oP, oA, oS, wantedA, BX, BL, BS, seval, *]), (by simp only [rop, opd, celsL, oneV, aadd, binV, isSh, intBin, scEq, keq, unV, fillL, oP, oA, oS, wantedA, BX, BL, BS, seval, *]), (by simp only [rop, opd, celsL, oneV, aadd, binV, isSh, intBin, scEq, keq, unV, fillL, oP, oA, oS, wantedA, BX, BL, BS, seval, *]), rfl⟩
    · have hltI : ¬ (i : Int) < A.arcs.length := by omega
      repeat (first | (with_reducible first | apply x_seq | apply x_block | apply x_region | apply x_exit | apply x_ret | apply x_skip | apply t_normal | apply t_exit | apply t_ret | apply b_normal | apply b_ret | apply b_same | apply ops_nil | apply g_T | apply g_F | apply c_T | apply c_F) | (with_reducible refine b_other (by decide) ?_) | ((with_reducible apply x_draws); (with_reducible apply d_pure); (next => kernel_rfl)) | ((with_reducible first | apply ops_d | apply ops_g | apply x_c); (next => simp only [rop, opd, celsL, oneV, aadd, binV, isSh, intBin, scEq, keq, unV, fillL, oP, oA, oS, wantedA, BX, BL, BS, seval, *]; with_reducible exact rfl)))
      refine ⟨.inr rfl, _, rfl, ?_, hkH⟩
      simp only [resOf, rop, opd, celsL, oneV, aadd, binV, isSh, intBin, scEq, keq, unV, fillL, oP, oA, oS, wantedA, BX, BL, BS, seval]
end Go.Proofs.YtlipmjpapkfaeaaGreatDoor.Fn
end
section
set_option linter.unusedSimpArgs false
set_option linter.unusedVariables false
set_option maxRecDepth 100000
namespace Go.Proofs.YtlipmjpapkfaeaaGreatDoor.Fn
open Go Go.Mach Go.RowKit Go.Proofs Go.Proofs.YtlipmjpapkfaeaaGreatDoor.Orc
attribute [local irreducible] AOps WPX DOps thenS blockS AOp GOps CPick

theorem f40_ok (W : World) (h : AHeap) (s : ByteArray) (hs : s.size < 4611686018427387904) : ACalls Tryz.prog W 40 [.string s] h (fun r h' => r = .bool (validB s) ∧ h' = h) :=
  orc_ok W 40 [.string s] h (.bool (validB s)) h (by simp [orc, hs])

theorem blt_of {a b : Nat} (h : a < b) : Nat.blt a b = true := by rw [Nat.blt_eq]; exact h
theorem blt_not {a b : Nat} (h : ¬ a < b) : Nat.blt a b = false := by
  cases hb : Nat.blt a b with
  | false => rfl
  | true => rw [Nat.blt_eq] at hb; exact absurd hb h

set_option maxHeartbeats 4000000 in
theorem f19_ok (W : World) (h : AHeap) (v : Value) (A : Aut) (vf va : Value) (vs : List Value) (s : ByteArray) (hA : AutoV W h v A vf va vs) (hb : ∀ l ∈ A.arcs, l.length < 1073741824) (hs : s.size < 4611686018427387904) :
    ACalls Tryz.prog W 19 [v, .string s] h (fun r h' => r = .bool (runA A s) ∧ Keeps h h') := by
  have hA' := hA
  obtain ⟨rfl, hf, ha, hl, he⟩ := hA
  obtain ⟨fa, fc, hfs⟩ := hf.len
  obtain ⟨aa, ac, has⟩ := ha.len
  rw [List.length_map] at hfs has
  rw [hl] at has
  subst hfs has
  refine ACalls_ofX hmix c19 (Nat.le_of_ble_eq_true rfl) ?_
  unfold r19
  simp only [envOf2]
  have hk0 : Keeps h (h.new (.cells [.slice fa A.fin.length fc, .slice aa A.arcs.length ac])) := (Keeps.refl h).new _
  have hown0 : (h.new (.cells [.slice fa A.fin.length fc, .slice aa A.arcs.length ac])).own.get h.next = some (.cells [.slice fa A.fin.length fc, .slice aa A.arcs.length ac]) := by rw [AHeap.new_get, if_pos rfl]
  have hn0 : (h.new (.cells [.slice fa A.fin.length fc, .slice aa A.arcs.length ac])).next = h.next + 1 := AHeap.new_next _ _
  have h16 := f16_ok W (h.new (.cells [.slice fa A.fin.length fc, .slice aa A.arcs.length ac])) _ A _ _ vs (hA'.keeps hk0) hb
  have hb1 : aloadN W (h.new (.cells [.slice fa A.fin.length fc, .slice aa A.arcs.length ac])) ⟨h.next, 0, some 0⟩ 2 = some [.slice fa A.fin.length fc, .slice aa A.arcs.length ac] := by simp [aloadN, aload1, aadd, AHeap.new_get]
  repeat (first | (with_reducible first | apply x_seq | apply x_block | apply x_region | apply x_exit | apply x_ret | apply x_skip | apply t_normal | apply t_exit | apply t_ret | apply b_normal | apply b_ret | apply b_same | apply ops_nil | apply g_T | apply g_F | apply c_T | apply c_F) | (with_reducible refine b_other (by decide) ?_) | ((with_reducible apply x_draws); (with_reducible apply d_pure); (next => kernel_rfl)) | ((with_reducible first | apply ops_d | apply ops_g | apply x_c); (next => simp only [rop, opd, celsL, oneV, aadd, binV, isSh, intBin, scEq, keq, unV, fillL, oP, oA, oS, wantedA, BX, BL, BS, seval, *]; with_reducible exact rfl)))
  refine ops_callK (by simp only [rop, opd, celsL, oneV, aadd, binV, isSh, intBin, scEq, keq, unV, fillL, oP, oA, oS, wantedA, BX, BL, BS, seval, *]) (by simp only [List.map_cons, List.map_nil, rop, opd, celsL, oneV, aadd, binV, isSh, intBin, scEq, keq, unV, fillL, oP, oA, oS, wantedA, BX, BL, BS, seval, *]) h16 ?_
  rintro r1 h1 ⟨rfl, hk1⟩
  clear h16
  have hown1 : h1.own.get h.next = some (.cells [.slice fa A.fin.length fc, .slice aa A.arcs.length ac]) := by rw [hk1.same _ (by rw [hn0]; omega)]; exact hown0
  have hle1 : h.next < h1.next := by have := hk1.le; omega
  have hk01 : Keeps h h1 := hk0.trans hk1
  clear hown0 hn0 hk1 hk0
  by_cases hv0 : validate A = 0
  case neg =>
    have hv : runA A s = false := by simp [runA, hv0]
    repeat (first | (with_reducible first | apply x_seq | apply x_block | apply x_region | apply x_exit | apply x_ret | apply x_skip | apply t_normal | apply t_exit | apply t_ret | apply b_normal | apply b_ret | apply b_same | apply ops_nil | apply g_T | apply g_F | apply c_T | apply c_F) | (with_reducible refine b_other (by decide) ?_) | ((with_reducible apply x_draws); (with_reducible apply d_pure); (next => kernel_rfl)) | ((with_reducible first | apply ops_d | apply ops_g | apply x_c); (next => simp only [rop, opd, celsL, oneV, aadd, binV, isSh, intBin, scEq, keq, unV, fillL, oP, oA, oS, wantedA, BX, BL, BS, seval, *]; with_reducible exact rfl)))
    refine ⟨.inr rfl, _, rfl, ?_, hk01⟩
    simp only [resOf, rop, opd, celsL, oneV, aadd, binV, isSh, intBin, scEq, keq, unV, fillL, oP, oA, oS, wantedA, BX, BL, BS, seval, hv]
  obtain ⟨hn1, hn2, hn3', hn4⟩ := validate_zero hv0
  have hn3 : Hid (A.arcs.length = A.fin.length) := hn3'
  clear hn3'
  have hv0' : (!decide (validate A = 0)) = false := by simp [hv0]
  have h40 := f40_ok W h1 s hs
  have hrun : runA A s = (validB s && acceptA A s) := by simp [runA, hv0]
  clear hv0
  repeat (first | (with_reducible first | apply x_seq | apply x_block | apply x_region | apply x_exit | apply x_ret | apply x_skip | apply t_normal | apply t_exit | apply t_ret | apply b_normal | apply b_ret | apply b_same | apply ops_nil | apply g_T | apply g_F | apply c_T | apply c_F) | (with_reducible refine b_other (by decide) ?_) | ((with_reducible apply x_draws); (with_reducible apply d_pure); (next => kernel_rfl)) | ((with_reducible first | apply ops_d | apply ops_g | apply x_c); (next => simp only [rop, opd, celsL, oneV, aadd, binV, isSh, intBin, scEq, keq, unV, fillL, oP, oA, oS, wantedA, BX, BL, BS, seval, *]; with_reducible exact rfl)))
  refine ops_callK (by simp only [rop, opd, celsL, oneV, aadd, binV, isSh, intBin, scEq, keq, unV, fillL, oP, oA, oS, wantedA, BX, BL, BS, seval, *]) (by simp only [List.map_cons, List.map_nil, rop, opd, celsL, oneV, aadd, binV, isSh, intBin, scEq, keq, unV, fillL, oP, oA, oS, wantedA, BX, BL, BS, seval, *]) h40 ?_
  rintro r2 h2 ⟨rfl, rfl⟩
  clear h40
  cases hvs : validB s with
  | false =>
    rw [hvs, Bool.false_and] at hrun
    repeat (first | (with_reducible first | apply x_seq | apply x_block | apply x_region | apply x_exit | apply x_ret | apply x_skip | apply t_normal | apply t_exit | apply t_ret | apply b_normal | apply b_ret | apply b_same | apply ops_nil | apply g_T | apply g_F | apply c_T | apply c_F) | (with_reducible refine b_other (by decide) ?_) | ((with_reducible apply x_draws); (with_reducible apply d_pure); (next => kernel_rfl)) | ((with_reducible first | apply ops_d | apply ops_g | apply x_c); (next => simp only [rop, opd, celsL, oneV, aadd, binV, isSh, intBin, scEq, keq, unV, fillL, oP, oA, oS, wantedA, BX, BL, BS, seval, *]; with_reducible exact rfl)))
    refine ⟨.inr rfl, _, rfl, ?_, hk01⟩
    simp only [resOf, rop, opd, celsL, oneV, aadd, binV, isSh, intBin, scEq, keq, unV, fillL, oP, oA, oS, wantedA, BX, BL, BS, seval, hrun]
  | true =>
  rw [hvs, Bool.true_and] at hrun
  have hmem : ∀ (q : Nat) l, A.arcs[q]? = some l → chkFrom A.fin.length none l = none := fun q l hl => chkAll_each hn4 l (List.mem_of_getElem? hl)
  repeat (first | (with_reducible first | apply x_seq | apply x_block | apply x_region | apply x_exit | apply x_ret | apply x_skip | apply t_normal | apply t_exit | apply t_ret | apply b_normal | apply b_ret | apply b_same | apply ops_nil | apply g_T | apply g_F | apply c_T | apply c_F) | (with_reducible refine b_other (by decide) ?_) | ((with_reducible apply x_draws); (with_reducible apply d_pure); (next => kernel_rfl)) | ((with_reducible first | apply ops_d | apply ops_g | apply x_c); (next => simp only [rop, opd, celsL, oneV, aadd, binV, isSh, intBin, scEq, keq, unV, fillL, oP, oA, oS, wantedA, BX, BL, BS, seval, *]; with_reducible exact rfl)))
  refine WPX.loop hmix (fun k σ => ∃ pos q : Nat, k = s.size - pos ∧ eget σ.e 2 = .pointer (some ⟨h.next, 0, some 0⟩) ∧ eget σ.e 5 = .int .i64 (q : Nat) ∧ eget σ.e 17 = .pointer (some ⟨h2.next, 0, some 0⟩) ∧
    σ.h.own.get h2.next = some (.iter s pos) ∧ σ.h.own.get h.next = some (.cells [.slice fa A.fin.length fc, .slice aa A.arcs.length ac]) ∧ h2.next < σ.h.next ∧ Keeps h σ.h ∧ q < A.fin.length ∧ goA A q (rest s pos) = goA A 0 (rest s 0)) s.size ?h0 ?round
  case h0 =>
    refine ⟨0, 0, rfl, (by simp only [rop, opd, celsL, oneV, aadd, binV, isSh, intBin, scEq, keq, unV, fillL, oP, oA, oS, wantedA, BX, BL, BS, seval, *]), (by simp only [rop, opd, celsL, oneV, aadd, binV, isSh, intBin, scEq, keq, unV, fillL, oP, oA, oS, wantedA, BX, BL, BS, seval, *]), (by simp only [rop, opd, celsL, oneV, aadd, binV, isSh, intBin, scEq, keq, unV, fillL, oP, oA, oS, wantedA, BX, BL, BS, seval, *]), (by simp only [rop, opd, celsL, oneV, aadd, binV, isSh, intBin, scEq, keq, unV, fillL, oP, oA, oS, wantedA, BX, BL, BS, seval, *]), ?_, (by simp only [AHeap.new_next]; omega), hk01.new _, by omega, rfl⟩
    simp only [AHeap.new_get]
    rw [if_neg (by omega)]; exact hown1
  rintro k ⟨e, hh⟩ ⟨pos, q, rfl, e2, e5, e17, hit, hbx, hlt, hk, hq, hgo⟩
  dsimp only at e2 e5 e17 hit hbx hlt hk
  clear hown1
  by_cases hp : pos < s.size
  · have hblt := blt_of hp
    obtain ⟨⟨c, w⟩, hd⟩ : ∃ x, Utf8.decode s pos = x := ⟨_, rfl⟩
    have hw := width_pos s pos hp
    rw [hd] at hw
    dsimp only at hw
    rw [rest_cons hp hd] at hgo
    obtain ⟨l, hll⟩ : ∃ l, A.arcs[q]? = some l := ⟨_, List.getElem?_eq_getElem (show q < A.arcs.length by have := hn3.out; omega)⟩
    obtain ⟨x, hxs⟩ : ∃ x, vs[q]? = some x := ⟨_, List.getElem?_eq_getElem (show q < vs.length by have := hn3.out; omega)⟩
    have hkp : Keeps h (hh.put h2.next (.iter s (pos + w))) := hk.put (by omega) _
    have hxm : (vs.map fun x => [x])[q]? = some [x] := by simp [hxs]
    obtain ⟨a, ha1, _, ha3⟩ := (ha.keeps hkp).at hxm
    have hrd := (ha3 0 x rfl).1
    have haa : aadd a 0 = a := rfl
    rw [haa] at hrd
    have h41 := f41_ok W (hh.put h2.next (.iter s (pos + w))) x A.fin.length l c ((he q x l hxs hll).keeps hkp) (hb l (List.mem_of_getElem? hll)) (hmem q l hll)
    have hnr := nextA_range (hmem q l hll) c
    have hgd : A.arcs.getD q [] = l := by simp [List.getD, hll]
    have hne : h.next ≠ h2.next := by omega
    have hgo' : goA A (nextA l c) (rest s (pos + w)) = goA A 0 (rest s 0) := by
      rw [← hgo]
      conv => rhs; unfold goA
      rw [if_neg (by omega)]
      simp only [Int.toNat_natCast, hgd]
    clear hxm ha3 hgo hgd hll hxs
    repeat (first | (with_reducible first | apply x_seq | apply x_block | apply x_region | apply x_exit | apply x_ret | apply x_skip | apply t_normal | apply t_exit | apply t_ret | apply b_normal | apply b_ret | apply b_same | apply ops_nil | apply g_T | apply g_F | apply c_T | apply c_F) | (with_reducible refine b_other (by decide) ?_) | ((with_reducible apply x_draws); (with_reducible apply d_pure); (next => kernel_rfl)) | ((with_reducible first | apply ops_d | apply ops_g | apply x_c); (next => simp only [rop, opd, celsL, oneV, aadd, binV, isSh, intBin, scEq, keq, unV, fillL, oP, oA, oS, wantedA, BX, BL, BS, seval, *]; with_reducible exact rfl)))
    refine ops_callK (by simp only [rop, opd, celsL, oneV, aadd, binV, isSh, intBin, scEq, keq, unV, fillL, oP, oA, oS, wantedA, BX, BL, BS, seval, *]) (by simp only [List.map_cons, List.map_nil, rop, opd, celsL, oneV, aadd, binV, isSh, intBin, scEq, keq, unV, fillL, oP, oA, oS, wantedA, BX, BL, BS, seval, *]) h41 ?_
    rintro r3 h3 ⟨rfl, hk3⟩
    clear h41
    have hk03 : Keeps h h3 := hkp.trans hk3
    have hi3 : h3.own.get h2.next = some (.iter s (pos + w)) := by rw [hk3.same _ (by rw [AHeap.put_next]; exact hlt), AHeap.put_get, if_pos rfl]
    have hb3 : h3.own.get h.next = some (.cells [.slice fa A.fin.length fc, .slice aa A.arcs.length ac]) := by rw [hk3.same _ (by rw [AHeap.put_next]; omega), AHeap.put_get, if_neg (by omega)]; exact hbx
    have hl3 : h2.next < h3.next := by have := hk3.le; rw [AHeap.put_next] at this; omega
    rcases hnr with hnr | ⟨hnr0, hnr1⟩
    · have hv : runA A s = false := by
        rw [hrun]
        have : goA A 0 (rest s 0) < 0 := by rw [← hgo', hnr]; exact goA_dead A _ (by omega)
        simp [acceptA, show ¬ 0 ≤ goA A 0 (rest s 0) by omega]
      have hneg : nextA l c < 0 := by omega
      clear hnr hbx hit e2 e5 e17 hrun
      repeat (first | (with_reducible first | apply x_seq | apply x_block | apply x_region | apply x_exit | apply x_ret | apply x_skip | apply t_normal | apply t_exit | apply t_ret | apply b_normal | apply b_ret | apply b_same | apply ops_nil | apply g_T | apply g_F | apply c_T | apply c_F) | (with_reducible refine b_other (by decide) ?_) | ((with_reducible apply x_draws); (with_reducible apply d_pure); (next => kernel_rfl)) | ((with_reducible first | apply ops_d | apply ops_g | apply x_c); (next => simp only [rop, opd, celsL, oneV, aadd, binV, isSh, intBin, scEq, keq, unV, fillL, oP, oA, oS, wantedA, BX, BL, BS, seval, *]; with_reducible exact rfl)))
      refine ⟨.inr rfl, _, rfl, ?_, hk03⟩
      simp only [resOf, rop, opd, celsL, oneV, aadd, binV, isSh, intBin, scEq, keq, unV, fillL, oP, oA, oS, wantedA, BX, BL, BS, seval, hv]
    · have hneg : ¬ nextA l c < 0 := by omega
      obtain ⟨q', hq'⟩ : ∃ q' : Nat, nextA l c = (q' : Int) := ⟨(nextA l c).toNat, by omega⟩
      rw [hq'] at hgo' hnr0 hnr1 hneg
      have hq1 : q' < A.fin.length := by omega
      clear hbx hit e5 hnr0 hnr1 hrun hrd ha1
      repeat (first | (with_reducible first | apply x_seq | apply x_block | apply x_region | apply x_exit | apply x_ret | apply x_skip | apply t_normal | apply t_exit | apply t_ret | apply b_normal | apply b_ret | apply b_same | apply ops_nil | apply g_T | apply g_F | apply c_T | apply c_F) | (with_reducible refine b_other (by decide) ?_) | ((with_reducible apply x_draws); (with_reducible apply d_pure); (next => kernel_rfl)) | ((with_reducible first | apply ops_d | apply ops_g | apply x_c); (next => simp only [rop, opd, celsL, oneV, aadd, binV, isSh, intBin, scEq, keq, unV, fillL, oP, oA, oS, wantedA, BX, BL, BS, seval, *]; with_reducible exact rfl)))
      refine ⟨s.size - (pos + w), by omega, pos + w, q', rfl, ?_⟩
      (simp only [rop, opd, celsL, oneV, aadd, binV, isSh, intBin, scEq, keq, unV, fillL, oP, oA, oS, wantedA, BX, BL, BS, seval, and_self, *]) <;> trivial
  · have hblt := blt_not hp
    have hgo : (q : Int) = goA A 0 (rest s 0) := by rw [← hgo, rest_end hp]; rfl
    have hxm : (A.fin.map fun b => [Value.bool b])[q]? = some [.bool A.fin[q]] := by simp [hq]
    obtain ⟨a, ha1, _, ha3⟩ := (hf.keeps hk).at hxm
    have hrd := (ha3 0 (.bool A.fin[q]) rfl).1
    have haa : aadd a 0 = a := rfl
    rw [haa] at hrd
    have hv : runA A s = A.fin[q] := by
      rw [hrun]; unfold acceptA; rw [← hgo]; simp [hq]
    clear ha3 hxm hgo hrun
    repeat (first | (with_reducible first | apply x_seq | apply x_block | apply x_region | apply x_exit | apply x_ret | apply x_skip | apply t_normal | apply t_exit | apply t_ret | apply b_normal | apply b_ret | apply b_same | apply ops_nil | apply g_T | apply g_F | apply c_T | apply c_F) | (with_reducible refine b_other (by decide) ?_) | ((with_reducible apply x_draws); (with_reducible apply d_pure); (next => kernel_rfl)) | ((with_reducible first | apply ops_d | apply ops_g | apply x_c); (next => simp only [rop, opd, celsL, oneV, aadd, binV, isSh, intBin, scEq, keq, unV, fillL, oP, oA, oS, wantedA, BX, BL, BS, seval, *]; with_reducible exact rfl)))
    refine ⟨.inr rfl, _, rfl, ?_, hk⟩
    simp only [resOf, rop, opd, celsL, oneV, aadd, binV, isSh, intBin, scEq, keq, unV, fillL, oP, oA, oS, wantedA, BX, BL, BS, seval, hv]
end Go.Proofs.YtlipmjpapkfaeaaGreatDoor.Fn
end
section
set_option maxRecDepth 100000
namespace Go.Proofs.YtlipmjpapkfaeaaGreatDoor.Fn
open Go Go.Mach
def r3 : RFunc := ⟨14, (.seq (.region [⟨(some 1), .box (.tmp 0), none⟩, ⟨(some 2), .mov (.const (.bool false)), none⟩]) (.seq (.seq (.region [⟨(some 3), .loadN (.tmp 1) 2, none⟩, ⟨(some 4), .buildSl [(.slice none 0 0), (.slice none 0 0)] [(0, 2, (.tmp 3))] 1 2, none⟩, ⟨(some 5), .call (.func 15) [(.const (.int .i64 300)), (.tmp 4)], none⟩]) (.cond (.tmp 5) (.seq (.region [⟨(some 2), .mov (.const (.bool true)), none⟩]) .ret) .skip)) (.seq (.draws [⟨[⟨(some 6), .loadN (.tmp 1) 2, none⟩, ⟨(some 8), .loadN (.tmp 1) 2, none⟩], [⟨(some 6), .loadN (.tmp 1) 2, none⟩, ⟨(some 8), .loadN (.tmp 1) 2, none⟩], (some ⟨(some 7), .call (.func 16) [(.tmp 6)], none⟩)⟩, ⟨[], [⟨(some 8), .loadN (.tmp 1) 2, none⟩], (some ⟨(some 9), .call (.func 17) [(.tmp 8)], none⟩)⟩, ⟨[⟨(some 10), .bin .eql (.sc .i) (.tmp 7) (.tmp 9), none⟩, ⟨(some 11), .mov (.tmp 10), none⟩], [⟨(some 10), .bin .eql (.sc .i) (.tmp 7) (.tmp 9), none⟩, ⟨(some 11), .mov (.tmp 10), none⟩], (some ⟨(some 12), .call (.func 18) [], (some (11, true))⟩)⟩, ⟨[⟨(some 13), .pick (.tmp 11) (.tmp 12) (.const (.bool false)), none⟩, ⟨(some 2), .mov (.tmp 13), none⟩], [⟨(some 13), .pick (.tmp 11) (.tmp 12) (.const (.bool false)), none⟩, ⟨(some 2), .mov (.tmp 13), none⟩], none⟩]) .ret))), [.tmp 2]⟩
theorem c3 : compFn Tryz.prog 3 = some r3 := by kernel_rfl
def r15 : RFunc := ⟨40, (.seq (.region [⟨(some 4), .mov (.const (.bool false)), none⟩]) (.seq (.seq (.region [⟨(some 9), .mov (.tmp 1), none⟩, ⟨(some 10), .lenSl (.tmp 9), none⟩, ⟨(some 11), .mov (.const (.int .i64 0)), none⟩]) (.block 0 (.loop (.seq (.region [⟨(some 12), .bin .lss (.sc .i) (.tmp 11) (.tmp 10), none⟩]) (.seq (.cond (.tmp 12) .skip (.exit 0)) (.seq (.block 1 (.seq (.region [⟨(some 13), .idxA 2 (.tmp 9) (.tmp 11), none⟩, ⟨(some 14), .loadN (.tmp 13) 2, none⟩, ⟨(some 6), .newv [(.slice none 0 0), (.slice none 0 0)], none⟩, ⟨none, .store (.tmp 6) (.tmp 14) 2, none⟩]) (.seq (.seq (.region [⟨(some 15), .addOff (.tmp 6) 0, none⟩, ⟨(some 16), .load1 (.tmp 15), none⟩, ⟨(some 17), .lenSl (.tmp 16), none⟩, ⟨(some 18), .mov (.tmp 0), none⟩, ⟨(some 19), .bin .gtr (.sc .i) (.tmp 17) (.tmp 18), none⟩, ⟨(some 20), .mov (.tmp 19), none⟩, ⟨(some 21), .addOff (.tmp 6) 1, (some (20, false))⟩, ⟨(some 22), .load1 (.tmp 21), (some (20, false))⟩, ⟨(some 23), .lenSl (.tmp 22), (some (20, false))⟩, ⟨(some 24), .mov (.tmp 0), (some (20, false))⟩, ⟨(some 25), .bin .add (.sc .i) (.tmp 24) (.const (.int .i64 1)), (some (20, false))⟩, ⟨(some 26), .bin .gtr (.sc .i) (.tmp 23) (.tmp 25), (some (20, false))⟩, ⟨(some 27), .pick (.tmp 20) (.const (.bool true)) (.tmp 26), none⟩]) (.cond (.tmp 27) (.seq (.region [⟨(some 4), .mov (.const (.bool true)), none⟩]) .ret) .skip)) (.seq (.region [⟨(some 28), .addOff (.tmp 6) 1, none⟩, ⟨(some 29), .load1 (.tmp 28), none⟩, ⟨(some 30), .lenSl (.tmp 29), none⟩, ⟨(some 31), .mov (.const (.int .i64 0)), none⟩]) (.block 2 (.loop (.seq (.region [⟨(some 32), .bin .lss (.sc .i) (.tmp 31) (.tmp 30), none⟩]) (.seq (.cond (.tmp 32) .skip (.exit 2)) (.seq (.block 3 (.seq (.region [⟨(some 33), .idxA 1 (.tmp 29) (.tmp 31), none⟩, ⟨(some 34), .load1 (.tmp 33), none⟩, ⟨(some 8), .mov (.tmp 34), none⟩]) (.seq (.region [⟨(some 35), .mov (.tmp 8), none⟩, ⟨(some 36), .lenSl (.tmp 35), none⟩, ⟨(some 37), .bin .gtr (.sc .i) (.tmp 36) (.const (.int .i64 12)), none⟩]) (.cond (.tmp 37) (.seq (.region [⟨(some 4), .mov (.const (.bool true)), none⟩]) .ret) .skip)))) (.region [⟨(some 38), .bin .add (.sc .i) (.tmp 31) (.const (.int .i64 1)), none⟩, ⟨(some 31), .mov (.tmp 38), none⟩])))))))))) (.region [⟨(some 39), .bin .add (.sc .i) (.tmp 11) (.const (.int .i64 1)), none⟩, ⟨(some 11), .mov (.tmp 39), none⟩]))))))) (.seq (.region [⟨(some 4), .mov (.const (.bool false)), none⟩]) .ret))), [.tmp 4]⟩
theorem c15 : compFn Tryz.prog 15 = some r15 := by kernel_rfl
def r17 : RFunc := ⟨105, (.seq (.region [⟨(some 1), .box (.tmp 0), none⟩, ⟨(some 2), .mov (.const (.int .i64 0)), none⟩]) (.seq (.region [⟨(some 8), .addOff (.tmp 1) 0, none⟩, ⟨(some 9), .load1 (.tmp 8), none⟩, ⟨(some 10), .lenSl (.tmp 9), none⟩, ⟨(some 3), .mov (.tmp 10), none⟩]) (.seq (.seq (.region [⟨(some 11), .mov (.tmp 3), none⟩, ⟨(some 12), .bin .gtr (.sc .i) (.tmp 11) (.const (.int .i64 256)), none⟩]) (.cond (.tmp 12) (.seq (.region [⟨(some 2), .mov (.const (.int .i64 2)), none⟩]) .ret) .skip)) (.seq (.seq (.region [⟨(some 13), .mov (.tmp 3), none⟩, ⟨(some 14), .bin .eql (.sc .i) (.tmp 13) (.const (.int .i64 0)), none⟩, ⟨(some 15), .mov (.tmp 14), none⟩, ⟨(some 16), .addOff (.tmp 1) 1, (some (15, false))⟩, ⟨(some 17), .load1 (.tmp 16), (some (15, false))⟩, ⟨(some 18), .lenSl (.tmp 17), (some (15, false))⟩, ⟨(some 19), .mov (.tmp 3), (some (15, false))⟩, ⟨(some 20), .bin .neq (.sc .i) (.tmp 18) (.tmp 19), (some (15, false))⟩, ⟨(some 21), .pick (.tmp 15) (.const (.bool true)) (.tmp 20), none⟩]) (.cond (.tmp 21) (.seq (.region [⟨(some 2), .mov (.const (.int .i64 15)), none⟩]) .ret) .skip)) (.seq (.seq (.region [⟨(some 22), .addOff (.tmp 1) 1, none⟩, ⟨(some 23), .load1 (.tmp 22), none⟩, ⟨(some 24), .lenSl (.tmp 23), none⟩, ⟨(some 25), .mov (.const (.int .i64 0)), none⟩]) (.block 0 (.loop (.seq (.region [⟨(some 26), .bin .lss (.sc .i) (.tmp 25) (.tmp 24), none⟩]) (.seq (.cond (.tmp 26) .skip (.exit 0)) (.seq (.block 1 (.seq (.region [⟨(some 27), .idxA 1 (.tmp 23) (.tmp 25), none⟩, ⟨(some 28), .load1 (.tmp 27), none⟩, ⟨(some 5), .mov (.tmp 28), none⟩]) (.seq (.region [⟨(some 29), .mov (.tmp 5), none⟩, ⟨(some 30), .lenSl (.tmp 29), none⟩, ⟨(some 31), .mov (.const (.int .i64 0)), none⟩]) (.block 2 (.loop (.seq (.region [⟨(some 32), .bin .lss (.sc .i) (.tmp 31) (.tmp 30), none⟩]) (.seq (.cond (.tmp 32) .skip (.exit 2)) (.seq (.block 3 (.seq (.region [⟨(some 33), .mov (.tmp 31), none⟩, ⟨(some 34), .idxA 3 (.tmp 29) (.tmp 31), none⟩, ⟨(some 35), .loadN (.tmp 34) 3, none⟩, ⟨(some 7), .newv [(.int .i32 0), (.int .i32 0), (.int .i64 0)], none⟩, ⟨(some 6), .mov (.tmp 33), none⟩, ⟨none, .store (.tmp 7) (.tmp 35) 3, none⟩]) (.block 4 (.seq (.region [⟨(some 37), .addOff (.tmp 7) 0, none⟩, ⟨(some 38), .load1 (.tmp 37), none⟩, ⟨(some 39), .bin .lss (.sc .i) (.tmp 38) (.const (.int .i32 0)), none⟩, ⟨(some 40), .mov (.tmp 39), none⟩, ⟨(some 41), .addOff (.tmp 7) 0, (some (40, false))⟩, ⟨(some 42), .load1 (.tmp 41), (some (40, false))⟩, ⟨(some 43), .addOff (.tmp 7) 1, (some (40, false))⟩, ⟨(some 44), .load1 (.tmp 43), (some (40, false))⟩, ⟨(some 45), .bin .gtr (.sc .i) (.tmp 42) (.tmp 44), (some (40, false))⟩, ⟨(some 46), .pick (.tmp 40) (.const (.bool true)) (.tmp 45), none⟩, ⟨(some 47), .mov (.tmp 46), none⟩, ⟨(some 48), .addOff (.tmp 7) 1, (some (47, false))⟩, ⟨(some 49), .load1 (.tmp 48), (some (47, false))⟩, ⟨(some 50), .bin .gtr (.sc .i) (.tmp 49) (.const (.int .i32 1114111)), (some (47, false))⟩, ⟨(some 51), .pick (.tmp 47) (.const (.bool true)) (.tmp 50), none⟩, ⟨(some 52), .mov (.tmp 51), none⟩, ⟨(some 53), .addOff (.tmp 7) 2, (some (52, false))⟩, ⟨(some 54), .load1 (.tmp 53), (some (52, false))⟩, ⟨(some 55), .bin .lss (.sc .i) (.tmp 54) (.const (.int .i64 0)), (some (52, false))⟩, ⟨(some 56), .pick (.tmp 52) (.const (.bool true)) (.tmp 55), none⟩, ⟨(some 57), .mov (.tmp 56), none⟩, ⟨(some 58), .addOff (.tmp 7) 2, (some (57, false))⟩, ⟨(some 59), .load1 (.tmp 58), (some (57, false))⟩, ⟨(some 60), .mov (.tmp 3), (some (57, false))⟩, ⟨(some 61), .bin .geq (.sc .i) (.tmp 59) (.tmp 60), (some (57, false))⟩, ⟨(some 62), .pick (.tmp 57) (.const (.bool true)) (.tmp 61), none⟩, ⟨(some 36), .mov (.tmp 62), none⟩]) (.cond (.tmp 36) (.seq (.region [⟨(some 2), .mov (.const (.int .i64 8)), none⟩]) .ret) (.seq (.draws [⟨[⟨(some 64), .mov (.tmp 6), none⟩, ⟨(some 65), .bin .gtr (.sc .i) (.tmp 64) (.const (.int .i64 0)), none⟩, ⟨(some 66), .mov (.tmp 65), none⟩, ⟨(some 67), .addOff (.tmp 7) 0, (some (66, true))⟩, ⟨(some 68), .load1 (.tmp 67), (some (66, true))⟩, ⟨(some 69), .mov (.tmp 5), (some (66, true))⟩, ⟨(some 70), .mov (.tmp 6), (some (66, true))⟩, ⟨(some 71), .bin .sub (.sc .i) (.tmp 70) (.const (.int .i64 1)), (some (66, true))⟩, ⟨(some 72), .idxA 3 (.tmp 69) (.tmp 71), (some (66, true))⟩, ⟨(some 73), .addOff (.tmp 72) 1, (some (66, true))⟩, ⟨(some 74), .load1 (.tmp 73), (some (66, true))⟩, ⟨(some 75), .bin .leq (.sc .i) (.tmp 68) (.tmp 74), (some (66, true))⟩, ⟨(some 76), .pick (.tmp 66) (.tmp 75) (.const (.bool false)), none⟩, ⟨(some 63), .mov (.tmp 76), none⟩], [⟨(some 64), .mov (.tmp 6), none⟩, ⟨(some 65), .bin .gtr (.sc .i) (.tmp 64) (.const (.int .i64 0)), none⟩, ⟨(some 66), .mov (.tmp 65), none⟩, ⟨(some 67), .addOff (.tmp 7) 0, (some (66, true))⟩, ⟨(some 68), .load1 (.tmp 67), (some (66, true))⟩, ⟨(some 69), .mov (.tmp 5), (some (66, true))⟩, ⟨(some 70), .mov (.tmp 6), (some (66, true))⟩, ⟨(some 71), .bin .sub (.sc .i) (.tmp 70) (.const (.int .i64 1)), (some (66, true))⟩, ⟨(some 72), .idxA 3 (.tmp 69) (.tmp 71), (some (66, true))⟩, ⟨(some 73), .addOff (.tmp 72) 1, (some (66, true))⟩, ⟨(some 74), .load1 (.tmp 73), (some (66, true))⟩, ⟨(some 75), .bin .leq (.sc .i) (.tmp 68) (.tmp 74), (some (66, true))⟩, ⟨(some 76), .pick (.tmp 66) (.tmp 75) (.const (.bool false)), none⟩, ⟨(some 63), .mov (.tmp 76), none⟩], none⟩]) (.cond (.tmp 63) (.seq (.region [⟨(some 2), .mov (.const (.int .i64 6)), none⟩]) .ret) (.seq (.draws [⟨[⟨(some 78), .mov (.tmp 6), none⟩, ⟨(some 79), .bin .gtr (.sc .i) (.tmp 78) (.const (.int .i64 0)), none⟩, ⟨(some 80), .mov (.tmp 79), none⟩, ⟨(some 81), .addOff (.tmp 7) 0, (some (80, true))⟩, ⟨(some 82), .load1 (.tmp 81), (some (80, true))⟩, ⟨(some 83), .mov (.tmp 5), (some (80, true))⟩, ⟨(some 84), .mov (.tmp 6), (some (80, true))⟩, ⟨(some 85), .bin .sub (.sc .i) (.tmp 84) (.const (.int .i64 1)), (some (80, true))⟩, ⟨(some 86), .idxA 3 (.tmp 83) (.tmp 85), (some (80, true))⟩, ⟨(some 87), .addOff (.tmp 86) 1, (some (80, true))⟩, ⟨(some 88), .load1 (.tmp 87), (some (80, true))⟩, ⟨(some 89), .bin .add (.sc .i) (.tmp 88) (.const (.int .i32 1)), (some (80, true))⟩, ⟨(some 90), .bin .eql (.sc .i) (.tmp 82) (.tmp 89), (some (80, true))⟩, ⟨(some 91), .pick (.tmp 80) (.tmp 90) (.const (.bool false)), none⟩, ⟨(some 92), .mov (.tmp 91), none⟩, ⟨(some 93), .addOff (.tmp 7) 2, (some (92, true))⟩, ⟨(some 94), .load1 (.tmp 93), (some (92, true))⟩, ⟨(some 95), .mov (.tmp 5), (some (92, true))⟩, ⟨(some 96), .mov (.tmp 6), (some (92, true))⟩, ⟨(some 97), .bin .sub (.sc .i) (.tmp 96) (.const (.int .i64 1)), (some (92, true))⟩, ⟨(some 98), .idxA 3 (.tmp 95) (.tmp 97), (some (92, true))⟩, ⟨(some 99), .addOff (.tmp 98) 2, (some (92, true))⟩, ⟨(some 100), .load1 (.tmp 99), (some (92, true))⟩, ⟨(some 101), .bin .eql (.sc .i) (.tmp 94) (.tmp 100), (some (92, true))⟩, ⟨(some 102), .pick (.tmp 92) (.tmp 101) (.const (.bool false)), none⟩, ⟨(some 77), .mov (.tmp 102), none⟩], [⟨(some 78), .mov (.tmp 6), none⟩, ⟨(some 79), .bin .gtr (.sc .i) (.tmp 78) (.const (.int .i64 0)), none⟩, ⟨(some 80), .mov (.tmp 79), none⟩, ⟨(some 81), .addOff (.tmp 7) 0, (some (80, true))⟩, ⟨(some 82), .load1 (.tmp 81), (some (80, true))⟩, ⟨(some 83), .mov (.tmp 5), (some (80, true))⟩, ⟨(some 84), .mov (.tmp 6), (some (80, true))⟩, ⟨(some 85), .bin .sub (.sc .i) (.tmp 84) (.const (.int .i64 1)), (some (80, true))⟩, ⟨(some 86), .idxA 3 (.tmp 83) (.tmp 85), (some (80, true))⟩, ⟨(some 87), .addOff (.tmp 86) 1, (some (80, true))⟩, ⟨(some 88), .load1 (.tmp 87), (some (80, true))⟩, ⟨(some 89), .bin .add (.sc .i) (.tmp 88) (.const (.int .i32 1)), (some (80, true))⟩, ⟨(some 90), .bin .eql (.sc .i) (.tmp 82) (.tmp 89), (some (80, true))⟩, ⟨(some 91), .pick (.tmp 80) (.tmp 90) (.const (.bool false)), none⟩, ⟨(some 92), .mov (.tmp 91), none⟩, ⟨(some 93), .addOff (.tmp 7) 2, (some (92, true))⟩, ⟨(some 94), .load1 (.tmp 93), (some (92, true))⟩, ⟨(some 95), .mov (.tmp 5), (some (92, true))⟩, ⟨(some 96), .mov (.tmp 6), (some (92, true))⟩, ⟨(some 97), .bin .sub (.sc .i) (.tmp 96) (.const (.int .i64 1)), (some (92, true))⟩, ⟨(some 98), .idxA 3 (.tmp 95) (.tmp 97), (some (92, true))⟩, ⟨(some 99), .addOff (.tmp 98) 2, (some (92, true))⟩, ⟨(some 100), .load1 (.tmp 99), (some (92, true))⟩, ⟨(some 101), .bin .eql (.sc .i) (.tmp 94) (.tmp 100), (some (92, true))⟩, ⟨(some 102), .pick (.tmp 92) (.tmp 101) (.const (.bool false)), none⟩, ⟨(some 77), .mov (.tmp 102), none⟩], none⟩]) (.cond (.tmp 77) (.seq (.region [⟨(some 2), .mov (.const (.int .i64 6)), none⟩]) .ret) .skip))))))))) (.region [⟨(some 103), .bin .add (.sc .i) (.tmp 31) (.const (.int .i64 1)), none⟩, ⟨(some 31), .mov (.tmp 103), none⟩]))))))))) (.region [⟨(some 104), .bin .add (.sc .i) (.tmp 25) (.const (.int .i64 1)), none⟩, ⟨(some 25), .mov (.tmp 104), none⟩]))))))) (.seq (.region [⟨(some 2), .mov (.const (.int .i64 0)), none⟩]) .ret)))))), [.tmp 2]⟩
theorem c17 : compFn Tryz.prog 17 = some r17 := by kernel_rfl
end Go.Proofs.YtlipmjpapkfaeaaGreatDoor.Fn
end
section
set_option linter.unusedSimpArgs false
set_option linter.unusedVariables false
set_option maxRecDepth 100000
namespace Go.Proofs.YtlipmjpapkfaeaaGreatDoor.Fn
open Go Go.Mach Go.RowKit
attribute [local irreducible] AOps WPX DOps thenS blockS GOps CPick

def largeA (most : Int) (A : Aut) : Bool := decide ((A.fin.length : Int) > most) || decide ((A.arcs.length : Int) > most + 1) || A.arcs.any (fun l => decide ((l.length : Int) > 12))

set_option maxHeartbeats 4000000 in
theorem f15_ok (W : World) (h : AHeap) (most : Int) (vl : Value) (As : List Aut) (cs : List (Value × Value × List Value)) (hm0 : 0 ≤ most) (hm : most < 1073741824) (hn : As.length < 1073741824) (hlen : cs.length = As.length)
    (hsl : Sl W h 2 vl (cs.map fun c => [c.1, c.2.1]))
    (hA : ∀ (i : Nat) c A, cs[i]? = some c → As[i]? = some A → AutoV W h (.agg #[c.1, c.2.1]) A c.1 c.2.1 c.2.2) :
    ACalls Tryz.prog W 15 [.int .i64 most, vl] h (fun r h' => r = .bool (As.any (largeA most)) ∧ Keeps h h') := by
  obtain ⟨la, lc, hls⟩ := hsl.len
  rw [List.length_map, hlen] at hls
  subst hls
  refine ACalls_ofX hmix c15 (Nat.le_of_ble_eq_true rfl) ?_
  unfold r15
  simp only [envOf2]
  repeat (first | (with_reducible first | apply x_seq | apply x_block | apply x_region | apply x_exit | apply x_ret | apply x_skip | apply t_normal | apply t_exit | apply t_ret | apply b_normal | apply b_ret | apply b_same | apply ops_nil | apply g_T | apply g_F | apply c_T | apply c_F) | (with_reducible refine b_other (by decide) ?_) | ((with_reducible apply x_draws); (with_reducible apply d_pure); (next => kernel_rfl)) | ((with_reducible first | apply ops_d | apply ops_g | apply x_c); (next => simp only [rop, opd, celsL, oneV, aadd, binV, isSh, intBin, scEq, keq, unV, fillL, oP, oA, oS, wantedA, BX, BL, BS, seval, *]; with_reducible exact rfl)))
  refine WPX.loop hmix (fun k σ => ∃ i, i ≤ As.length ∧ k = As.length - i ∧ eget σ.e 0 = .int .i64 most ∧ eget σ.e 9 = .slice la As.length lc ∧ eget σ.e 10 = .int .i64 As.length ∧ eget σ.e 11 = .int .i64 (i : Nat) ∧ Keeps h σ.h ∧ (As.take i).any (largeA most) = false)
    As.length ?h0 ?round
  case h0 => exact ⟨0, Nat.zero_le _, rfl, (by simp only [rop, opd, celsL, oneV, aadd, binV, isSh, intBin, scEq, keq, unV, fillL, oP, oA, oS, wantedA, BX, BL, BS, seval, *]), (by simp only [rop, opd, celsL, oneV, aadd, binV, isSh, intBin, scEq, keq, unV, fillL, oP, oA, oS, wantedA, BX, BL, BS, seval, *]), (by simp only [rop, opd, celsL, oneV, aadd, binV, isSh, intBin, scEq, keq, unV, fillL, oP, oA, oS, wantedA, BX, BL, BS, seval, *]), (by simp only [rop, opd, celsL, oneV, aadd, binV, isSh, intBin, scEq, keq, unV, fillL, oP, oA, oS, wantedA, BX, BL, BS, seval, *]), Keeps.refl h, rfl⟩
  rintro k ⟨e, hh⟩ ⟨i, hi, rfl, e0, e9, e10, e11, hk, hc⟩
  dsimp only at e0 e9 e10 e11 hk
  by_cases hlt : i < As.length
  · have hltI : (i : Int) < As.length := by omega
    obtain ⟨A, hAi⟩ : ∃ A, As[i]? = some A := ⟨_, List.getElem?_eq_getElem hlt⟩
    obtain ⟨⟨vf, va, vs⟩, hci⟩ : ∃ c, cs[i]? = some c := ⟨_, List.getElem?_eq_getElem (show i < cs.length by omega)⟩
    have hx : (cs.map fun c => [c.1, c.2.1])[i]? = some [vf, va] := by simp [hci]
    obtain ⟨a, ha1, _, ha2⟩ := (hsl.keeps hk).at hx
    have hld := aloadN_of _ _ ha2
    simp only [List.length_cons, List.length_nil, Nat.reduceAdd] at hld
    obtain ⟨_, hvf, hva, hvl, hve⟩ := hA i _ _ hci hAi
    simp only at hvf hva hvl hve
    obtain ⟨fa, fc, hfs⟩ := hvf.len
    obtain ⟨aa, ac, has⟩ := hva.len
    rw [List.length_map] at hfs has
    rw [hvl] at has
    subst hfs has
    have hnextA : largeA most A = true → As.any (largeA most) = true := fun h => List.any_eq_true.2 ⟨A, List.mem_of_getElem? hAi, h⟩
    clear hx ha2
    have hkk : Keeps h ((hh.new (.cells [.slice none 0 0, .slice none 0 0])).put hh.next (.cells [.slice fa A.fin.length fc, .slice aa A.arcs.length ac])) := (hk.new _).put hk.le _
    have hw0 : IntKind.i64.wrap (most + 1) = most + 1 := wrap_i64 (by omega) (by omega)
    by_cases b1 : (A.fin.length : Int) > most
    · have hv := hnextA (by simp [largeA, b1])
      repeat (first | (with_reducible first | apply x_seq | apply x_block | apply x_region | apply x_exit | apply x_ret | apply x_skip | apply t_normal | apply t_exit | apply t_ret | apply b_normal | apply b_ret | apply b_same | apply ops_nil | apply g_T | apply g_F | apply c_T | apply c_F) | (with_reducible refine b_other (by decide) ?_) | ((with_reducible apply x_draws); (with_reducible apply d_pure); (next => kernel_rfl)) | ((with_reducible first | apply ops_d | apply ops_g | apply x_c); (next => simp only [rop, opd, celsL, oneV, aadd, binV, isSh, intBin, scEq, keq, unV, fillL, oP, oA, oS, wantedA, BX, BL, BS, seval, *]; with_reducible exact rfl)))
      refine ⟨.inr rfl, _, rfl, ?_, hkk⟩
      simp only [resOf, rop, opd, celsL, oneV, aadd, binV, isSh, intBin, scEq, keq, unV, fillL, oP, oA, oS, wantedA, BX, BL, BS, seval, hv]
    by_cases b2 : (A.arcs.length : Int) > most + 1
    · have hv := hnextA (by simp [largeA, b2])
      repeat (first | (with_reducible first | apply x_seq | apply x_block | apply x_region | apply x_exit | apply x_ret | apply x_skip | apply t_normal | apply t_exit | apply t_ret | apply b_normal | apply b_ret | apply b_same | apply ops_nil | apply g_T | apply g_F | apply c_T | apply c_F) | (with_reducible refine b_other (by decide) ?_) | ((with_reducible apply x_draws); (with_reducible apply d_pure); (next => kernel_rfl)) | ((with_reducible first | apply ops_d | apply ops_g | apply x_c); (next => simp only [rop, opd, celsL, oneV, aadd, binV, isSh, intBin, scEq, keq, unV, fillL, oP, oA, oS, wantedA, BX, BL, BS, seval, *]; with_reducible exact rfl)))
      refine ⟨.inr rfl, _, rfl, ?_, hkk⟩
      simp only [resOf, rop, opd, celsL, oneV, aadd, binV, isSh, intBin, scEq, keq, unV, fillL, oP, oA, oS, wantedA, BX, BL, BS, seval, hv]
    repeat (first | (with_reducible first | apply x_seq | apply x_block | apply x_region | apply x_exit | apply x_ret | apply x_skip | apply t_normal | apply t_exit | apply t_ret | apply b_normal | apply b_ret | apply b_same | apply ops_nil | apply g_T | apply g_F | apply c_T | apply c_F) | (with_reducible refine b_other (by decide) ?_) | ((with_reducible apply x_draws); (with_reducible apply d_pure); (next => kernel_rfl)) | ((with_reducible first | apply ops_d | apply ops_g | apply x_c); (next => simp only [rop, opd, celsL, oneV, aadd, binV, isSh, intBin, scEq, keq, unV, fillL, oP, oA, oS, wantedA, BX, BL, BS, seval, *]; with_reducible exact rfl)))
    refine WPX.loop hmix (fun k σ => ∃ j, j ≤ A.arcs.length ∧ k = A.arcs.length - j ∧ eget σ.e 0 = .int .i64 most ∧ eget σ.e 9 = .slice la As.length lc ∧ eget σ.e 10 = .int .i64 As.length ∧ eget σ.e 11 = .int .i64 (i : Nat) ∧
      eget σ.e 29 = .slice aa A.arcs.length ac ∧ eget σ.e 30 = .int .i64 A.arcs.length ∧ eget σ.e 31 = .int .i64 (j : Nat) ∧ Keeps h σ.h ∧ (A.arcs.take j).any (fun l => decide ((l.length : Int) > 12)) = false) A.arcs.length ?h1 ?round1
    case h1 => exact ⟨0, Nat.zero_le _, rfl, (by simp only [rop, opd, celsL, oneV, aadd, binV, isSh, intBin, scEq, keq, unV, fillL, oP, oA, oS, wantedA, BX, BL, BS, seval, *]), (by simp only [rop, opd, celsL, oneV, aadd, binV, isSh, intBin, scEq, keq, unV, fillL, oP, oA, oS, wantedA, BX, BL, BS, seval, *]), (by simp only [rop, opd, celsL, oneV, aadd, binV, isSh, intBin, scEq, keq, unV, fillL, oP, oA, oS, wantedA, BX, BL, BS, seval, *]), (by simp only [rop, opd, celsL, oneV, aadd, binV, isSh, intBin, scEq, keq, unV, fillL, oP, oA, oS, wantedA, BX, BL, BS, seval, *]), (by simp only [rop, opd, celsL, oneV, aadd, binV, isSh, intBin, scEq, keq, unV, fillL, oP, oA, oS, wantedA, BX, BL, BS, seval, *]), (by simp only [rop, opd, celsL, oneV, aadd, binV, isSh, intBin, scEq, keq, unV, fillL, oP, oA, oS, wantedA, BX, BL, BS, seval, *]), (by simp only [rop, opd, celsL, oneV, aadd, binV, isSh, intBin, scEq, keq, unV, fillL, oP, oA, oS, wantedA, BX, BL, BS, seval, *]), hkk, rfl⟩
    rintro k2 ⟨e', hh'⟩ ⟨j, hj, rfl, q0, q9, q10, q11, q29, q30, q31, hk', hc'⟩
    clear e0 e9 e10 e11 hld ha1
    dsimp only at q0 q9 q10 q11 q29 q30 q31 hk'
    by_cases hjl : j < A.arcs.length
    · have hjlI : (j : Int) < A.arcs.length := by omega
      obtain ⟨l, hll⟩ : ∃ l, A.arcs[j]? = some l := ⟨_, List.getElem?_eq_getElem hjl⟩
      obtain ⟨x, hxs⟩ : ∃ x, vs[j]? = some x := ⟨_, List.getElem?_eq_getElem (show j < vs.length by omega)⟩
      have hxm : (vs.map fun x => [x])[j]? = some [x] := by simp [hxs]
      obtain ⟨b, hb1, _, hb3⟩ := (hva.keeps hk').at hxm
      have hrd := (hb3 0 x rfl).1
      have hbb : aadd b 0 = b := rfl
      rw [hbb] at hrd
      obtain ⟨ll, lc', hlv⟩ := (hve j x l hxs hll).len
      rw [List.length_map] at hlv
      subst hlv
      have hw1 : IntKind.i64.wrap ((j : Int) + 1) = ((j + 1 : Nat) : Int) := wrap_i64 (by omega) (by omega)
      clear hxm hb3
      by_cases b3 : (l.length : Int) > 12
      · have hv := hnextA (by simp only [largeA, Bool.or_eq_true]; exact .inr (List.any_eq_true.2 ⟨l, List.mem_of_getElem? hll, decide_eq_true b3⟩))
        repeat (first | (with_reducible first | apply x_seq | apply x_block | apply x_region | apply x_exit | apply x_ret | apply x_skip | apply t_normal | apply t_exit | apply t_ret | apply b_normal | apply b_ret | apply b_same | apply ops_nil | apply g_T | apply g_F | apply c_T | apply c_F) | (with_reducible refine b_other (by decide) ?_) | ((with_reducible apply x_draws); (with_reducible apply d_pure); (next => kernel_rfl)) | ((with_reducible first | apply ops_d | apply ops_g | apply x_c); (next => simp only [rop, opd, celsL, oneV, aadd, binV, isSh, intBin, scEq, keq, unV, fillL, oP, oA, oS, wantedA, BX, BL, BS, seval, *]; with_reducible exact rfl)))
        refine ⟨.inr rfl, _, rfl, ?_, hk'⟩
        simp only [resOf, rop, opd, celsL, oneV, aadd, binV, isSh, intBin, scEq, keq, unV, fillL, oP, oA, oS, wantedA, BX, BL, BS, seval, hv]
      · have hn2 : (A.arcs.take (j + 1)).any (fun l => decide ((l.length : Int) > 12)) = false := by
          rw [List.take_add_one, hll, List.any_append, hc']; simp [b3]
        repeat (first | (with_reducible first | apply x_seq | apply x_block | apply x_region | apply x_exit | apply x_ret | apply x_skip | apply t_normal | apply t_exit | apply t_ret | apply b_normal | apply b_ret | apply b_same | apply ops_nil | apply g_T | apply g_F | apply c_T | apply c_F) | (with_reducible refine b_other (by decide) ?_) | ((with_reducible apply x_draws); (with_reducible apply d_pure); (next => kernel_rfl)) | ((with_reducible first | apply ops_d | apply ops_g | apply x_c); (next => simp only [rop, opd, celsL, oneV, aadd, binV, isSh, intBin, scEq, keq, unV, fillL, oP, oA, oS, wantedA, BX, BL, BS, seval, *]; with_reducible exact rfl)))
        refine ⟨A.arcs.length - (j + 1), by omega, j + 1, by omega, rfl, ?_⟩
        simp only [rop, opd, celsL, oneV, aadd, binV, isSh, intBin, scEq, keq, unV, fillL, oP, oA, oS, wantedA, BX, BL, BS, seval, and_self, *]
    · have hjlI : ¬ (j : Int) < A.arcs.length := by omega
      have hn2 : (As.take (i + 1)).any (largeA most) = false := by
        rw [List.take_add_one, hAi, List.any_append, hc]
        rw [List.take_of_length_le (by omega)] at hc'
        simp only [Option.toList_some, List.any_cons, List.any_nil, Bool.or_false, Bool.false_or, largeA, hc', b1, b2, decide_false]
      have hw1 : IntKind.i64.wrap ((i : Int) + 1) = ((i + 1 : Nat) : Int) := wrap_i64 (by omega) (by omega)
      repeat (first | (with_reducible first | apply x_seq | apply x_block | apply x_region | apply x_exit | apply x_ret | apply x_skip | apply t_normal | apply t_exit | apply t_ret | apply b_normal | apply b_ret | apply b_same | apply ops_nil | apply g_T | apply g_F | apply c_T | apply c_F) | (with_reducible refine b_other (by decide) ?_) | ((with_reducible apply x_draws); (with_reducible apply d_pure); (next => kernel_rfl)) | ((with_reducible first | apply ops_d | apply ops_g | apply x_c); (next => simp only [rop, opd, celsL, oneV, aadd, binV, isSh, intBin, scEq, keq, unV, fillL, oP, oA, oS, wantedA, BX, BL, BS, seval, *]; with_reducible exact rfl)))
      refine ⟨As.length - (i + 1), by omega, i + 1, by omega, rfl, ?_⟩
      simp only [rop, opd, celsL, oneV, aadd, binV, isSh, intBin, scEq, keq, unV, fillL, oP, oA, oS, wantedA, BX, BL, BS, seval, and_self, *]
  · have hltI : ¬ (i : Int) < As.length := by omega
    have hv : As.any (largeA most) = false := by rw [List.take_of_length_le (by omega)] at hc; exact hc
    repeat (first | (with_reducible first | apply x_seq | apply x_block | apply x_region | apply x_exit | apply x_ret | apply x_skip | apply t_normal | apply t_exit | apply t_ret | apply b_normal | apply b_ret | apply b_same | apply ops_nil | apply g_T | apply g_F | apply c_T | apply c_F) | (with_reducible refine b_other (by decide) ?_) | ((with_reducible apply x_draws); (with_reducible apply d_pure); (next => kernel_rfl)) | ((with_reducible first | apply ops_d | apply ops_g | apply x_c); (next => simp only [rop, opd, celsL, oneV, aadd, binV, isSh, intBin, scEq, keq, unV, fillL, oP, oA, oS, wantedA, BX, BL, BS, seval, *]; with_reducible exact rfl)))
    refine ⟨.inr rfl, _, rfl, ?_, hk⟩
    simp only [resOf, rop, opd, celsL, oneV, aadd, binV, isSh, intBin, scEq, keq, unV, fillL, oP, oA, oS, wantedA, BX, BL, BS, seval, hv]
end Go.Proofs.YtlipmjpapkfaeaaGreatDoor.Fn
end
