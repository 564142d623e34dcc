/- automaton.Validate (F16) in the machine.
Merged from 2 texts. -/
import Derived.Test.YtlipmjpapkfaeaaGreatDoorZC8
import Derived.Test.YtlipmjpapkfaeaaGreatDoorZC9
import Derived.Test.YtlipmjpapkfaeaaGreatDoorZC11
import Derived.KernelRfl
section
set_option linter.unusedSimpArgs false
set_option linter.unusedVariables false
set_option maxRecDepth 100000
namespace Go.Proofs.YtlipmjpapkfaeaaGreatDoor.Fn
open Go Go.Mach Go.RowKit
attribute [local irreducible] AOps WPX DOps thenS blockS GOps CPick

set_option maxHeartbeats 4000000 in
theorem f16_ok (W : World) (h : AHeap) (v : Value) (A : Aut) (vf va : Value) (vs : List Value) (hA : AutoV W h v A vf va vs) (hb : ∀ l ∈ A.arcs, l.length < 1073741824) :
    ACalls Tryz.prog W 16 [v] h (fun r h' => r = .int .i64 (validate A) ∧ Keeps h h') := by
  obtain ⟨rfl, hf, ha, hl, he⟩ := hA
  obtain ⟨fa, fc, hfs⟩ := hf.len
  obtain ⟨aa, ac, has⟩ := ha.len
  rw [List.length_map] at hfs has
  rw [hl] at has
  refine ACalls_ofX hmix c16 (Nat.le_of_ble_eq_true rfl) ?_
  unfold r16
  simp only [envOf1]
  have hfs' := hfs; have has' := has
  by_cases h1 : (A.fin.length : Int) > 256
  · subst hfs has
    repeat (first | (with_reducible first | apply x_seq | apply x_block | apply x_region | apply x_exit | apply x_ret | apply x_skip | apply t_normal | apply t_exit | apply t_ret | apply b_normal | apply b_ret | apply b_same | apply ops_nil | apply g_T | apply g_F | apply c_T | apply c_F) | (with_reducible refine b_other (by decide) ?_) | ((with_reducible apply x_draws); (with_reducible apply d_pure); (next => kernel_rfl)) | ((with_reducible first | apply ops_d | apply ops_g | apply x_c); (next => simp only [rop, opd, celsL, oneV, aadd, binV, isSh, intBin, scEq, keq, unV, fillL, oP, oA, oS, wantedA, BX, BL, BS, seval, *]; with_reducible exact rfl)))
    refine ⟨.inr rfl, _, rfl, ?_, (by first | exact Keeps.refl h | exact (Keeps.refl h).new _ | exact hkk | exact hk | exact hk')⟩
    simp only [resOf, eget_eput, rop, opd, celsL, oneV, aadd, binV, isSh, intBin, scEq, keq, unV, fillL, oP, oA, oS, wantedA, BX, BL, BS, seval]
    unfold validate
    rw [if_pos (by omega)]
  · have h1n : ¬ A.fin.length > 256 := by omega
    by_cases h0 : (A.fin.length : Int) = 0
    · subst hfs has
      repeat (first | (with_reducible first | apply x_seq | apply x_block | apply x_region | apply x_exit | apply x_ret | apply x_skip | apply t_normal | apply t_exit | apply t_ret | apply b_normal | apply b_ret | apply b_same | apply ops_nil | apply g_T | apply g_F | apply c_T | apply c_F) | (with_reducible refine b_other (by decide) ?_) | ((with_reducible apply x_draws); (with_reducible apply d_pure); (next => kernel_rfl)) | ((with_reducible first | apply ops_d | apply ops_g | apply x_c); (next => simp only [rop, opd, celsL, oneV, aadd, binV, isSh, intBin, scEq, keq, unV, fillL, oP, oA, oS, wantedA, BX, BL, BS, seval, *]; with_reducible exact rfl)))
      refine ⟨.inr rfl, _, rfl, ?_, (by first | exact Keeps.refl h | exact (Keeps.refl h).new _ | exact hkk | exact hk | exact hk')⟩
      simp only [resOf, eget_eput, rop, opd, celsL, oneV, aadd, binV, isSh, intBin, scEq, keq, unV, fillL, oP, oA, oS, wantedA, BX, BL, BS, seval]
      unfold validate
      rw [if_neg h1n, if_pos (.inl (by omega))]
    · by_cases hm : (A.arcs.length : Int) = A.fin.length
      · have hn : Hid (A.arcs.length = A.fin.length) := by show A.arcs.length = A.fin.length; omega
        rw [hn.out] at has hl
        clear hm has'
        subst hfs has
        repeat (first | (with_reducible first | apply x_seq | apply x_block | apply x_region | apply x_exit | apply x_ret | apply x_skip | apply t_normal | apply t_exit | apply t_ret | apply b_normal | apply b_ret | apply b_same | apply ops_nil | apply g_T | apply g_F | apply c_T | apply c_F) | (with_reducible refine b_other (by decide) ?_) | ((with_reducible apply x_draws); (with_reducible apply d_pure); (next => kernel_rfl)) | ((with_reducible first | apply ops_d | apply ops_g | apply x_c); (next => simp only [rop, opd, celsL, oneV, aadd, binV, isSh, intBin, scEq, keq, unV, fillL, oP, oA, oS, wantedA, BX, BL, BS, seval, *]; with_reducible exact rfl)))
        refine WPX.loop hmix (fun k σ => ∃ i, i ≤ A.fin.length ∧ k = A.fin.length - i ∧ eget σ.e 3 = .int .i64 A.fin.length ∧ eget σ.e 25 = .slice aa A.fin.length ac ∧ eget σ.e 26 = .int .i64 A.fin.length ∧ eget σ.e 27 = .int .i64 (i : Nat) ∧ Keeps h σ.h ∧ chkAll A.fin.length (A.arcs.take i) = none)
          A.fin.length ?h0 ?round
        case h0 => exact ⟨0, Nat.zero_le _, rfl, (by simp only [rop, opd, celsL, oneV, aadd, binV, isSh, intBin, scEq, keq, unV, fillL, oP, oA, oS, wantedA, BX, BL, BS, seval, *]), (by simp only [rop, opd, celsL, oneV, aadd, binV, isSh, intBin, scEq, keq, unV, fillL, oP, oA, oS, wantedA, BX, BL, BS, seval, *]), (by simp only [rop, opd, celsL, oneV, aadd, binV, isSh, intBin, scEq, keq, unV, fillL, oP, oA, oS, wantedA, BX, BL, BS, seval, *]), (by simp only [rop, opd, celsL, oneV, aadd, binV, isSh, intBin, scEq, keq, unV, fillL, oP, oA, oS, wantedA, BX, BL, BS, seval, *]), (Keeps.refl h).new _, rfl⟩
        rintro k ⟨e, hh⟩ ⟨i, hi, rfl, e3, e25, e26, e27, hk, hc⟩
        dsimp only at e3 e25 e26 e27 hk
        by_cases hlt : i < A.fin.length
        · have hltI : (i : Int) < A.fin.length := by omega
          have hlv : i < vs.length := by omega
          have hx : (vs.map fun x => [x])[i]? = some [vs[i]] := by simp [hlv]
          obtain ⟨a, ha1, _, ha2⟩ := (ha.keeps hk).at hx
          have hrd := (ha2 0 vs[i] rfl).1
          have haa : aadd a 0 = a := rfl
          rw [haa] at hrd
          have hia : i < A.arcs.length := by have := hn.out; omega
          obtain ⟨l, hll⟩ : ∃ l, A.arcs[i]? = some l := ⟨_, List.getElem?_eq_getElem hia⟩
          have hs := (he i vs[i] l (by simp [hlv]) hll)
          obtain ⟨la, lc, hls⟩ := hs.len
          rw [List.length_map] at hls
          rw [hls] at hrd hs
          repeat (first | (with_reducible first | apply x_seq | apply x_block | apply x_region | apply x_exit | apply x_ret | apply x_skip | apply t_normal | apply t_exit | apply t_ret | apply b_normal | apply b_ret | apply b_same | apply ops_nil | apply g_T | apply g_F | apply c_T | apply c_F) | (with_reducible refine b_other (by decide) ?_) | ((with_reducible apply x_draws); (with_reducible apply d_pure); (next => kernel_rfl)) | ((with_reducible first | apply ops_d | apply ops_g | apply x_c); (next => simp only [rop, opd, celsL, oneV, aadd, binV, isSh, intBin, scEq, keq, unV, fillL, oP, oA, oS, wantedA, BX, BL, BS, seval, *]; with_reducible exact rfl)))
          refine WPX.loop hmix (fun k σ => ∃ j, j ≤ l.length ∧ k = l.length - j ∧ eget σ.e 3 = .int .i64 A.fin.length ∧ eget σ.e 25 = .slice aa A.fin.length ac ∧ eget σ.e 26 = .int .i64 A.fin.length ∧ eget σ.e 27 = .int .i64 (i : Nat) ∧
            eget σ.e 5 = .slice la l.length lc ∧ eget σ.e 31 = .slice la l.length lc ∧ eget σ.e 32 = .int .i64 l.length ∧ eget σ.e 33 = .int .i64 (j : Nat) ∧ Keeps h σ.h ∧ chkFrom A.fin.length none (l.take j) = none) l.length ?h1 ?round1
          case h1 => exact ⟨0, Nat.zero_le _, rfl, (by simp only [rop, opd, celsL, oneV, aadd, binV, isSh, intBin, scEq, keq, unV, fillL, oP, oA, oS, wantedA, BX, BL, BS, seval, *]), (by simp only [rop, opd, celsL, oneV, aadd, binV, isSh, intBin, scEq, keq, unV, fillL, oP, oA, oS, wantedA, BX, BL, BS, seval, *]), (by simp only [rop, opd, celsL, oneV, aadd, binV, isSh, intBin, scEq, keq, unV, fillL, oP, oA, oS, wantedA, BX, BL, BS, seval, *]), (by simp only [rop, opd, celsL, oneV, aadd, binV, isSh, intBin, scEq, keq, unV, fillL, oP, oA, oS, wantedA, BX, BL, BS, seval, *]), (by simp only [rop, opd, celsL, oneV, aadd, binV, isSh, intBin, scEq, keq, unV, fillL, oP, oA, oS, wantedA, BX, BL, BS, seval, *]), (by simp only [rop, opd, celsL, oneV, aadd, binV, isSh, intBin, scEq, keq, unV, fillL, oP, oA, oS, wantedA, BX, BL, BS, seval, *]), (by simp only [rop, opd, celsL, oneV, aadd, binV, isSh, intBin, scEq, keq, unV, fillL, oP, oA, oS, wantedA, BX, BL, BS, seval, *]), (by simp only [rop, opd, celsL, oneV, aadd, binV, isSh, intBin, scEq, keq, unV, fillL, oP, oA, oS, wantedA, BX, BL, BS, seval, *]), hk, rfl⟩
          rintro k2 ⟨e', hh'⟩ ⟨j, hj, rfl, q3, q25, q26, q27, q5, q31, q32, q33, hk', hc'⟩
          clear e3 e25 e26 e27 hrd ha1
          dsimp only at q3 q25 q26 q27 q5 q31 q32 q33 hk'
          by_cases hjl : j < l.length
          · have hjlI : (j : Int) < l.length := by omega
            have hxj : (l.map arcV)[j]? = some (arcV l[j]) := by simp [hjl]
            obtain ⟨b, hb1, hb2, hb3⟩ := (hs.keeps hk').at hxj
            have hld := aloadN_of _ _ hb3
            obtain ⟨x, hxe⟩ : ∃ x, x = l[j] := ⟨_, rfl⟩
            rw [← hxe] at hld
            obtain ⟨f, t, s⟩ := x
            simp only [arcV, List.length_cons, List.length_nil, Nat.reduceAdd] at hld
            have hxl : l[j]? = some (f, t, s) := by rw [hxe]; simp [hjl]
            have fin8 : badArc A.fin.length (f, t, s) = true → validate A = 8 := fun hbad => by
              have := chkAll_hit hll hc (c := 8) (by rw [chkFrom_hit hxl hc']; simp [chkFrom, hbad])
              unfold validate; rw [if_neg h1n, if_neg (by have := hn.out; omega), this]; rfl
            have hkk : Keeps h ((hh'.new (.cells [.int .i32 0, .int .i32 0, .int .i64 0])).put hh'.next (.cells [.int .i32 f, .int .i32 t, .int .i64 s])) := (hk'.new _).put hk'.le _
            by_cases b1 : f < 0
            · have hv := fin8 (by simp [badArc, b1])
              repeat (first | (with_reducible first | apply x_seq | apply x_block | apply x_region | apply x_exit | apply x_ret | apply x_skip | apply t_normal | apply t_exit | apply t_ret | apply b_normal | apply b_ret | apply b_same | apply ops_nil | apply g_T | apply g_F | apply c_T | apply c_F) | (with_reducible refine b_other (by decide) ?_) | ((with_reducible apply x_draws); (with_reducible apply d_pure); (next => kernel_rfl)) | ((with_reducible first | apply ops_d | apply ops_g | apply x_c); (next => simp only [rop, opd, celsL, oneV, aadd, binV, isSh, intBin, scEq, keq, unV, fillL, oP, oA, oS, wantedA, BX, BL, BS, seval, *]; with_reducible exact rfl)))
              refine ⟨.inr rfl, _, rfl, ?_, (by first | exact Keeps.refl h | exact (Keeps.refl h).new _ | exact hkk | exact hk | exact hk')⟩
              simp only [resOf, rop, opd, celsL, oneV, aadd, binV, isSh, intBin, scEq, keq, unV, fillL, oP, oA, oS, wantedA, BX, BL, BS, seval, hv]
            by_cases b2 : f > t
            · have hv := fin8 (by simp [badArc, b2])
              repeat (first | (with_reducible first | apply x_seq | apply x_block | apply x_region | apply x_exit | apply x_ret | apply x_skip | apply t_normal | apply t_exit | apply t_ret | apply b_normal | apply b_ret | apply b_same | apply ops_nil | apply g_T | apply g_F | apply c_T | apply c_F) | (with_reducible refine b_other (by decide) ?_) | ((with_reducible apply x_draws); (with_reducible apply d_pure); (next => kernel_rfl)) | ((with_reducible first | apply ops_d | apply ops_g | apply x_c); (next => simp only [rop, opd, celsL, oneV, aadd, binV, isSh, intBin, scEq, keq, unV, fillL, oP, oA, oS, wantedA, BX, BL, BS, seval, *]; with_reducible exact rfl)))
              refine ⟨.inr rfl, _, rfl, ?_, (by first | exact Keeps.refl h | exact (Keeps.refl h).new _ | exact hkk | exact hk | exact hk')⟩
              simp only [resOf, rop, opd, celsL, oneV, aadd, binV, isSh, intBin, scEq, keq, unV, fillL, oP, oA, oS, wantedA, BX, BL, BS, seval, hv]
            by_cases b3 : t > 1114111
            · have hv := fin8 (by simp [badArc, b3])
              repeat (first | (with_reducible first | apply x_seq | apply x_block | apply x_region | apply x_exit | apply x_ret | apply x_skip | apply t_normal | apply t_exit | apply t_ret | apply b_normal | apply b_ret | apply b_same | apply ops_nil | apply g_T | apply g_F | apply c_T | apply c_F) | (with_reducible refine b_other (by decide) ?_) | ((with_reducible apply x_draws); (with_reducible apply d_pure); (next => kernel_rfl)) | ((with_reducible first | apply ops_d | apply ops_g | apply x_c); (next => simp only [rop, opd, celsL, oneV, aadd, binV, isSh, intBin, scEq, keq, unV, fillL, oP, oA, oS, wantedA, BX, BL, BS, seval, *]; with_reducible exact rfl)))
              refine ⟨.inr rfl, _, rfl, ?_, (by first | exact Keeps.refl h | exact (Keeps.refl h).new _ | exact hkk | exact hk | exact hk')⟩
              simp only [resOf, rop, opd, celsL, oneV, aadd, binV, isSh, intBin, scEq, keq, unV, fillL, oP, oA, oS, wantedA, BX, BL, BS, seval, hv]
            by_cases b4 : s < 0
            · have hv := fin8 (by simp [badArc, b4])
              repeat (first | (with_reducible first | apply x_seq | apply x_block | apply x_region | apply x_exit | apply x_ret | apply x_skip | apply t_normal | apply t_exit | apply t_ret | apply b_normal | apply b_ret | apply b_same | apply ops_nil | apply g_T | apply g_F | apply c_T | apply c_F) | (with_reducible refine b_other (by decide) ?_) | ((with_reducible apply x_draws); (with_reducible apply d_pure); (next => kernel_rfl)) | ((with_reducible first | apply ops_d | apply ops_g | apply x_c); (next => simp only [rop, opd, celsL, oneV, aadd, binV, isSh, intBin, scEq, keq, unV, fillL, oP, oA, oS, wantedA, BX, BL, BS, seval, *]; with_reducible exact rfl)))
              refine ⟨.inr rfl, _, rfl, ?_, (by first | exact Keeps.refl h | exact (Keeps.refl h).new _ | exact hkk | exact hk | exact hk')⟩
              simp only [resOf, rop, opd, celsL, oneV, aadd, binV, isSh, intBin, scEq, keq, unV, fillL, oP, oA, oS, wantedA, BX, BL, BS, seval, hv]
            by_cases b5 : s ≥ (A.fin.length : Int)
            · have hv := fin8 (by simp [badArc, b5])
              repeat (first | (with_reducible first | apply x_seq | apply x_block | apply x_region | apply x_exit | apply x_ret | apply x_skip | apply t_normal | apply t_exit | apply t_ret | apply b_normal | apply b_ret | apply b_same | apply ops_nil | apply g_T | apply g_F | apply c_T | apply c_F) | (with_reducible refine b_other (by decide) ?_) | ((with_reducible apply x_draws); (with_reducible apply d_pure); (next => kernel_rfl)) | ((with_reducible first | apply ops_d | apply ops_g | apply x_c); (next => simp only [rop, opd, celsL, oneV, aadd, binV, isSh, intBin, scEq, keq, unV, fillL, oP, oA, oS, wantedA, BX, BL, BS, seval, *]; with_reducible exact rfl)))
              refine ⟨.inr rfl, _, rfl, ?_, (by first | exact Keeps.refl h | exact (Keeps.refl h).new _ | exact hkk | exact hk | exact hk')⟩
              simp only [resOf, rop, opd, celsL, oneV, aadd, binV, isSh, intBin, scEq, keq, unV, fillL, oP, oA, oS, wantedA, BX, BL, BS, seval, hv]
            have hbad : badArc A.fin.length (f, t, s) = false := by simp [badArc, b1, b2, b3, b4, b5]
            have hw1 : IntKind.i64.wrap ((j : Int) + 1) = ((j + 1 : Nat) : Int) := by have := hb l (List.mem_of_getElem? hll); exact wrap_i64 (by omega) (by omega)
            by_cases hj0 : (j : Int) > 0
            · have hwj : IntKind.i64.wrap ((j : Int) - 1) = ((j - 1 : Nat) : Int) := by have := hb l (List.mem_of_getElem? hll); rw [show ((j - 1 : Nat) : Int) = (j : Int) - 1 by omega]; exact wrap_i64 (by omega) (by omega)
              obtain ⟨⟨f', t', s'⟩, hpl⟩ : ∃ p, l[j - 1]? = some p := ⟨_, List.getElem?_eq_getElem (show j - 1 < l.length by omega)⟩
              have hprev : prevArc l j = some (f', t', s') := by unfold prevArc; rw [if_neg (by omega), hpl]
              have hxp : (l.map arcV)[j - 1]? = some (arcV (f', t', s')) := by simp [hpl]
              obtain ⟨b', hb1', _, hb3'⟩ := (hs.keeps hkk).at hxp
              have hp1 := (hb3' 1 (.int .i32 t') rfl).1
              have hp2 := (hb3' 2 (.int .i64 s') rfl).1
              simp only [aadd] at hp1 hp2
              have fin6 : chkFrom A.fin.length (some (f', t', s')) ((f, t, s) :: l.drop (j + 1)) = some 6 → validate A = 6 := fun hr => by
                have := chkAll_hit hll hc (c := 6) (by rw [chkFrom_hit hxl hc', hprev]; exact hr)
                unfold validate; rw [if_neg h1n, if_neg (by have := hn.out; omega), this]; rfl
              clear hb3' hxp hpl
              by_cases b6 : f ≤ t'
              · have hv := fin6 (by simp [chkFrom, hbad, b6])
                repeat (first | (with_reducible first | apply x_seq | apply x_block | apply x_region | apply x_exit | apply x_ret | apply x_skip | apply t_normal | apply t_exit | apply t_ret | apply b_normal | apply b_ret | apply b_same | apply ops_nil | apply g_T | apply g_F | apply c_T | apply c_F) | (with_reducible refine b_other (by decide) ?_) | ((with_reducible apply x_draws); (with_reducible apply d_pure); (next => kernel_rfl)) | ((with_reducible first | apply ops_d | apply ops_g | apply x_c); (next => simp only [rop, opd, celsL, oneV, aadd, binV, isSh, intBin, scEq, keq, unV, fillL, oP, oA, oS, wantedA, BX, BL, BS, seval, *]; with_reducible exact rfl)))
                refine ⟨.inr rfl, _, rfl, ?_, (by first | exact Keeps.refl h | exact (Keeps.refl h).new _ | exact hkk | exact hk | exact hk')⟩
                simp only [resOf, rop, opd, celsL, oneV, aadd, binV, isSh, intBin, scEq, keq, unV, fillL, oP, oA, oS, wantedA, BX, BL, BS, seval, hv]
              · by_cases b7 : f = IntKind.i32.wrap (t' + 1)
                · have b7' : decide (f = IntKind.i32.wrap (t' + 1)) = true := decide_eq_true b7
                  by_cases b8 : s = s'
                  · have hv := fin6 (by simp only [chkFrom, hbad, Bool.false_eq_true, if_false, b6]; rw [if_pos ⟨b7, b8⟩])
                    clear fin6 b7
                    subst b8
                    repeat (first | (with_reducible first | apply x_seq | apply x_block | apply x_region | apply x_exit | apply x_ret | apply x_skip | apply t_normal | apply t_exit | apply t_ret | apply b_normal | apply b_ret | apply b_same | apply ops_nil | apply g_T | apply g_F | apply c_T | apply c_F) | (with_reducible refine b_other (by decide) ?_) | ((with_reducible apply x_draws); (with_reducible apply d_pure); (next => kernel_rfl)) | ((with_reducible first | apply ops_d | apply ops_g | apply x_c); (next => simp only [rop, opd, celsL, oneV, aadd, binV, isSh, intBin, scEq, keq, unV, fillL, oP, oA, oS, wantedA, BX, BL, BS, seval, *]; with_reducible exact rfl)))
                    refine ⟨.inr rfl, _, rfl, ?_, (by first | exact Keeps.refl h | exact (Keeps.refl h).new _ | exact hkk | exact hk | exact hk')⟩
                    simp only [resOf, rop, opd, celsL, oneV, aadd, binV, isSh, intBin, scEq, keq, unV, fillL, oP, oA, oS, wantedA, BX, BL, BS, seval, hv]
                  · have hnext : chkFrom A.fin.length none (l.take (j + 1)) = none := by rw [chkFrom_next hxl hc', hprev]; simp only [chkFrom, hbad, Bool.false_eq_true, if_false, b6]; rw [if_neg (fun h => b8 h.2)]
                    clear fin6 b7
                    repeat (first | (with_reducible first | apply x_seq | apply x_block | apply x_region | apply x_exit | apply x_ret | apply x_skip | apply t_normal | apply t_exit | apply t_ret | apply b_normal | apply b_ret | apply b_same | apply ops_nil | apply g_T | apply g_F | apply c_T | apply c_F) | (with_reducible refine b_other (by decide) ?_) | ((with_reducible apply x_draws); (with_reducible apply d_pure); (next => kernel_rfl)) | ((with_reducible first | apply ops_d | apply ops_g | apply x_c); (next => simp only [rop, opd, celsL, oneV, aadd, binV, isSh, intBin, scEq, keq, unV, fillL, oP, oA, oS, wantedA, BX, BL, BS, seval, *]; with_reducible exact rfl)))
                    refine ⟨l.length - (j + 1), by omega, j + 1, by omega, rfl, ?_⟩
                    simp only [rop, opd, celsL, oneV, aadd, binV, isSh, intBin, scEq, keq, unV, fillL, oP, oA, oS, wantedA, BX, BL, BS, seval, and_self, *]
                · have hnext : chkFrom A.fin.length none (l.take (j + 1)) = none := by rw [chkFrom_next hxl hc', hprev]; simp only [chkFrom, hbad, Bool.false_eq_true, if_false, b6]; rw [if_neg (fun h => b7 h.1)]
                  clear fin6
                  repeat (first | (with_reducible first | apply x_seq | apply x_block | apply x_region | apply x_exit | apply x_ret | apply x_skip | apply t_normal | apply t_exit | apply t_ret | apply b_normal | apply b_ret | apply b_same | apply ops_nil | apply g_T | apply g_F | apply c_T | apply c_F) | (with_reducible refine b_other (by decide) ?_) | ((with_reducible apply x_draws); (with_reducible apply d_pure); (next => kernel_rfl)) | ((with_reducible first | apply ops_d | apply ops_g | apply x_c); (next => simp only [rop, opd, celsL, oneV, aadd, binV, isSh, intBin, scEq, keq, unV, fillL, oP, oA, oS, wantedA, BX, BL, BS, seval, *]; with_reducible exact rfl)))
                  refine ⟨l.length - (j + 1), by omega, j + 1, by omega, rfl, ?_⟩
                  simp only [rop, opd, celsL, oneV, aadd, binV, isSh, intBin, scEq, keq, unV, fillL, oP, oA, oS, wantedA, BX, BL, BS, seval, and_self, *]
            · have hj00 : j = 0 := by omega
              have hprev : prevArc l j = none := by unfold prevArc; rw [if_pos hj00]
              have hnext : chkFrom A.fin.length none (l.take (j + 1)) = none := by rw [chkFrom_next hxl hc', hprev]; simp [chkFrom, hbad]
              clear hj00
              repeat (first | (with_reducible first | apply x_seq | apply x_block | apply x_region | apply x_exit | apply x_ret | apply x_skip | apply t_normal | apply t_exit | apply t_ret | apply b_normal | apply b_ret | apply b_same | apply ops_nil | apply g_T | apply g_F | apply c_T | apply c_F) | (with_reducible refine b_other (by decide) ?_) | ((with_reducible apply x_draws); (with_reducible apply d_pure); (next => kernel_rfl)) | ((with_reducible first | apply ops_d | apply ops_g | apply x_c); (next => simp only [rop, opd, celsL, oneV, aadd, binV, isSh, intBin, scEq, keq, unV, fillL, oP, oA, oS, wantedA, BX, BL, BS, seval, *]; with_reducible exact rfl)))
              refine ⟨l.length - (j + 1), by omega, j + 1, by omega, rfl, ?_⟩
              simp only [rop, opd, celsL, oneV, aadd, binV, isSh, intBin, scEq, keq, unV, fillL, oP, oA, oS, wantedA, BX, BL, BS, seval, and_self, *]
          · have hjlI : ¬ (j : Int) < l.length := by omega
            have hnext : chkAll A.fin.length (A.arcs.take (i + 1)) = none := chkAll_next hll hc (by rw [← hc', List.take_of_length_le (by omega)])
            have hw1 : IntKind.i64.wrap ((i : Int) + 1) = ((i + 1 : Nat) : Int) := wrap_i64 (by omega) (by omega)
            repeat (first | (with_reducible first | apply x_seq | apply x_block | apply x_region | apply x_exit | apply x_ret | apply x_skip | apply t_normal | apply t_exit | apply t_ret | apply b_normal | apply b_ret | apply b_same | apply ops_nil | apply g_T | apply g_F | apply c_T | apply c_F) | (with_reducible refine b_other (by decide) ?_) | ((with_reducible apply x_draws); (with_reducible apply d_pure); (next => kernel_rfl)) | ((with_reducible first | apply ops_d | apply ops_g | apply x_c); (next => simp only [rop, opd, celsL, oneV, aadd, binV, isSh, intBin, scEq, keq, unV, fillL, oP, oA, oS, wantedA, BX, BL, BS, seval, *]; with_reducible exact rfl)))
            refine ⟨A.fin.length - (i + 1), by omega, i + 1, by omega, rfl, ?_⟩
            simp only [rop, opd, celsL, oneV, aadd, binV, isSh, intBin, scEq, keq, unV, fillL, oP, oA, oS, wantedA, BX, BL, BS, seval, and_self, *]
        · have hltI : ¬ (i : Int) < A.fin.length := by omega
          have hv : validate A = 0 := by
            unfold validate; rw [if_neg h1n, if_neg (by have := hn.out; omega)]
            rw [List.take_of_length_le (by have := hn.out; omega)] at hc
            rw [hc]; rfl
          repeat (first | (with_reducible first | apply x_seq | apply x_block | apply x_region | apply x_exit | apply x_ret | apply x_skip | apply t_normal | apply t_exit | apply t_ret | apply b_normal | apply b_ret | apply b_same | apply ops_nil | apply g_T | apply g_F | apply c_T | apply c_F) | (with_reducible refine b_other (by decide) ?_) | ((with_reducible apply x_draws); (with_reducible apply d_pure); (next => kernel_rfl)) | ((with_reducible first | apply ops_d | apply ops_g | apply x_c); (next => simp only [rop, opd, celsL, oneV, aadd, binV, isSh, intBin, scEq, keq, unV, fillL, oP, oA, oS, wantedA, BX, BL, BS, seval, *]; with_reducible exact rfl)))
          refine ⟨.inr rfl, _, rfl, ?_, (by first | exact Keeps.refl h | exact (Keeps.refl h).new _ | exact hkk | exact hk | exact hk')⟩
          simp only [resOf, rop, opd, celsL, oneV, aadd, binV, isSh, intBin, scEq, keq, unV, fillL, oP, oA, oS, wantedA, BX, BL, BS, seval, hv]
      · subst hfs has
        repeat (first | (with_reducible first | apply x_seq | apply x_block | apply x_region | apply x_exit | apply x_ret | apply x_skip | apply t_normal | apply t_exit | apply t_ret | apply b_normal | apply b_ret | apply b_same | apply ops_nil | apply g_T | apply g_F | apply c_T | apply c_F) | (with_reducible refine b_other (by decide) ?_) | ((with_reducible apply x_draws); (with_reducible apply d_pure); (next => kernel_rfl)) | ((with_reducible first | apply ops_d | apply ops_g | apply x_c); (next => simp only [rop, opd, celsL, oneV, aadd, binV, isSh, intBin, scEq, keq, unV, fillL, oP, oA, oS, wantedA, BX, BL, BS, seval, *]; with_reducible exact rfl)))
        refine ⟨.inr rfl, _, rfl, ?_, (by first | exact Keeps.refl h | exact (Keeps.refl h).new _ | exact hkk | exact hk | exact hk')⟩
        simp only [resOf, eget_eput, rop, opd, celsL, oneV, aadd, binV, isSh, intBin, scEq, keq, unV, fillL, oP, oA, oS, wantedA, BX, BL, BS, seval]
        unfold validate
        rw [if_neg h1n, if_pos (.inr (by omega))]
end Go.Proofs.YtlipmjpapkfaeaaGreatDoor.Fn
end
section
set_option linter.unusedSimpArgs false
set_option linter.unusedVariables false
set_option maxRecDepth 100000
namespace Go.Proofs.YtlipmjpapkfaeaaGreatDoor.Fn
open Go Go.Mach Go.RowKit
attribute [local irreducible] AOps WPX DOps thenS blockS AOp GOps CPick

def nextA (l : List Arc3) (c : Int) : Int := match l.find? (fun x => decide (x.1 ≤ c) && decide (c ≤ x.2.1)) with
  | some x => x.2.2
  | none => -1

theorem envOf3 (v u x : Value) : envOf 0 [v, u, x] .lf = eput (eput (eput .lf (some 0) v) (some 1) u) (some 2) x := rfl

def cmpI (a b : Int) : Int := if a < b then -1 else if a > b then 1 else 0

set_option maxHeartbeats 4000000 in
theorem f112_ok (W : World) (h : AHeap) (a : Int) : ACalls Tryz.prog W 112 [.int .i32 a] h (fun r h' => r = .bool false ∧ h' = h) := by
  refine ACalls_ofX hmix c112 (Nat.le_of_ble_eq_true rfl) ?_
  unfold r112
  simp only [envOf1]
  repeat (first | (with_reducible first | apply x_seq | apply x_block | apply x_region | apply x_exit | apply x_ret | apply x_skip | apply t_normal | apply t_exit | apply t_ret | apply b_normal | apply b_ret | apply b_same | apply ops_nil | apply g_T | apply g_F | apply c_T | apply c_F) | (with_reducible refine b_other (by decide) ?_) | ((with_reducible apply x_draws); (with_reducible apply d_pure); (next => kernel_rfl)) | ((with_reducible first | apply ops_d | apply ops_g | apply x_c); (next => simp only [rop, opd, celsL, oneV, aadd, binV, isSh, intBin, scEq, keq, unV, fillL, oP, oA, oS, wantedA, BX, BL, BS, seval, *]; with_reducible exact rfl)))
  refine ⟨.inr rfl, _, rfl, ?_, rfl⟩
  simp only [resOf, rop, opd, celsL, oneV, aadd, binV, isSh, intBin, scEq, keq, unV, fillL, oP, oA, oS, wantedA, BX, BL, BS, seval]

set_option maxHeartbeats 4000000 in
theorem f76_ok (W : World) (h : AHeap) (a b : Int) : ACalls Tryz.prog W 76 [.int .i32 a, .int .i32 b] h (fun r h' => r = .int .i64 (cmpI a b) ∧ h' = h) := by
  refine ACalls_ofX hmix c76 (Nat.le_of_ble_eq_true rfl) ?_
  unfold r76
  simp only [envOf2]
  repeat (first | (with_reducible first | apply x_seq | apply x_block | apply x_region | apply x_exit | apply x_ret | apply x_skip | apply t_normal | apply t_exit | apply t_ret | apply b_normal | apply b_ret | apply b_same | apply ops_nil | apply g_T | apply g_F | apply c_T | apply c_F) | (with_reducible refine b_other (by decide) ?_) | ((with_reducible apply x_draws); (with_reducible apply d_pure); (next => kernel_rfl)) | ((with_reducible first | apply ops_d | apply ops_g | apply x_c); (next => simp only [rop, opd, celsL, oneV, aadd, binV, isSh, intBin, scEq, keq, unV, fillL, oP, oA, oS, wantedA, BX, BL, BS, seval, *]; with_reducible exact rfl)))
  refine ops_call rfl rfl (fid := 112) (cap := #[]) (R := fun r h' => r = .bool false ∧ h' = h) ?hc ?hK
  case hc =>
    simp only [List.map_cons, List.map_nil, List.append_nil, rop, opd, celsL, oneV, aadd, binV, isSh, intBin, scEq, keq, unV, fillL, oP, oA, oS, wantedA, BX, BL, BS, seval]
    exact f112_ok W h a
  rintro r1 h1 ⟨rfl, rfl⟩
  repeat (first | (with_reducible first | apply x_seq | apply x_block | apply x_region | apply x_exit | apply x_ret | apply x_skip | apply t_normal | apply t_exit | apply t_ret | apply b_normal | apply b_ret | apply b_same | apply ops_nil | apply g_T | apply g_F | apply c_T | apply c_F) | (with_reducible refine b_other (by decide) ?_) | ((with_reducible apply x_draws); (with_reducible apply d_pure); (next => kernel_rfl)) | ((with_reducible first | apply ops_d | apply ops_g | apply x_c); (next => simp only [rop, opd, celsL, oneV, aadd, binV, isSh, intBin, scEq, keq, unV, fillL, oP, oA, oS, wantedA, BX, BL, BS, seval, *]; with_reducible exact rfl)))
  refine ops_call rfl rfl (fid := 112) (cap := #[]) (R := fun r h' => r = .bool false ∧ h' = h1) ?hc2 ?hK2
  case hc2 =>
    simp only [List.map_cons, List.map_nil, List.append_nil, rop, opd, celsL, oneV, aadd, binV, isSh, intBin, scEq, keq, unV, fillL, oP, oA, oS, wantedA, BX, BL, BS, seval]
    exact f112_ok W h1 b
  rintro r2 h2 ⟨rfl, rfl⟩
  by_cases hab : a < b
  · have hv : cmpI a b = -1 := by simp [cmpI, hab]
    repeat (first | (with_reducible first | apply x_seq | apply x_block | apply x_region | apply x_exit | apply x_ret | apply x_skip | apply t_normal | apply t_exit | apply t_ret | apply b_normal | apply b_ret | apply b_same | apply ops_nil | apply g_T | apply g_F | apply c_T | apply c_F) | (with_reducible refine b_other (by decide) ?_) | ((with_reducible apply x_draws); (with_reducible apply d_pure); (next => kernel_rfl)) | ((with_reducible first | apply ops_d | apply ops_g | apply x_c); (next => simp only [rop, opd, celsL, oneV, aadd, binV, isSh, intBin, scEq, keq, unV, fillL, oP, oA, oS, wantedA, BX, BL, BS, seval, *]; with_reducible exact rfl)))
    refine ⟨.inr rfl, _, rfl, ?_, rfl⟩
    simp only [resOf, rop, opd, celsL, oneV, aadd, binV, isSh, intBin, scEq, keq, unV, fillL, oP, oA, oS, wantedA, BX, BL, BS, seval, hv]
  · by_cases hba : a > b
    · have hv : cmpI a b = 1 := by simp [cmpI, hab, hba]
      repeat (first | (with_reducible first | apply x_seq | apply x_block | apply x_region | apply x_exit | apply x_ret | apply x_skip | apply t_normal | apply t_exit | apply t_ret | apply b_normal | apply b_ret | apply b_same | apply ops_nil | apply g_T | apply g_F | apply c_T | apply c_F) | (with_reducible refine b_other (by decide) ?_) | ((with_reducible apply x_draws); (with_reducible apply d_pure); (next => kernel_rfl)) | ((with_reducible first | apply ops_d | apply ops_g | apply x_c); (next => simp only [rop, opd, celsL, oneV, aadd, binV, isSh, intBin, scEq, keq, unV, fillL, oP, oA, oS, wantedA, BX, BL, BS, seval, *]; with_reducible exact rfl)))
      refine ⟨.inr rfl, _, rfl, ?_, rfl⟩
      simp only [resOf, rop, opd, celsL, oneV, aadd, binV, isSh, intBin, scEq, keq, unV, fillL, oP, oA, oS, wantedA, BX, BL, BS, seval, hv]
    · have hv : cmpI a b = 0 := by simp [cmpI, hab, hba]
      repeat (first | (with_reducible first | apply x_seq | apply x_block | apply x_region | apply x_exit | apply x_ret | apply x_skip | apply t_normal | apply t_exit | apply t_ret | apply b_normal | apply b_ret | apply b_same | apply ops_nil | apply g_T | apply g_F | apply c_T | apply c_F) | (with_reducible refine b_other (by decide) ?_) | ((with_reducible apply x_draws); (with_reducible apply d_pure); (next => kernel_rfl)) | ((with_reducible first | apply ops_d | apply ops_g | apply x_c); (next => simp only [rop, opd, celsL, oneV, aadd, binV, isSh, intBin, scEq, keq, unV, fillL, oP, oA, oS, wantedA, BX, BL, BS, seval, *]; with_reducible exact rfl)))
      refine ⟨.inr rfl, _, rfl, ?_, rfl⟩
      simp only [resOf, rop, opd, celsL, oneV, aadd, binV, isSh, intBin, scEq, keq, unV, fillL, oP, oA, oS, wantedA, BX, BL, BS, seval, hv]

set_option maxHeartbeats 4000000 in
theorem f75_ok (W : World) (h : AHeap) (x : Arc3) (c : Int) : ACalls Tryz.prog W 75 [.agg (arcV x).toArray, .int .i32 c] h (fun r h' => r = .int .i64 (cmpI x.2.1 c) ∧ Keeps h h') := by
  obtain ⟨f, t, s⟩ := x
  refine ACalls_ofX hmix c75 (Nat.le_of_ble_eq_true rfl) ?_
  unfold r75
  simp only [envOf2, arcV]
  repeat (first | (with_reducible first | apply x_seq | apply x_block | apply x_region | apply x_exit | apply x_ret | apply x_skip | apply t_normal | apply t_exit | apply t_ret | apply b_normal | apply b_ret | apply b_same | apply ops_nil | apply g_T | apply g_F | apply c_T | apply c_F) | (with_reducible refine b_other (by decide) ?_) | ((with_reducible apply x_draws); (with_reducible apply d_pure); (next => kernel_rfl)) | ((with_reducible first | apply ops_d | apply ops_g | apply x_c); (next => simp only [rop, opd, celsL, oneV, aadd, binV, isSh, intBin, scEq, keq, unV, fillL, oP, oA, oS, wantedA, BX, BL, BS, seval, *]; with_reducible exact rfl)))
  refine ops_call rfl rfl (fid := 76) (cap := #[]) (R := fun r h' => r = .int .i64 (cmpI t c) ∧ Keeps h h') ?hc ?hK
  case hc =>
    simp only [List.map_cons, List.map_nil, List.append_nil, rop, opd, celsL, oneV, aadd, binV, isSh, intBin, scEq, keq, unV, fillL, oP, oA, oS, wantedA, BX, BL, BS, seval]
    exact (f76_ok W _ t c).mono fun v h' ⟨h1, h2⟩ => ⟨h1, by rw [h2]; exact (Keeps.refl h).new _⟩
  rintro r1 h1 ⟨rfl, hk⟩
  repeat (first | (with_reducible first | apply x_seq | apply x_block | apply x_region | apply x_exit | apply x_ret | apply x_skip | apply t_normal | apply t_exit | apply t_ret | apply b_normal | apply b_ret | apply b_same | apply ops_nil | apply g_T | apply g_F | apply c_T | apply c_F) | (with_reducible refine b_other (by decide) ?_) | ((with_reducible apply x_draws); (with_reducible apply d_pure); (next => kernel_rfl)) | ((with_reducible first | apply ops_d | apply ops_g | apply x_c); (next => simp only [rop, opd, celsL, oneV, aadd, binV, isSh, intBin, scEq, keq, unV, fillL, oP, oA, oS, wantedA, BX, BL, BS, seval, *]; with_reducible exact rfl)))
  refine ⟨.inr rfl, _, rfl, ?_, hk⟩
  simp only [resOf, rop, opd, celsL, oneV, aadd, binV, isSh, intBin, scEq, keq, unV, fillL, oP, oA, oS, wantedA, BX, BL, BS, seval]

theorem wrap_u64 {x : Int} (h1 : 0 ≤ x) (h2 : x < 18446744073709551616) : IntKind.u64.wrap x = x := by
  have e1 : ((2 : Int) ^ IntKind.u64.bits) = 18446744073709551616 := by decide
  simp only [IntKind.wrap, e1, IntKind.signed, Bool.false_and, Bool.false_eq_true, if_false]
  omega

def LoB (l : List Arc3) (c : Int) (i : Nat) : Prop := i = 0 ∨ ∃ x, l[i - 1]? = some x ∧ x.2.1 < c
def HiB (l : List Arc3) (c : Int) (i : Nat) : Prop := i = l.length ∨ ∃ x, l[i]? = some x ∧ c ≤ x.2.1
/-- What a binary search finds: the first arc whose end is not below. -/
def Found (l : List Arc3) (c : Int) (i : Nat) : Prop := i ≤ l.length ∧ LoB l c i ∧ HiB l c i


set_option maxHeartbeats 4000000 in
theorem f74_ok (W : World) (h : AHeap) (v : Value) (l : List Arc3) (c : Int) (hs : Sl W h 3 v (l.map arcV)) (hb : l.length < 1073741824) :
    ACalls Tryz.prog W 74 [v, .int .i32 c, .func (.func 75) #[] #[]] h (fun r h' => (∃ i b, Found l c i ∧ r = .tuple #[.int .i64 (i : Nat), .bool b]) ∧ Keeps h h') := by
  obtain ⟨la, lc, hls⟩ := hs.len
  rw [List.length_map] at hls
  subst hls
  refine ACalls_ofX hmix c74 (Nat.le_of_ble_eq_true rfl) ?_
  unfold r74
  simp only [envOf3]
  repeat (first | (with_reducible first | apply x_seq | apply x_block | apply x_region | apply x_exit | apply x_ret | apply x_skip | apply t_normal | apply t_exit | apply t_ret | apply b_normal | apply b_ret | apply b_same | apply ops_nil | apply g_T | apply g_F | apply c_T | apply c_F) | (with_reducible refine b_other (by decide) ?_) | ((with_reducible apply x_draws); (with_reducible apply d_pure); (next => kernel_rfl)) | ((with_reducible first | apply ops_d | apply ops_g | apply x_c); (next => simp only [rop, opd, celsL, oneV, aadd, binV, isSh, intBin, scEq, keq, unV, fillL, oP, oA, oS, wantedA, BX, BL, BS, seval, *]; with_reducible exact rfl)))
  refine WPX.loop hmix (fun k σ => ∃ i j, i ≤ j ∧ j ≤ l.length ∧ k = j - i ∧ eget σ.e 0 = .slice la l.length lc ∧ eget σ.e 1 = .int .i32 c ∧ eget σ.e 2 = .func (.func 75) #[] #[] ∧ eget σ.e 8 = .int .i64 l.length ∧ eget σ.e 9 = .int .i64 (i : Nat) ∧ eget σ.e 10 = .int .i64 (j : Nat) ∧ Keeps h σ.h ∧ LoB l c i ∧ HiB l c j) l.length ?h0 ?round
  case h0 => exact ⟨0, l.length, Nat.zero_le _, Nat.le_refl _, rfl, (by simp only [rop, opd, celsL, oneV, aadd, binV, isSh, intBin, scEq, keq, unV, fillL, oP, oA, oS, wantedA, BX, BL, BS, seval, *]), (by simp only [rop, opd, celsL, oneV, aadd, binV, isSh, intBin, scEq, keq, unV, fillL, oP, oA, oS, wantedA, BX, BL, BS, seval, *]), (by simp only [rop, opd, celsL, oneV, aadd, binV, isSh, intBin, scEq, keq, unV, fillL, oP, oA, oS, wantedA, BX, BL, BS, seval, *]), (by simp only [rop, opd, celsL, oneV, aadd, binV, isSh, intBin, scEq, keq, unV, fillL, oP, oA, oS, wantedA, BX, BL, BS, seval, *]), (by simp only [rop, opd, celsL, oneV, aadd, binV, isSh, intBin, scEq, keq, unV, fillL, oP, oA, oS, wantedA, BX, BL, BS, seval, *]), (by simp only [rop, opd, celsL, oneV, aadd, binV, isSh, intBin, scEq, keq, unV, fillL, oP, oA, oS, wantedA, BX, BL, BS, seval, *]), Keeps.refl h, .inl rfl, .inl rfl⟩
  rintro k ⟨e, hh⟩ ⟨i, j, hij, hj, rfl, e0, e1, e2, e8, e9, e10, hk, hI⟩
  dsimp only at e0 e1 e2 e8 e9 e10 hk
  by_cases hlt : i < j
  · have hltI : (i : Int) < j := by omega
    obtain ⟨m, hm⟩ : ∃ m, m = (i + j) / 2 := ⟨_, rfl⟩
    have hml : m < l.length := by omega
    have him : i ≤ m := by omega
    have hmj : m < j := by omega
    have hw1 : IntKind.i64.wrap ((i : Int) + j) = ((i + j : Nat) : Int) := wrap_i64 (by omega) (by omega)
    have hw2 : IntKind.u64.wrap ((i + j : Nat) : Int) = ((i + j : Nat) : Int) := wrap_u64 (by omega) (by omega)
    have hsh : intSh .shr .u64 ((i + j : Nat) : Int) 1 = some (.int .u64 (m : Int)) := by
      show some (Value.int .u64 (((i + j : Nat) : Int).fdiv 2)) = _
      rw [Int.fdiv_eq_ediv_of_nonneg _ (by omega)]
      congr 2
      omega
    clear hm
    have hw3 : IntKind.i64.wrap (m : Int) = (m : Int) := wrap_i64 (by omega) (by omega)
    have hw4 : IntKind.i64.wrap ((m : Int) + 1) = ((m + 1 : Nat) : Int) := wrap_i64 (by omega) (by omega)
    obtain ⟨⟨f, t, s⟩, hx⟩ : ∃ x, l[m]? = some x := ⟨_, List.getElem?_eq_getElem hml⟩
    have hxm : (l.map arcV)[m]? = some (arcV (f, t, s)) := by simp [hx]
    obtain ⟨a, ha1, _, ha3⟩ := (hs.keeps hk).at hxm
    have hld := aloadN_of _ _ ha3
    simp only [arcV, List.length_cons, List.length_nil, Nat.reduceAdd] at hld
    have h75 := f75_ok W hh (f, t, s) c
    clear hxm ha3
    repeat (first | (with_reducible first | apply x_seq | apply x_block | apply x_region | apply x_exit | apply x_ret | apply x_skip | apply t_normal | apply t_exit | apply t_ret | apply b_normal | apply b_ret | apply b_same | apply ops_nil | apply g_T | apply g_F | apply c_T | apply c_F) | (with_reducible refine b_other (by decide) ?_) | ((with_reducible apply x_draws); (with_reducible apply d_pure); (next => kernel_rfl)) | ((with_reducible first | apply ops_d | apply ops_g | apply x_c); (next => simp only [rop, opd, celsL, oneV, aadd, binV, isSh, intBin, scEq, keq, unV, fillL, oP, oA, oS, wantedA, BX, BL, BS, seval, *]; with_reducible exact rfl)))
    refine ops_call rfl ?hf (fid := 75) (cap := #[]) (R := fun r h' => r = .int .i64 (cmpI t c) ∧ Keeps hh h') ?hc ?hK
    case hf => simp only [rop, opd, celsL, oneV, aadd, binV, isSh, intBin, scEq, keq, unV, fillL, oP, oA, oS, wantedA, BX, BL, BS, seval, *]
    case hc =>
      simp only [List.map_cons, List.map_nil, List.append_nil, rop, opd, celsL, oneV, aadd, binV, isSh, intBin, scEq, keq, unV, fillL, oP, oA, oS, wantedA, BX, BL, BS, seval, e1]
      exact h75
    rintro r1 h1 ⟨rfl, hk1⟩
    clear h75
    have hk2 : Keeps h h1 := hk.trans hk1
    by_cases htc : t < c
    · have hcm : cmpI t c = -1 := by simp [cmpI, htc]
      repeat (first | (with_reducible first | apply x_seq | apply x_block | apply x_region | apply x_exit | apply x_ret | apply x_skip | apply t_normal | apply t_exit | apply t_ret | apply b_normal | apply b_ret | apply b_same | apply ops_nil | apply g_T | apply g_F | apply c_T | apply c_F) | (with_reducible refine b_other (by decide) ?_) | ((with_reducible apply x_draws); (with_reducible apply d_pure); (next => kernel_rfl)) | ((with_reducible first | apply ops_d | apply ops_g | apply x_c); (next => simp only [rop, opd, celsL, oneV, aadd, binV, isSh, intBin, scEq, keq, unV, fillL, oP, oA, oS, wantedA, BX, BL, BS, seval, *]; with_reducible exact rfl)))
      refine ⟨j - (m + 1), by omega, m + 1, j, by omega, by omega, rfl, ?_⟩
      have hg : LoB l c (m + 1) := .inr ⟨_, hx, htc⟩
      (simp only [rop, opd, celsL, oneV, aadd, binV, isSh, intBin, scEq, keq, unV, fillL, oP, oA, oS, wantedA, BX, BL, BS, seval, and_self, *]) <;> trivial
    · have hcm : cmpI t c = 0 ∨ cmpI t c = 1 := by simp only [cmpI, htc, if_false]; split <;> simp
      have hnn : ¬ cmpI t c < 0 := by omega
      clear hcm
      repeat (first | (with_reducible first | apply x_seq | apply x_block | apply x_region | apply x_exit | apply x_ret | apply x_skip | apply t_normal | apply t_exit | apply t_ret | apply b_normal | apply b_ret | apply b_same | apply ops_nil | apply g_T | apply g_F | apply c_T | apply c_F) | (with_reducible refine b_other (by decide) ?_) | ((with_reducible apply x_draws); (with_reducible apply d_pure); (next => kernel_rfl)) | ((with_reducible first | apply ops_d | apply ops_g | apply x_c); (next => simp only [rop, opd, celsL, oneV, aadd, binV, isSh, intBin, scEq, keq, unV, fillL, oP, oA, oS, wantedA, BX, BL, BS, seval, *]; with_reducible exact rfl)))
      refine ⟨m - i, by omega, i, m, by omega, by omega, rfl, ?_⟩
      have hg : HiB l c m := .inr ⟨_, hx, by show c ≤ t; omega⟩
      (simp only [rop, opd, celsL, oneV, aadd, binV, isSh, intBin, scEq, keq, unV, fillL, oP, oA, oS, wantedA, BX, BL, BS, seval, and_self, *]) <;> trivial
  · have hltI : ¬ (i : Int) < j := by omega
    have hij' : i = j := by omega
    have hfd : Found l c i := ⟨by omega, hI.1, by rw [hij']; exact hI.2⟩
    clear hij'
    clear hI
    by_cases hin : i < l.length
    · have hinI : (i : Int) < l.length := by omega
      obtain ⟨⟨f, t, s⟩, hx⟩ : ∃ x, l[i]? = some x := ⟨_, List.getElem?_eq_getElem hin⟩
      have hxm : (l.map arcV)[i]? = some (arcV (f, t, s)) := by simp [hx]
      obtain ⟨a, ha1, _, ha3⟩ := (hs.keeps hk).at hxm
      have hld := aloadN_of _ _ ha3
      simp only [arcV, List.length_cons, List.length_nil, Nat.reduceAdd] at hld
      have h75 := f75_ok W hh (f, t, s) c
      clear hxm ha3 hx
      repeat (first | (with_reducible first | apply x_seq | apply x_block | apply x_region | apply x_exit | apply x_ret | apply x_skip | apply t_normal | apply t_exit | apply t_ret | apply b_normal | apply b_ret | apply b_same | apply ops_nil | apply g_T | apply g_F | apply c_T | apply c_F) | (with_reducible refine b_other (by decide) ?_) | ((with_reducible apply x_draws); (with_reducible apply d_pure); (next => kernel_rfl)) | ((with_reducible first | apply ops_d | apply ops_g | apply x_c); (next => simp only [rop, opd, celsL, oneV, aadd, binV, isSh, intBin, scEq, keq, unV, fillL, oP, oA, oS, wantedA, BX, BL, BS, seval, *]; with_reducible exact rfl)))
      refine ops_call ?hw2 ?hf2 (fid := 75) (cap := #[]) (R := fun r h' => r = .int .i64 (cmpI t c) ∧ Keeps hh h') ?hc2 ?hK2
      case hw2 => simp only [rop, opd, celsL, oneV, aadd, binV, isSh, intBin, scEq, keq, unV, fillL, oP, oA, oS, wantedA, BX, BL, BS, seval, *]
      case hf2 => simp only [rop, opd, celsL, oneV, aadd, binV, isSh, intBin, scEq, keq, unV, fillL, oP, oA, oS, wantedA, BX, BL, BS, seval, *]
      case hc2 =>
        simp only [List.map_cons, List.map_nil, List.append_nil, rop, opd, celsL, oneV, aadd, binV, isSh, intBin, scEq, keq, unV, fillL, oP, oA, oS, wantedA, BX, BL, BS, seval, e1]
        exact h75
      rintro r1 h1 ⟨rfl, hk1⟩
      clear h75
      have hk2 : Keeps h h1 := hk.trans hk1
      repeat (first | (with_reducible first | apply x_seq | apply x_block | apply x_region | apply x_exit | apply x_ret | apply x_skip | apply t_normal | apply t_exit | apply t_ret | apply b_normal | apply b_ret | apply b_same | apply ops_nil | apply g_T | apply g_F | apply c_T | apply c_F) | (with_reducible refine b_other (by decide) ?_) | ((with_reducible apply x_draws); (with_reducible apply d_pure); (next => kernel_rfl)) | ((with_reducible first | apply ops_d | apply ops_g | apply x_c); (next => simp only [rop, opd, celsL, oneV, aadd, binV, isSh, intBin, scEq, keq, unV, fillL, oP, oA, oS, wantedA, BX, BL, BS, seval, *]; with_reducible exact rfl)))
      refine ⟨.inr rfl, _, rfl, ⟨i, decide (cmpI t c = 0), hfd, ?_⟩, hk2⟩
      simp only [resOf, rop, opd, celsL, oneV, aadd, binV, isSh, intBin, scEq, keq, unV, fillL, oP, oA, oS, wantedA, BX, BL, BS, seval]
    · have hinI : ¬ (i : Int) < l.length := by omega
      repeat (first | (with_reducible first | apply x_seq | apply x_block | apply x_region | apply x_exit | apply x_ret | apply x_skip | apply t_normal | apply t_exit | apply t_ret | apply b_normal | apply b_ret | apply b_same | apply ops_nil | apply g_T | apply g_F | apply c_T | apply c_F) | (with_reducible refine b_other (by decide) ?_) | ((with_reducible apply x_draws); (with_reducible apply d_pure); (next => kernel_rfl)) | ((with_reducible first | apply ops_d | apply ops_g | apply x_c); (next => simp only [rop, opd, celsL, oneV, aadd, binV, isSh, intBin, scEq, keq, unV, fillL, oP, oA, oS, wantedA, BX, BL, BS, seval, *]; with_reducible exact rfl)))
      refine ⟨.inr rfl, _, rfl, ⟨i, false, hfd, ?_⟩, hk⟩
      simp only [resOf, rop, opd, celsL, oneV, aadd, binV, isSh, intBin, scEq, keq, unV, fillL, oP, oA, oS, wantedA, BX, BL, BS, seval]

/-- In a list of arcs in order, what the binary search finds is what a search from the left finds. -/
theorem sorted_of {n : Nat} : ∀ (l : List Arc3) (p : Option Arc3), chkFrom n p l = none → (∀ x ∈ l, x.1 ≤ x.2.1 ∧ ∀ q, p = some q → q.2.1 < x.1) ∧ l.Pairwise (fun x y => x.2.1 < y.1)
  | [], p, _ => ⟨fun x h => by simp at h, .nil⟩
  | x :: l, p, h => by
    unfold chkFrom at h
    split at h
    · cases h
    · rename_i hbad
      have hx : x.1 ≤ x.2.1 := by
        simp [badArc] at hbad; omega
      have hrec : chkFrom n (some x) l = none ∧ ∀ q, p = some q → q.2.1 < x.1 := by
        cases p with
        | none => exact ⟨h, fun q hq => by cases hq⟩
        | some q =>
          simp only at h
          split at h
          · cases h
          · split at h
            · cases h
            · rename_i h1 h2
              exact ⟨h, fun q' hq => by cases hq; omega⟩
      obtain ⟨h1, h2⟩ := sorted_of l (some x) hrec.1
      refine ⟨fun y hy => ?_, List.pairwise_cons.2 ⟨fun y hy => (h1 y hy).2 x rfl, h2⟩⟩
      rcases List.mem_cons.1 hy with rfl | hy
      · exact ⟨hx, hrec.2⟩
      · refine ⟨(h1 y hy).1, fun q hq => ?_⟩
        have a := hrec.2 q hq
        have b := (h1 y hy).2 x rfl
        omega

theorem found_next {n : Nat} {l : List Arc3} {c : Int} {i : Nat} (hs : chkFrom n none l = none) (hf : Found l c i) :
    nextA l c = if h : i < l.length then (if (l[i]).1 ≤ c then (l[i]).2.2 else -1) else -1 := by
  obtain ⟨h1, h2⟩ := sorted_of l none hs
  obtain ⟨f1, f2, f3⟩ := hf
  have hp := List.pairwise_iff_getElem.1 h2
  have before : ∀ k (hk : k < l.length), k < i → (l[k]).2.1 < c := by
    intro k hk hki
    rcases f2 with f2 | ⟨x, hx, hxc⟩
    · omega
    · obtain ⟨hlt, he⟩ := List.getElem?_eq_some_iff.1 hx
      by_cases hkk : k = i - 1
      · subst hkk; rw [he]; exact hxc
      · have := hp k (i - 1) hk hlt (by omega)
        have hh := (h1 _ (List.getElem_mem hlt)).1
        rw [he] at this hh
        omega
  have after : ∀ k (hk : k < l.length), i < k → c < (l[k]).1 := by
    intro k hk hki
    rcases f3 with f3 | ⟨x, hx, hxc⟩
    · omega
    · obtain ⟨hlt, he⟩ := List.getElem?_eq_some_iff.1 hx
      have := hp i k hlt hk hki
      rw [he] at this
      omega
  unfold nextA
  by_cases hi : i < l.length
  · simp only [hi, dite_true]
    by_cases hfr : (l[i]).1 ≤ c
    · have hto : c ≤ (l[i]).2.1 := by
        rcases f3 with f3 | ⟨x, hx, hxc⟩
        · omega
        · obtain ⟨hlt, he⟩ := List.getElem?_eq_some_iff.1 hx
          rw [he]; exact hxc
      have : l.find? (fun x => decide (x.1 ≤ c) && decide (c ≤ x.2.1)) = some l[i] := by
        rw [List.find?_eq_some_iff_getElem]
        refine ⟨by simp [hfr, hto], i, hi, rfl, fun k hk => ?_⟩
        have := before k (by omega) hk
        simp; omega
      rw [this]; simp [hfr]
    · have : l.find? (fun x => decide (x.1 ≤ c) && decide (c ≤ x.2.1)) = none := by
        rw [List.find?_eq_none]
        intro x hx
        obtain ⟨k, hk, rfl⟩ := List.getElem_of_mem hx
        rcases Nat.lt_trichotomy k i with hki | rfl | hki
        · have := before k hk hki; simp; omega
        · simp [hfr]
        · have := after k hk hki; simp; omega
      rw [this]; simp [hfr]
  · have : l.find? (fun x => decide (x.1 ≤ c) && decide (c ≤ x.2.1)) = none := by
      rw [List.find?_eq_none]
      intro x hx
      obtain ⟨k, hk, rfl⟩ := List.getElem_of_mem hx
      have := before k hk (by omega); simp; omega
    rw [this]; simp [hi]

set_option maxHeartbeats 4000000 in
theorem f41_ok (W : World) (h : AHeap) (v : Value) (n : Nat) (l : List Arc3) (c : Int) (hs : Sl W h 3 v (l.map arcV)) (hb : l.length < 1073741824) (hso : chkFrom n none l = none) :
    ACalls Tryz.prog W 41 [v, .int .i32 c] h (fun r h' => r = .int .i64 (nextA l c) ∧ Keeps h h') := by
  obtain ⟨la, lc, hls⟩ := hs.len
  rw [List.length_map] at hls
  subst hls
  refine ACalls_ofX hmix c41 (Nat.le_of_ble_eq_true rfl) ?_
  unfold r41
  simp only [envOf2]
  have h74 := f74_ok W h _ l c hs hb
  repeat (first | (with_reducible first | apply x_seq | apply x_block | apply x_region | apply x_exit | apply x_ret | apply x_skip | apply t_normal | apply t_exit | apply t_ret | apply b_normal | apply b_ret | apply b_same | apply ops_nil | apply g_T | apply g_F | apply c_T | apply c_F) | (with_reducible refine b_other (by decide) ?_) | ((with_reducible apply x_draws); (with_reducible apply d_pure); (next => kernel_rfl)) | ((with_reducible first | apply ops_d | apply ops_g | apply x_c); (next => simp only [rop, opd, celsL, oneV, aadd, binV, isSh, intBin, scEq, keq, unV, fillL, oP, oA, oS, wantedA, BX, BL, BS, seval, *]; with_reducible exact rfl)))
  refine ops_call rfl rfl (fid := 74) (cap := #[]) (R := fun r h' => (∃ i b, Found l c i ∧ r = .tuple #[.int .i64 (i : Nat), .bool b]) ∧ Keeps h h') ?hc ?hK
  case hc =>
    simp only [List.map_cons, List.map_nil, List.append_nil, rop, opd, celsL, oneV, aadd, binV, isSh, intBin, scEq, keq, unV, fillL, oP, oA, oS, wantedA, BX, BL, BS, seval]
    exact h74
  rintro r1 h1 ⟨⟨i, b, hfd, rfl⟩, hk⟩
  clear h74
  have hv := found_next hso hfd
  by_cases hi : i < l.length
  · have hiI : ¬ (i : Int) = l.length := by omega
    obtain ⟨⟨f, t, s⟩, hx⟩ : ∃ x, l[i]? = some x := ⟨_, List.getElem?_eq_getElem hi⟩
    have hxm : (l.map arcV)[i]? = some (arcV (f, t, s)) := by simp [hx]
    obtain ⟨a, ha1, _, ha3⟩ := (hs.keeps hk).at hxm
    have hp0 := (ha3 0 (.int .i32 f) rfl).1
    have hp2 := (ha3 2 (.int .i64 s) rfl).1
    simp only [aadd, Nat.add_zero] at hp0 hp2
    have he : l[i] = (f, t, s) := (List.getElem?_eq_some_iff.1 hx).2
    simp only [hi, dite_true, he] at hv
    clear ha3 hxm hx he hi
    by_cases hfc : f > c
    · rw [if_neg (by omega)] at hv
      repeat (first | (with_reducible first | apply x_seq | apply x_block | apply x_region | apply x_exit | apply x_ret | apply x_skip | apply t_normal | apply t_exit | apply t_ret | apply b_normal | apply b_ret | apply b_same | apply ops_nil | apply g_T | apply g_F | apply c_T | apply c_F) | (with_reducible refine b_other (by decide) ?_) | ((with_reducible apply x_draws); (with_reducible apply d_pure); (next => kernel_rfl)) | ((with_reducible first | apply ops_d | apply ops_g | apply x_c); (next => simp only [rop, opd, celsL, oneV, aadd, binV, isSh, intBin, scEq, keq, unV, fillL, oP, oA, oS, wantedA, BX, BL, BS, seval, *]; with_reducible exact rfl)))
      refine ⟨.inr rfl, _, rfl, ?_, hk⟩
      simp only [resOf, rop, opd, celsL, oneV, aadd, binV, isSh, intBin, scEq, keq, unV, fillL, oP, oA, oS, wantedA, BX, BL, BS, seval, hv]
    · rw [if_pos (by omega)] at hv
      repeat (first | (with_reducible first | apply x_seq | apply x_block | apply x_region | apply x_exit | apply x_ret | apply x_skip | apply t_normal | apply t_exit | apply t_ret | apply b_normal | apply b_ret | apply b_same | apply ops_nil | apply g_T | apply g_F | apply c_T | apply c_F) | (with_reducible refine b_other (by decide) ?_) | ((with_reducible apply x_draws); (with_reducible apply d_pure); (next => kernel_rfl)) | ((with_reducible first | apply ops_d | apply ops_g | apply x_c); (next => simp only [rop, opd, celsL, oneV, aadd, binV, isSh, intBin, scEq, keq, unV, fillL, oP, oA, oS, wantedA, BX, BL, BS, seval, *]; with_reducible exact rfl)))
      refine ⟨.inr rfl, _, rfl, ?_, hk⟩
      simp only [resOf, rop, opd, celsL, oneV, aadd, binV, isSh, intBin, scEq, keq, unV, fillL, oP, oA, oS, wantedA, BX, BL, BS, seval, hv]
  · have hiI : (i : Int) = l.length := by have := hfd.1; omega
    have hiI' : decide ((i : Int) = l.length) = true := decide_eq_true hiI
    simp only [hi, dite_false] at hv
    clear hiI hi
    repeat (first | (with_reducible first | apply x_seq | apply x_block | apply x_region | apply x_exit | apply x_ret | apply x_skip | apply t_normal | apply t_exit | apply t_ret | apply b_normal | apply b_ret | apply b_same | apply ops_nil | apply g_T | apply g_F | apply c_T | apply c_F) | (with_reducible refine b_other (by decide) ?_) | ((with_reducible apply x_draws); (with_reducible apply d_pure); (next => kernel_rfl)) | ((with_reducible first | apply ops_d | apply ops_g | apply x_c); (next => simp only [rop, opd, celsL, oneV, aadd, binV, isSh, intBin, scEq, keq, unV, fillL, oP, oA, oS, wantedA, BX, BL, BS, seval, *]; with_reducible exact rfl)))
    refine ⟨.inr rfl, _, rfl, ?_, hk⟩
    simp only [resOf, rop, opd, celsL, oneV, aadd, binV, isSh, intBin, scEq, keq, unV, fillL, oP, oA, oS, wantedA, BX, BL, BS, seval, hv]
end Go.Proofs.YtlipmjpapkfaeaaGreatDoor.Fn
end
