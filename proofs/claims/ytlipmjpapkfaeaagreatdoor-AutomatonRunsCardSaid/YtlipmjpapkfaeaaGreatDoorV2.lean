/- automaton.Validate (F16) in the machine. -/
import Derived.Test.YtlipmjpapkfaeaaGreatDoorS1
import Derived.Test.YtlipmjpapkfaeaaGreatDoorH2
import Derived.Test.YtlipmjpapkfaeaaGreatDoorC1
import Derived.KernelRfl
set_option linter.unusedSimpArgs false
set_option linter.unusedVariables false
set_option maxRecDepth 100000
namespace Go.Proofs.YtlipmjpapkfaeaaGreatDoor.Fn
open Go Go.Mach Go.RowKit
attribute [local irreducible] AOps WPX DOps thenS blockS GOps CPick

set_option maxHeartbeats 4000000 in
theorem f16_ok (W : World) (h : AHeap) (v : Value) (A : Aut) (vf va : Value) (vs : List Value) (hA : AutoV W h v A vf va vs) (hb : ∀ l ∈ A.arcs, l.length < 1073741824) :
    ACalls Tryz.prog W 16 [v] h (fun r h' => r = .int .i64 (validate A) ∧ Keeps h h') := by
  obtain ⟨rfl, hf, ha, hl, he⟩ := hA
  obtain ⟨fa, fc, hfs⟩ := hf.len
  obtain ⟨aa, ac, has⟩ := ha.len
  rw [List.length_map] at hfs has
  rw [hl] at has
  refine ACalls_ofX hmix c16 (Nat.le_of_ble_eq_true rfl) ?_
  unfold r16
  simp only [envOf1]
  have hfs' := hfs; have has' := has
  by_cases h1 : (A.fin.length : Int) > 256
  · subst hfs has
    repeat (first | (with_reducible first | apply x_seq | apply x_block | apply x_region | apply x_exit | apply x_ret | apply x_skip | apply t_normal | apply t_exit | apply t_ret | apply b_normal | apply b_ret | apply b_same | apply ops_nil | apply g_T | apply g_F | apply c_T | apply c_F) | (with_reducible refine b_other (by decide) ?_) | ((with_reducible apply x_draws); (with_reducible apply d_pure); (next => kernel_rfl)) | ((with_reducible first | apply ops_d | apply ops_g | apply x_c); (next => simp only [rop, opd, celsL, oneV, aadd, binV, isSh, intBin, scEq, keq, unV, fillL, oP, oA, oS, wantedA, BX, BL, BS, seval, *]; with_reducible exact rfl)))
    refine ⟨.inr rfl, _, rfl, ?_, (by first | exact Keeps.refl h | exact (Keeps.refl h).new _ | exact hkk | exact hk | exact hk')⟩
    simp only [resOf, eget_eput, rop, opd, celsL, oneV, aadd, binV, isSh, intBin, scEq, keq, unV, fillL, oP, oA, oS, wantedA, BX, BL, BS, seval]
    unfold validate
    rw [if_pos (by omega)]
  · have h1n : ¬ A.fin.length > 256 := by omega
    by_cases h0 : (A.fin.length : Int) = 0
    · subst hfs has
      repeat (first | (with_reducible first | apply x_seq | apply x_block | apply x_region | apply x_exit | apply x_ret | apply x_skip | apply t_normal | apply t_exit | apply t_ret | apply b_normal | apply b_ret | apply b_same | apply ops_nil | apply g_T | apply g_F | apply c_T | apply c_F) | (with_reducible refine b_other (by decide) ?_) | ((with_reducible apply x_draws); (with_reducible apply d_pure); (next => kernel_rfl)) | ((with_reducible first | apply ops_d | apply ops_g | apply x_c); (next => simp only [rop, opd, celsL, oneV, aadd, binV, isSh, intBin, scEq, keq, unV, fillL, oP, oA, oS, wantedA, BX, BL, BS, seval, *]; with_reducible exact rfl)))
      refine ⟨.inr rfl, _, rfl, ?_, (by first | exact Keeps.refl h | exact (Keeps.refl h).new _ | exact hkk | exact hk | exact hk')⟩
      simp only [resOf, eget_eput, rop, opd, celsL, oneV, aadd, binV, isSh, intBin, scEq, keq, unV, fillL, oP, oA, oS, wantedA, BX, BL, BS, seval]
      unfold validate
      rw [if_neg h1n, if_pos (.inl (by omega))]
    · by_cases hm : (A.arcs.length : Int) = A.fin.length
      · have hn : Hid (A.arcs.length = A.fin.length) := by show A.arcs.length = A.fin.length; omega
        rw [hn.out] at has hl
        clear hm has'
        subst hfs has
        repeat (first | (with_reducible first | apply x_seq | apply x_block | apply x_region | apply x_exit | apply x_ret | apply x_skip | apply t_normal | apply t_exit | apply t_ret | apply b_normal | apply b_ret | apply b_same | apply ops_nil | apply g_T | apply g_F | apply c_T | apply c_F) | (with_reducible refine b_other (by decide) ?_) | ((with_reducible apply x_draws); (with_reducible apply d_pure); (next => kernel_rfl)) | ((with_reducible first | apply ops_d | apply ops_g | apply x_c); (next => simp only [rop, opd, celsL, oneV, aadd, binV, isSh, intBin, scEq, keq, unV, fillL, oP, oA, oS, wantedA, BX, BL, BS, seval, *]; with_reducible exact rfl)))
        refine WPX.loop hmix (fun k σ => ∃ i, i ≤ A.fin.length ∧ k = A.fin.length - i ∧ eget σ.e 3 = .int .i64 A.fin.length ∧ eget σ.e 25 = .slice aa A.fin.length ac ∧ eget σ.e 26 = .int .i64 A.fin.length ∧ eget σ.e 27 = .int .i64 (i : Nat) ∧ Keeps h σ.h ∧ chkAll A.fin.length (A.arcs.take i) = none)
          A.fin.length ?h0 ?round
        case h0 => exact ⟨0, Nat.zero_le _, rfl, (by simp only [rop, opd, celsL, oneV, aadd, binV, isSh, intBin, scEq, keq, unV, fillL, oP, oA, oS, wantedA, BX, BL, BS, seval, *]), (by simp only [rop, opd, celsL, oneV, aadd, binV, isSh, intBin, scEq, keq, unV, fillL, oP, oA, oS, wantedA, BX, BL, BS, seval, *]), (by simp only [rop, opd, celsL, oneV, aadd, binV, isSh, intBin, scEq, keq, unV, fillL, oP, oA, oS, wantedA, BX, BL, BS, seval, *]), (by simp only [rop, opd, celsL, oneV, aadd, binV, isSh, intBin, scEq, keq, unV, fillL, oP, oA, oS, wantedA, BX, BL, BS, seval, *]), (Keeps.refl h).new _, rfl⟩
        rintro k ⟨e, hh⟩ ⟨i, hi, rfl, e3, e25, e26, e27, hk, hc⟩
        dsimp only at e3 e25 e26 e27 hk
        by_cases hlt : i < A.fin.length
        · have hltI : (i : Int) < A.fin.length := by omega
          have hlv : i < vs.length := by omega
          have hx : (vs.map fun x => [x])[i]? = some [vs[i]] := by simp [hlv]
          obtain ⟨a, ha1, _, ha2⟩ := (ha.keeps hk).at hx
          have hrd := (ha2 0 vs[i] rfl).1
          have haa : aadd a 0 = a := rfl
          rw [haa] at hrd
          have hia : i < A.arcs.length := by have := hn.out; omega
          obtain ⟨l, hll⟩ : ∃ l, A.arcs[i]? = some l := ⟨_, List.getElem?_eq_getElem hia⟩
          have hs := (he i vs[i] l (by simp [hlv]) hll)
          obtain ⟨la, lc, hls⟩ := hs.len
          rw [List.length_map] at hls
          rw [hls] at hrd hs
          repeat (first | (with_reducible first | apply x_seq | apply x_block | apply x_region | apply x_exit | apply x_ret | apply x_skip | apply t_normal | apply t_exit | apply t_ret | apply b_normal | apply b_ret | apply b_same | apply ops_nil | apply g_T | apply g_F | apply c_T | apply c_F) | (with_reducible refine b_other (by decide) ?_) | ((with_reducible apply x_draws); (with_reducible apply d_pure); (next => kernel_rfl)) | ((with_reducible first | apply ops_d | apply ops_g | apply x_c); (next => simp only [rop, opd, celsL, oneV, aadd, binV, isSh, intBin, scEq, keq, unV, fillL, oP, oA, oS, wantedA, BX, BL, BS, seval, *]; with_reducible exact rfl)))
          refine WPX.loop hmix (fun k σ => ∃ j, j ≤ l.length ∧ k = l.length - j ∧ eget σ.e 3 = .int .i64 A.fin.length ∧ eget σ.e 25 = .slice aa A.fin.length ac ∧ eget σ.e 26 = .int .i64 A.fin.length ∧ eget σ.e 27 = .int .i64 (i : Nat) ∧
            eget σ.e 5 = .slice la l.length lc ∧ eget σ.e 31 = .slice la l.length lc ∧ eget σ.e 32 = .int .i64 l.length ∧ eget σ.e 33 = .int .i64 (j : Nat) ∧ Keeps h σ.h ∧ chkFrom A.fin.length none (l.take j) = none) l.length ?h1 ?round1
          case h1 => exact ⟨0, Nat.zero_le _, rfl, (by simp only [rop, opd, celsL, oneV, aadd, binV, isSh, intBin, scEq, keq, unV, fillL, oP, oA, oS, wantedA, BX, BL, BS, seval, *]), (by simp only [rop, opd, celsL, oneV, aadd, binV, isSh, intBin, scEq, keq, unV, fillL, oP, oA, oS, wantedA, BX, BL, BS, seval, *]), (by simp only [rop, opd, celsL, oneV, aadd, binV, isSh, intBin, scEq, keq, unV, fillL, oP, oA, oS, wantedA, BX, BL, BS, seval, *]), (by simp only [rop, opd, celsL, oneV, aadd, binV, isSh, intBin, scEq, keq, unV, fillL, oP, oA, oS, wantedA, BX, BL, BS, seval, *]), (by simp only [rop, opd, celsL, oneV, aadd, binV, isSh, intBin, scEq, keq, unV, fillL, oP, oA, oS, wantedA, BX, BL, BS, seval, *]), (by simp only [rop, opd, celsL, oneV, aadd, binV, isSh, intBin, scEq, keq, unV, fillL, oP, oA, oS, wantedA, BX, BL, BS, seval, *]), (by simp only [rop, opd, celsL, oneV, aadd, binV, isSh, intBin, scEq, keq, unV, fillL, oP, oA, oS, wantedA, BX, BL, BS, seval, *]), (by simp only [rop, opd, celsL, oneV, aadd, binV, isSh, intBin, scEq, keq, unV, fillL, oP, oA, oS, wantedA, BX, BL, BS, seval, *]), hk, rfl⟩
          rintro k2 ⟨e', hh'⟩ ⟨j, hj, rfl, q3, q25, q26, q27, q5, q31, q32, q33, hk', hc'⟩
          clear e3 e25 e26 e27 hrd ha1
          dsimp only at q3 q25 q26 q27 q5 q31 q32 q33 hk'
          by_cases hjl : j < l.length
          · have hjlI : (j : Int) < l.length := by omega
            have hxj : (l.map arcV)[j]? = some (arcV l[j]) := by simp [hjl]
            obtain ⟨b, hb1, hb2, hb3⟩ := (hs.keeps hk').at hxj
            have hld := aloadN_of _ _ hb3
            obtain ⟨x, hxe⟩ : ∃ x, x = l[j] := ⟨_, rfl⟩
            rw [← hxe] at hld
            obtain ⟨f, t, s⟩ := x
            simp only [arcV, List.length_cons, List.length_nil, Nat.reduceAdd] at hld
            have hxl : l[j]? = some (f, t, s) := by rw [hxe]; simp [hjl]
            have fin8 : badArc A.fin.length (f, t, s) = true → validate A = 8 := fun hbad => by
              have := chkAll_hit hll hc (c := 8) (by rw [chkFrom_hit hxl hc']; simp [chkFrom, hbad])
              unfold validate; rw [if_neg h1n, if_neg (by have := hn.out; omega), this]; rfl
            have hkk : Keeps h ((hh'.new (.cells [.int .i32 0, .int .i32 0, .int .i64 0])).put hh'.next (.cells [.int .i32 f, .int .i32 t, .int .i64 s])) := (hk'.new _).put hk'.le _
            by_cases b1 : f < 0
            · have hv := fin8 (by simp [badArc, b1])
              repeat (first | (with_reducible first | apply x_seq | apply x_block | apply x_region | apply x_exit | apply x_ret | apply x_skip | apply t_normal | apply t_exit | apply t_ret | apply b_normal | apply b_ret | apply b_same | apply ops_nil | apply g_T | apply g_F | apply c_T | apply c_F) | (with_reducible refine b_other (by decide) ?_) | ((with_reducible apply x_draws); (with_reducible apply d_pure); (next => kernel_rfl)) | ((with_reducible first | apply ops_d | apply ops_g | apply x_c); (next => simp only [rop, opd, celsL, oneV, aadd, binV, isSh, intBin, scEq, keq, unV, fillL, oP, oA, oS, wantedA, BX, BL, BS, seval, *]; with_reducible exact rfl)))
              refine ⟨.inr rfl, _, rfl, ?_, (by first | exact Keeps.refl h | exact (Keeps.refl h).new _ | exact hkk | exact hk | exact hk')⟩
              simp only [resOf, rop, opd, celsL, oneV, aadd, binV, isSh, intBin, scEq, keq, unV, fillL, oP, oA, oS, wantedA, BX, BL, BS, seval, hv]
            by_cases b2 : f > t
            · have hv := fin8 (by simp [badArc, b2])
              repeat (first | (with_reducible first | apply x_seq | apply x_block | apply x_region | apply x_exit | apply x_ret | apply x_skip | apply t_normal | apply t_exit | apply t_ret | apply b_normal | apply b_ret | apply b_same | apply ops_nil | apply g_T | apply g_F | apply c_T | apply c_F) | (with_reducible refine b_other (by decide) ?_) | ((with_reducible apply x_draws); (with_reducible apply d_pure); (next => kernel_rfl)) | ((with_reducible first | apply ops_d | apply ops_g | apply x_c); (next => simp only [rop, opd, celsL, oneV, aadd, binV, isSh, intBin, scEq, keq, unV, fillL, oP, oA, oS, wantedA, BX, BL, BS, seval, *]; with_reducible exact rfl)))
              refine ⟨.inr rfl, _, rfl, ?_, (by first | exact Keeps.refl h | exact (Keeps.refl h).new _ | exact hkk | exact hk | exact hk')⟩
              simp only [resOf, rop, opd, celsL, oneV, aadd, binV, isSh, intBin, scEq, keq, unV, fillL, oP, oA, oS, wantedA, BX, BL, BS, seval, hv]
            by_cases b3 : t > 1114111
            · have hv := fin8 (by simp [badArc, b3])
              repeat (first | (with_reducible first | apply x_seq | apply x_block | apply x_region | apply x_exit | apply x_ret | apply x_skip | apply t_normal | apply t_exit | apply t_ret | apply b_normal | apply b_ret | apply b_same | apply ops_nil | apply g_T | apply g_F | apply c_T | apply c_F) | (with_reducible refine b_other (by decide) ?_) | ((with_reducible apply x_draws); (with_reducible apply d_pure); (next => kernel_rfl)) | ((with_reducible first | apply ops_d | apply ops_g | apply x_c); (next => simp only [rop, opd, celsL, oneV, aadd, binV, isSh, intBin, scEq, keq, unV, fillL, oP, oA, oS, wantedA, BX, BL, BS, seval, *]; with_reducible exact rfl)))
              refine ⟨.inr rfl, _, rfl, ?_, (by first | exact Keeps.refl h | exact (Keeps.refl h).new _ | exact hkk | exact hk | exact hk')⟩
              simp only [resOf, rop, opd, celsL, oneV, aadd, binV, isSh, intBin, scEq, keq, unV, fillL, oP, oA, oS, wantedA, BX, BL, BS, seval, hv]
            by_cases b4 : s < 0
            · have hv := fin8 (by simp [badArc, b4])
              repeat (first | (with_reducible first | apply x_seq | apply x_block | apply x_region | apply x_exit | apply x_ret | apply x_skip | apply t_normal | apply t_exit | apply t_ret | apply b_normal | apply b_ret | apply b_same | apply ops_nil | apply g_T | apply g_F | apply c_T | apply c_F) | (with_reducible refine b_other (by decide) ?_) | ((with_reducible apply x_draws); (with_reducible apply d_pure); (next => kernel_rfl)) | ((with_reducible first | apply ops_d | apply ops_g | apply x_c); (next => simp only [rop, opd, celsL, oneV, aadd, binV, isSh, intBin, scEq, keq, unV, fillL, oP, oA, oS, wantedA, BX, BL, BS, seval, *]; with_reducible exact rfl)))
              refine ⟨.inr rfl, _, rfl, ?_, (by first | exact Keeps.refl h | exact (Keeps.refl h).new _ | exact hkk | exact hk | exact hk')⟩
              simp only [resOf, rop, opd, celsL, oneV, aadd, binV, isSh, intBin, scEq, keq, unV, fillL, oP, oA, oS, wantedA, BX, BL, BS, seval, hv]
            by_cases b5 : s ≥ (A.fin.length : Int)
            · have hv := fin8 (by simp [badArc, b5])
              repeat (first | (with_reducible first | apply x_seq | apply x_block | apply x_region | apply x_exit | apply x_ret | apply x_skip | apply t_normal | apply t_exit | apply t_ret | apply b_normal | apply b_ret | apply b_same | apply ops_nil | apply g_T | apply g_F | apply c_T | apply c_F) | (with_reducible refine b_other (by decide) ?_) | ((with_reducible apply x_draws); (with_reducible apply d_pure); (next => kernel_rfl)) | ((with_reducible first | apply ops_d | apply ops_g | apply x_c); (next => simp only [rop, opd, celsL, oneV, aadd, binV, isSh, intBin, scEq, keq, unV, fillL, oP, oA, oS, wantedA, BX, BL, BS, seval, *]; with_reducible exact rfl)))
              refine ⟨.inr rfl, _, rfl, ?_, (by first | exact Keeps.refl h | exact (Keeps.refl h).new _ | exact hkk | exact hk | exact hk')⟩
              simp only [resOf, rop, opd, celsL, oneV, aadd, binV, isSh, intBin, scEq, keq, unV, fillL, oP, oA, oS, wantedA, BX, BL, BS, seval, hv]
            have hbad : badArc A.fin.length (f, t, s) = false := by simp [badArc, b1, b2, b3, b4, b5]
            have hw1 : IntKind.i64.wrap ((j : Int) + 1) = ((j + 1 : Nat) : Int) := by have := hb l (List.mem_of_getElem? hll); exact wrap_i64 (by omega) (by omega)
            by_cases hj0 : (j : Int) > 0
            · have hwj : IntKind.i64.wrap ((j : Int) - 1) = ((j - 1 : Nat) : Int) := by have := hb l (List.mem_of_getElem? hll); rw [show ((j - 1 : Nat) : Int) = (j : Int) - 1 by omega]; exact wrap_i64 (by omega) (by omega)
              obtain ⟨⟨f', t', s'⟩, hpl⟩ : ∃ p, l[j - 1]? = some p := ⟨_, List.getElem?_eq_getElem (show j - 1 < l.length by omega)⟩
              have hprev : prevArc l j = some (f', t', s') := by unfold prevArc; rw [if_neg (by omega), hpl]
              have hxp : (l.map arcV)[j - 1]? = some (arcV (f', t', s')) := by simp [hpl]
              obtain ⟨b', hb1', _, hb3'⟩ := (hs.keeps hkk).at hxp
              have hp1 := (hb3' 1 (.int .i32 t') rfl).1
              have hp2 := (hb3' 2 (.int .i64 s') rfl).1
              simp only [aadd] at hp1 hp2
              have fin6 : chkFrom A.fin.length (some (f', t', s')) ((f, t, s) :: l.drop (j + 1)) = some 6 → validate A = 6 := fun hr => by
                have := chkAll_hit hll hc (c := 6) (by rw [chkFrom_hit hxl hc', hprev]; exact hr)
                unfold validate; rw [if_neg h1n, if_neg (by have := hn.out; omega), this]; rfl
              clear hb3' hxp hpl
              by_cases b6 : f ≤ t'
              · have hv := fin6 (by simp [chkFrom, hbad, b6])
                repeat (first | (with_reducible first | apply x_seq | apply x_block | apply x_region | apply x_exit | apply x_ret | apply x_skip | apply t_normal | apply t_exit | apply t_ret | apply b_normal | apply b_ret | apply b_same | apply ops_nil | apply g_T | apply g_F | apply c_T | apply c_F) | (with_reducible refine b_other (by decide) ?_) | ((with_reducible apply x_draws); (with_reducible apply d_pure); (next => kernel_rfl)) | ((with_reducible first | apply ops_d | apply ops_g | apply x_c); (next => simp only [rop, opd, celsL, oneV, aadd, binV, isSh, intBin, scEq, keq, unV, fillL, oP, oA, oS, wantedA, BX, BL, BS, seval, *]; with_reducible exact rfl)))
                refine ⟨.inr rfl, _, rfl, ?_, (by first | exact Keeps.refl h | exact (Keeps.refl h).new _ | exact hkk | exact hk | exact hk')⟩
                simp only [resOf, rop, opd, celsL, oneV, aadd, binV, isSh, intBin, scEq, keq, unV, fillL, oP, oA, oS, wantedA, BX, BL, BS, seval, hv]
              · by_cases b7 : f = IntKind.i32.wrap (t' + 1)
                · have b7' : decide (f = IntKind.i32.wrap (t' + 1)) = true := decide_eq_true b7
                  by_cases b8 : s = s'
                  · have hv := fin6 (by simp only [chkFrom, hbad, Bool.false_eq_true, if_false, b6]; rw [if_pos ⟨b7, b8⟩])
                    clear fin6 b7
                    subst b8
                    repeat (first | (with_reducible first | apply x_seq | apply x_block | apply x_region | apply x_exit | apply x_ret | apply x_skip | apply t_normal | apply t_exit | apply t_ret | apply b_normal | apply b_ret | apply b_same | apply ops_nil | apply g_T | apply g_F | apply c_T | apply c_F) | (with_reducible refine b_other (by decide) ?_) | ((with_reducible apply x_draws); (with_reducible apply d_pure); (next => kernel_rfl)) | ((with_reducible first | apply ops_d | apply ops_g | apply x_c); (next => simp only [rop, opd, celsL, oneV, aadd, binV, isSh, intBin, scEq, keq, unV, fillL, oP, oA, oS, wantedA, BX, BL, BS, seval, *]; with_reducible exact rfl)))
                    refine ⟨.inr rfl, _, rfl, ?_, (by first | exact Keeps.refl h | exact (Keeps.refl h).new _ | exact hkk | exact hk | exact hk')⟩
                    simp only [resOf, rop, opd, celsL, oneV, aadd, binV, isSh, intBin, scEq, keq, unV, fillL, oP, oA, oS, wantedA, BX, BL, BS, seval, hv]
                  · have hnext : chkFrom A.fin.length none (l.take (j + 1)) = none := by rw [chkFrom_next hxl hc', hprev]; simp only [chkFrom, hbad, Bool.false_eq_true, if_false, b6]; rw [if_neg (fun h => b8 h.2)]
                    clear fin6 b7
                    repeat (first | (with_reducible first | apply x_seq | apply x_block | apply x_region | apply x_exit | apply x_ret | apply x_skip | apply t_normal | apply t_exit | apply t_ret | apply b_normal | apply b_ret | apply b_same | apply ops_nil | apply g_T | apply g_F | apply c_T | apply c_F) | (with_reducible refine b_other (by decide) ?_) | ((with_reducible apply x_draws); (with_reducible apply d_pure); (next => kernel_rfl)) | ((with_reducible first | apply ops_d | apply ops_g | apply x_c); (next => simp only [rop, opd, celsL, oneV, aadd, binV, isSh, intBin, scEq, keq, unV, fillL, oP, oA, oS, wantedA, BX, BL, BS, seval, *]; with_reducible exact rfl)))
                    refine ⟨l.length - (j + 1), by omega, j + 1, by omega, rfl, ?_⟩
                    simp only [rop, opd, celsL, oneV, aadd, binV, isSh, intBin, scEq, keq, unV, fillL, oP, oA, oS, wantedA, BX, BL, BS, seval, and_self, *]
                · have hnext : chkFrom A.fin.length none (l.take (j + 1)) = none := by rw [chkFrom_next hxl hc', hprev]; simp only [chkFrom, hbad, Bool.false_eq_true, if_false, b6]; rw [if_neg (fun h => b7 h.1)]
                  clear fin6
                  repeat (first | (with_reducible first | apply x_seq | apply x_block | apply x_region | apply x_exit | apply x_ret | apply x_skip | apply t_normal | apply t_exit | apply t_ret | apply b_normal | apply b_ret | apply b_same | apply ops_nil | apply g_T | apply g_F | apply c_T | apply c_F) | (with_reducible refine b_other (by decide) ?_) | ((with_reducible apply x_draws); (with_reducible apply d_pure); (next => kernel_rfl)) | ((with_reducible first | apply ops_d | apply ops_g | apply x_c); (next => simp only [rop, opd, celsL, oneV, aadd, binV, isSh, intBin, scEq, keq, unV, fillL, oP, oA, oS, wantedA, BX, BL, BS, seval, *]; with_reducible exact rfl)))
                  refine ⟨l.length - (j + 1), by omega, j + 1, by omega, rfl, ?_⟩
                  simp only [rop, opd, celsL, oneV, aadd, binV, isSh, intBin, scEq, keq, unV, fillL, oP, oA, oS, wantedA, BX, BL, BS, seval, and_self, *]
            · have hj00 : j = 0 := by omega
              have hprev : prevArc l j = none := by unfold prevArc; rw [if_pos hj00]
              have hnext : chkFrom A.fin.length none (l.take (j + 1)) = none := by rw [chkFrom_next hxl hc', hprev]; simp [chkFrom, hbad]
              clear hj00
              repeat (first | (with_reducible first | apply x_seq | apply x_block | apply x_region | apply x_exit | apply x_ret | apply x_skip | apply t_normal | apply t_exit | apply t_ret | apply b_normal | apply b_ret | apply b_same | apply ops_nil | apply g_T | apply g_F | apply c_T | apply c_F) | (with_reducible refine b_other (by decide) ?_) | ((with_reducible apply x_draws); (with_reducible apply d_pure); (next => kernel_rfl)) | ((with_reducible first | apply ops_d | apply ops_g | apply x_c); (next => simp only [rop, opd, celsL, oneV, aadd, binV, isSh, intBin, scEq, keq, unV, fillL, oP, oA, oS, wantedA, BX, BL, BS, seval, *]; with_reducible exact rfl)))
              refine ⟨l.length - (j + 1), by omega, j + 1, by omega, rfl, ?_⟩
              simp only [rop, opd, celsL, oneV, aadd, binV, isSh, intBin, scEq, keq, unV, fillL, oP, oA, oS, wantedA, BX, BL, BS, seval, and_self, *]
          · have hjlI : ¬ (j : Int) < l.length := by omega
            have hnext : chkAll A.fin.length (A.arcs.take (i + 1)) = none := chkAll_next hll hc (by rw [← hc', List.take_of_length_le (by omega)])
            have hw1 : IntKind.i64.wrap ((i : Int) + 1) = ((i + 1 : Nat) : Int) := wrap_i64 (by omega) (by omega)
            repeat (first | (with_reducible first | apply x_seq | apply x_block | apply x_region | apply x_exit | apply x_ret | apply x_skip | apply t_normal | apply t_exit | apply t_ret | apply b_normal | apply b_ret | apply b_same | apply ops_nil | apply g_T | apply g_F | apply c_T | apply c_F) | (with_reducible refine b_other (by decide) ?_) | ((with_reducible apply x_draws); (with_reducible apply d_pure); (next => kernel_rfl)) | ((with_reducible first | apply ops_d | apply ops_g | apply x_c); (next => simp only [rop, opd, celsL, oneV, aadd, binV, isSh, intBin, scEq, keq, unV, fillL, oP, oA, oS, wantedA, BX, BL, BS, seval, *]; with_reducible exact rfl)))
            refine ⟨A.fin.length - (i + 1), by omega, i + 1, by omega, rfl, ?_⟩
            simp only [rop, opd, celsL, oneV, aadd, binV, isSh, intBin, scEq, keq, unV, fillL, oP, oA, oS, wantedA, BX, BL, BS, seval, and_self, *]
        · have hltI : ¬ (i : Int) < A.fin.length := by omega
          have hv : validate A = 0 := by
            unfold validate; rw [if_neg h1n, if_neg (by have := hn.out; omega)]
            rw [List.take_of_length_le (by have := hn.out; omega)] at hc
            rw [hc]; rfl
          repeat (first | (with_reducible first | apply x_seq | apply x_block | apply x_region | apply x_exit | apply x_ret | apply x_skip | apply t_normal | apply t_exit | apply t_ret | apply b_normal | apply b_ret | apply b_same | apply ops_nil | apply g_T | apply g_F | apply c_T | apply c_F) | (with_reducible refine b_other (by decide) ?_) | ((with_reducible apply x_draws); (with_reducible apply d_pure); (next => kernel_rfl)) | ((with_reducible first | apply ops_d | apply ops_g | apply x_c); (next => simp only [rop, opd, celsL, oneV, aadd, binV, isSh, intBin, scEq, keq, unV, fillL, oP, oA, oS, wantedA, BX, BL, BS, seval, *]; with_reducible exact rfl)))
          refine ⟨.inr rfl, _, rfl, ?_, (by first | exact Keeps.refl h | exact (Keeps.refl h).new _ | exact hkk | exact hk | exact hk')⟩
          simp only [resOf, rop, opd, celsL, oneV, aadd, binV, isSh, intBin, scEq, keq, unV, fillL, oP, oA, oS, wantedA, BX, BL, BS, seval, hv]
      · subst hfs has
        repeat (first | (with_reducible first | apply x_seq | apply x_block | apply x_region | apply x_exit | apply x_ret | apply x_skip | apply t_normal | apply t_exit | apply t_ret | apply b_normal | apply b_ret | apply b_same | apply ops_nil | apply g_T | apply g_F | apply c_T | apply c_F) | (with_reducible refine b_other (by decide) ?_) | ((with_reducible apply x_draws); (with_reducible apply d_pure); (next => kernel_rfl)) | ((with_reducible first | apply ops_d | apply ops_g | apply x_c); (next => simp only [rop, opd, celsL, oneV, aadd, binV, isSh, intBin, scEq, keq, unV, fillL, oP, oA, oS, wantedA, BX, BL, BS, seval, *]; with_reducible exact rfl)))
        refine ⟨.inr rfl, _, rfl, ?_, (by first | exact Keeps.refl h | exact (Keeps.refl h).new _ | exact hkk | exact hk | exact hk')⟩
        simp only [resOf, eget_eput, rop, opd, celsL, oneV, aadd, binV, isSh, intBin, scEq, keq, unV, fillL, oP, oA, oS, wantedA, BX, BL, BS, seval]
        unfold validate
        rw [if_neg h1n, if_pos (.inr (by omega))]
end Go.Proofs.YtlipmjpapkfaeaaGreatDoor.Fn
