/- corporalaw20.AutomatonRuns (F4) in the machine: it answers true. -/
import Derived.Test.YtlipmjpapkfaeaaGreatDoorV13
import Derived.Test.YtlipmjpapkfaeaaGreatDoorV10
import Derived.Test.YtlipmjpapkfaeaaGreatDoorV7
import Derived.Test.YtlipmjpapkfaeaaGreatDoorA1
set_option linter.unusedSimpArgs false
set_option linter.unusedVariables false
set_option maxRecDepth 100000
namespace Go.Proofs.YtlipmjpapkfaeaaGreatDoor.Fn
open Go Go.Mach Go.RowKit Go.Proofs Go.Proofs.YtlipmjpapkfaeaaGreatDoor.Orc
attribute [local irreducible] AOps WPX DOps thenS blockS AOp GOps CPick

theorem large_arcs' {most : Int} {A : Aut} (h : largeA most A = false) : ∀ l ∈ A.arcs, l.length < 1073741824 := by
  intro l hl
  simp only [largeA, Bool.or_eq_false_iff] at h
  have := List.any_eq_false.1 h.2 l hl
  simp at this
  omega

/-- What 'large' is asked: one automaton, in a list made for it. -/
theorem large1 (W : World) (h : AHeap) (most : Int) (A : Aut) (vf va : Value) (vs : List Value) (hm0 : 0 ≤ most) (hm : most < 1073741824) (hA : AutoV W h (.agg #[vf, va]) A vf va vs) :
    ACalls Tryz.prog W 15 [.int .i64 most, .slice (some ⟨h.next, 0, some 0⟩) 1 2] (h.new (.cells [vf, va])) (fun r h' => r = .bool (largeA most A) ∧ Keeps (h.new (.cells [vf, va])) h') := by
  have ho : Ow (h.new (.cells [vf, va])) h.next 2 [[vf, va]] := ⟨by rw [AHeap.new_get, if_pos rfl]; rfl, fun e he => by simp at he; subst he; rfl, by rw [AHeap.new_next]; omega⟩
  have := f15_ok W (h.new (.cells [vf, va])) most (.slice (some ⟨h.next, 0, some 0⟩) 1 2) [A] [(vf, va, vs)] hm0 hm (by simp) rfl ho.sl (fun i c B hc hB => by
    have hi0 : i = 0 := by have := (List.getElem?_eq_some_iff.1 hc).1; simp at this; omega
    subst hi0
    simp at hc hB
    subst hc hB
    exact hA.keeps ((Keeps.refl h).new _))
  simpa using this

/-- An automaton that lies in an own block. -/
theorem box2 {W : World} {h : AHeap} {b : Nat} {x y : Value} (hb : h.own.get b = some (.cells [x, y])) : aloadN W h ⟨b, 0, some 0⟩ 2 = some [x, y] := by simp [aloadN, aload1, aadd, hb]

set_option maxHeartbeats 4000000 in
theorem f4_ok (W : World) (h : AHeap) (v : Value) (A : Aut) (vf va : Value) (vs : List Value) (s : ByteArray) (hA : AutoV W h v A vf va vs) :
    ACalls Tryz.prog W 4 [v, .string s] h (fun r h' => r = .bool true) := by
  have hA' := hA
  obtain ⟨rfl, hf, ha, hl, he⟩ := hA
  obtain ⟨fa, fc, hfs⟩ := hf.len
  obtain ⟨aa, ac, has⟩ := ha.len
  rw [List.length_map] at hfs has
  rw [hl] at has
  subst hfs has
  refine ACalls_ofX hmix c4 (Nat.le_of_ble_eq_true rfl) ?_
  unfold r4
  simp only [envOf2]
  obtain ⟨H0, hH0⟩ : ∃ H0, H0 = h.new (.cells [.slice fa A.fin.length fc, .slice aa A.arcs.length ac]) := ⟨_, rfl⟩
  have hk0 : Keeps h H0 := by rw [hH0]; exact (Keeps.refl h).new _
  have hn0 : h.next < H0.next := by rw [hH0, AHeap.new_next]; omega
  have hg0 : H0.own.get h.next = some (.cells [.slice fa A.fin.length fc, .slice aa A.arcs.length ac]) := by rw [hH0, AHeap.new_get, if_pos rfl]
  have hbk : ∀ g, Keeps H0 g → aloadN W g ⟨h.next, 0, some 0⟩ 2 = some [.slice fa A.fin.length fc, .slice aa A.arcs.length ac] := fun g hg => box2 (by rw [hg.same _ hn0]; exact hg0)
  have hb1 := hbk H0 (Keeps.refl _)
  have h15 := large1 W H0 40 A _ _ vs (by omega) (by omega) (hA'.keeps hk0)
  have hk1 : Keeps H0 (H0.new (.cells [.slice fa A.fin.length fc, .slice aa A.arcs.length ac])) := (Keeps.refl _).new _
  rw [hH0] at hb1 h15
  repeat (first | (with_reducible first | apply x_seq | apply x_block | apply x_region | apply x_exit | apply x_ret | apply x_skip | apply t_normal | apply t_exit | apply t_ret | apply b_normal | apply b_ret | apply b_same | apply ops_nil | apply g_T | apply g_F | apply c_T | apply c_F) | (with_reducible refine b_other (by decide) ?_) | ((with_reducible apply x_draws); (with_reducible apply d_pure); (next => kernel_rfl)) | ((with_reducible first | apply ops_d | apply ops_g | apply x_c); (next => simp only [rop, opd, celsL, oneV, aadd, binV, isSh, intBin, scEq, keq, unV, fillL, oP, oA, oS, wantedA, BX, BL, BS, seval, *]; with_reducible exact rfl)))
  refine ops_callK (by simp only [rop, opd, celsL, oneV, aadd, binV, isSh, intBin, scEq, keq, unV, fillL, oP, oA, oS, wantedA, BX, BL, BS, seval, *]) (by simp only [List.map_cons, List.map_nil, rop, opd, celsL, oneV, aadd, binV, isSh, intBin, scEq, keq, unV, fillL, oP, oA, oS, wantedA, BX, BL, BS, seval, *]) h15 ?_
  rintro r1 h1 ⟨rfl, hk2⟩
  clear h15 hb1
  have hk01 : Keeps H0 h1 := by rw [hH0] at hk1 ⊢; exact hk1.trans hk2
  clear hk2 hk1
  cases hlg : largeA 40 A with
  | true =>
    repeat (first | (with_reducible first | apply x_seq | apply x_block | apply x_region | apply x_exit | apply x_ret | apply x_skip | apply t_normal | apply t_exit | apply t_ret | apply b_normal | apply b_ret | apply b_same | apply ops_nil | apply g_T | apply g_F | apply c_T | apply c_F) | (with_reducible refine b_other (by decide) ?_) | ((with_reducible apply x_draws); (with_reducible apply d_pure); (next => kernel_rfl)) | ((with_reducible first | apply ops_d | apply ops_g | apply x_c); (next => simp only [rop, opd, celsL, oneV, aadd, binV, isSh, intBin, scEq, keq, unV, fillL, oP, oA, oS, wantedA, BX, BL, BS, seval, *]; with_reducible exact rfl)))
    refine ⟨.inr rfl, _, rfl, ?_⟩
    simp only [resOf, rop, opd, celsL, oneV, aadd, binV, isSh, intBin, scEq, keq, unV, fillL, oP, oA, oS, wantedA, BX, BL, BS, seval]
  | false =>
  by_cases hss : (s.size : Int) > 60
  · repeat (first | (with_reducible first | apply x_seq | apply x_block | apply x_region | apply x_exit | apply x_ret | apply x_skip | apply t_normal | apply t_exit | apply t_ret | apply b_normal | apply b_ret | apply b_same | apply ops_nil | apply g_T | apply g_F | apply c_T | apply c_F) | (with_reducible refine b_other (by decide) ?_) | ((with_reducible apply x_draws); (with_reducible apply d_pure); (next => kernel_rfl)) | ((with_reducible first | apply ops_d | apply ops_g | apply x_c); (next => simp only [rop, opd, celsL, oneV, aadd, binV, isSh, intBin, scEq, keq, unV, fillL, oP, oA, oS, wantedA, BX, BL, BS, seval, *]; with_reducible exact rfl)))
    refine ⟨.inr rfl, _, rfl, ?_⟩
    simp only [resOf, rop, opd, celsL, oneV, aadd, binV, isSh, intBin, scEq, keq, unV, fillL, oP, oA, oS, wantedA, BX, BL, BS, seval]
  have hb2 := hbk h1 hk01
  have hb := large_arcs' hlg
  have h19 := f19_ok W h1 _ A _ _ vs s (hA'.keeps (hk0.trans hk01)) hb (by omega)
  repeat (first | (with_reducible first | apply x_seq | apply x_block | apply x_region | apply x_exit | apply x_ret | apply x_skip | apply t_normal | apply t_exit | apply t_ret | apply b_normal | apply b_ret | apply b_same | apply ops_nil | apply g_T | apply g_F | apply c_T | apply c_F) | (with_reducible refine b_other (by decide) ?_) | ((with_reducible apply x_draws); (with_reducible apply d_pure); (next => kernel_rfl)) | ((with_reducible first | apply ops_d | apply ops_g | apply x_c); (next => simp only [rop, opd, celsL, oneV, aadd, binV, isSh, intBin, scEq, keq, unV, fillL, oP, oA, oS, wantedA, BX, BL, BS, seval, *]; with_reducible exact rfl)))
  refine x_draws (d_eff (by kernel_rfl) ?_)
  repeat (first | (with_reducible first | apply x_seq | apply x_block | apply x_region | apply x_exit | apply x_ret | apply x_skip | apply t_normal | apply t_exit | apply t_ret | apply b_normal | apply b_ret | apply b_same | apply ops_nil | apply g_T | apply g_F | apply c_T | apply c_F) | (with_reducible refine b_other (by decide) ?_) | ((with_reducible apply x_draws); (with_reducible apply d_pure); (next => kernel_rfl)) | ((with_reducible first | apply ops_d | apply ops_g | apply x_c); (next => simp only [rop, opd, celsL, oneV, aadd, binV, isSh, intBin, scEq, keq, unV, fillL, oP, oA, oS, wantedA, BX, BL, BS, seval, *]; with_reducible exact rfl)))
  refine aop_callK rfl (by simp only [rop, opd, celsL, oneV, aadd, binV, isSh, intBin, scEq, keq, unV, fillL, oP, oA, oS, wantedA, BX, BL, BS, seval, *]) (by simp only [List.map_cons, List.map_nil, rop, opd, celsL, oneV, aadd, binV, isSh, intBin, scEq, keq, unV, fillL, oP, oA, oS, wantedA, BX, BL, BS, seval, *]) h19 ?_
  rintro r2 h2 ⟨rfl, hk3⟩
  clear h19
  have hk02 : Keeps H0 h2 := hk01.trans hk3
  have hb3 := hbk h2 hk02
  have h20 := f20_ok W h2 _ A _ _ vs s (hA'.keeps (hk0.trans hk02)) hb (by omega)
  clear hb2 hbk
  refine d_next (by kernel_rfl) (by kernel_rfl) ?_
  refine ops_nil ⟨?chk, ?rest⟩
  case chk =>
    intro o ho
    simp only [List.mem_cons, List.not_mem_nil, or_false] at ho
    rcases ho with rfl | rfl <;> simp only [Chk, kindOf, dval, rop, opd, celsL, oneV, aadd, binV, isSh, intBin, scEq, keq, unV, fillL, oP, oA, oS, wantedA, BX, BL, BS, seval, *]
  show AOp _ _ _ _ _
  refine aop_callK rfl (by simp only [rop, opd, celsL, oneV, aadd, binV, isSh, intBin, scEq, keq, unV, fillL, oP, oA, oS, wantedA, BX, BL, BS, seval, *]) (by simp only [List.map_cons, List.map_nil, rop, opd, celsL, oneV, aadd, binV, isSh, intBin, scEq, keq, unV, fillL, oP, oA, oS, wantedA, BX, BL, BS, seval, *]) h20 ?_
  rintro r3 h3 ⟨rfl, hk4⟩
  clear h20
  refine d_eff (by kernel_rfl) ?_
  repeat (first | (with_reducible first | apply x_seq | apply x_block | apply x_region | apply x_exit | apply x_ret | apply x_skip | apply t_normal | apply t_exit | apply t_ret | apply b_normal | apply b_ret | apply b_same | apply ops_nil | apply g_T | apply g_F | apply c_T | apply c_F) | (with_reducible refine b_other (by decide) ?_) | ((with_reducible apply x_draws); (with_reducible apply d_pure); (next => kernel_rfl)) | ((with_reducible first | apply ops_d | apply ops_g | apply x_c); (next => simp only [rop, opd, celsL, oneV, aadd, binV, isSh, intBin, scEq, keq, unV, fillL, oP, oA, oS, wantedA, BX, BL, BS, seval, *]; with_reducible exact rfl)))
  refine aop_callK (by simp only [rop, opd, celsL, oneV, aadd, binV, isSh, intBin, scEq, keq, unV, fillL, oP, oA, oS, wantedA, BX, BL, BS, seval, *]) (by simp only [rop, opd, celsL, oneV, aadd, binV, isSh, intBin, scEq, keq, unV, fillL, oP, oA, oS, wantedA, BX, BL, BS, seval, *]) (by simp only [List.map_cons, List.map_nil, rop, opd, celsL, oneV, aadd, binV, isSh, intBin, scEq, keq, unV, fillL, oP, oA, oS, wantedA, BX, BL, BS, seval, *]) (Orc.awake_ok W h3) ?_
  rintro r4 h4 ⟨rfl, rfl⟩
  repeat (first | (with_reducible first | apply x_seq | apply x_block | apply x_region | apply x_exit | apply x_ret | apply x_skip | apply t_normal | apply t_exit | apply t_ret | apply b_normal | apply b_ret | apply b_same | apply ops_nil | apply g_T | apply g_F | apply c_T | apply c_F) | (with_reducible refine b_other (by decide) ?_) | ((with_reducible apply x_draws); (with_reducible apply d_pure); (next => kernel_rfl)) | ((with_reducible first | apply ops_d | apply ops_g | apply x_c); (next => simp only [rop, opd, celsL, oneV, aadd, binV, isSh, intBin, scEq, keq, unV, fillL, oP, oA, oS, wantedA, BX, BL, BS, seval, *]; with_reducible exact rfl)))
  refine d_pure (by kernel_rfl) ?_
  repeat (first | (with_reducible first | apply x_seq | apply x_block | apply x_region | apply x_exit | apply x_ret | apply x_skip | apply t_normal | apply t_exit | apply t_ret | apply b_normal | apply b_ret | apply b_same | apply ops_nil | apply g_T | apply g_F | apply c_T | apply c_F) | (with_reducible refine b_other (by decide) ?_) | ((with_reducible apply x_draws); (with_reducible apply d_pure); (next => kernel_rfl)) | ((with_reducible first | apply ops_d | apply ops_g | apply x_c); (next => simp only [rop, opd, celsL, oneV, aadd, binV, isSh, intBin, scEq, keq, unV, fillL, oP, oA, oS, wantedA, BX, BL, BS, seval, *]; with_reducible exact rfl)))
  refine ⟨.inr rfl, _, rfl, ?_⟩
  simp only [resOf, rop, opd, celsL, oneV, aadd, binV, isSh, intBin, scEq, keq, unV, fillL, oP, oA, oS, wantedA, BX, BL, BS, seval]
end Go.Proofs.YtlipmjpapkfaeaaGreatDoor.Fn
