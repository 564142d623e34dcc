/- corporalaw20.AutomatonKeeps (F8) in the machine: it answers true.
Merged from 1 texts. -/
import Derived.Test.YtlipmjpapkfaeaaGreatDoorZC34
import Derived.Test.YtlipmjpapkfaeaaGreatDoorZC36
import Derived.Test.YtlipmjpapkfaeaaGreatDoorZC37
section
set_option linter.unusedSimpArgs false
set_option linter.unusedVariables false
set_option maxRecDepth 100000
namespace Go.Proofs.YtlipmjpapkfaeaaGreatDoor.Fn
open Go Go.Mach Go.RowKit Go.Proofs Go.Proofs.YtlipmjpapkfaeaaGreatDoor.Orc
attribute [local irreducible] AOps WPX DOps thenS blockS AOp GOps CPick

theorem large_arcsK {most : Int} {A : Aut} (h : largeA most A = false) : ∀ l ∈ A.arcs, l.length ≤ 12 := by
  intro l hl
  simp only [largeA, Bool.or_eq_false_iff] at h
  have := List.any_eq_false.1 h.2 l hl
  simp at this
  omega

/-- What 'large' is asked: one automaton, in a list made for it. -/
theorem largeK (W : World) (h : AHeap) (most : Int) (A : Aut) (vf va : Value) (vs : List Value) (hm0 : 0 ≤ most) (hm : most < 1073741824) (hA : AutoV W h (.agg #[vf, va]) A vf va vs) :
    ACalls Tryz.prog W 15 [.int .i64 most, .slice (some ⟨h.next, 0, some 0⟩) 1 2] (h.new (.cells [vf, va])) (fun r h' => r = .bool (largeA most A) ∧ Keeps (h.new (.cells [vf, va])) h') := by
  have ho : Ow (h.new (.cells [vf, va])) h.next 2 [[vf, va]] := ⟨by rw [AHeap.new_get, if_pos rfl]; rfl, fun e he => by simp at he; subst he; rfl, by rw [AHeap.new_next]; omega⟩
  have := f15_ok W (h.new (.cells [vf, va])) most (.slice (some ⟨h.next, 0, some 0⟩) 1 2) [A] [(vf, va, vs)] hm0 hm (by simp) rfl ho.sl (fun i c B hc hB => by
    have hi0 : i = 0 := by have := (List.getElem?_eq_some_iff.1 hc).1; simp at this; omega
    subst hi0
    simp at hc hB
    subst hc hB
    exact hA.keeps ((Keeps.refl h).new _))
  simpa using this

theorem chkAll_of {n : Nat} : ∀ {ls : List (List Arc3)}, (∀ l ∈ ls, chkFrom n none l = none) → chkAll n ls = none
  | [], _ => rfl
  | l :: ls, h => by unfold chkAll; rw [h l (by simp)]; exact chkAll_of fun x hx => h x (by simp [hx])
theorem canon_valid {M : Aut} (h : Canon M) (hn : M.fin.length ≤ 256) : validate M = 0 := by
  have hpos : M.fin.length ≠ 0 := by
    obtain ⟨cnt, c0, _, cn⟩ := h.bfs
    intro h0
    rw [h0, c0] at cn; omega
  unfold validate
  rw [if_neg (by omega), if_neg (by have := h.len; omega), chkAll_of h.srt]; rfl

theorem goA_goZ (A : Aut) : ∀ (cs : List Nat) (q : Int), goA A q cs = goZ A q (cs.map fun c : Nat => (c : Int))
  | [], q => rfl
  | c :: cs, q => goA_goZ A cs _
theorem accept_acc (A : Aut) (s : ByteArray) : acceptA A s = acc A 0 ((rest s 0).map fun c : Nat => (c : Int)) := by
  unfold acceptA acc
  rw [goA_goZ]
theorem run_same {A M : Aut} (hA : validate A = 0) (hM : validate M = 0) (h : ∀ cs, acc M 0 cs = acc A 0 cs) (s : ByteArray) : runA M s = runA A s := by
  unfold runA
  rw [hA, hM, accept_acc, accept_acc, h]

set_option maxHeartbeats 8000000 in
theorem f8_ok (W : World) (h : AHeap) (v : Value) (A : Aut) (vf va : Value) (vs : List Value) (s : ByteArray) (hA : AutoV W h v A vf va vs) :
    ACalls Tryz.prog W 8 [v, .string s] h (fun r h' => r = .bool true) := by
  have hA' := hA
  obtain ⟨rfl, hf, ha, hl, he⟩ := hA
  obtain ⟨fa, fc, hfs⟩ := hf.len
  obtain ⟨aa, ac, has⟩ := ha.len
  rw [List.length_map] at hfs has
  rw [hl] at has
  subst hfs has
  refine ACalls_ofX hmix c8 (Nat.le_of_ble_eq_true rfl) ?_
  unfold r8
  simp only [envOf2]
  obtain ⟨H0, hH0⟩ : ∃ H0, H0 = h.new (.cells [.slice fa A.fin.length fc, .slice aa A.arcs.length ac]) := ⟨_, rfl⟩
  have hk0 : Keeps h H0 := by rw [hH0]; exact (Keeps.refl h).new _
  have hn0 : h.next < H0.next := by rw [hH0, AHeap.new_next]; omega
  have hg0 : H0.own.get h.next = some (.cells [.slice fa A.fin.length fc, .slice aa A.arcs.length ac]) := by rw [hH0, AHeap.new_get, if_pos rfl]
  have hbg : ∀ g, Keeps H0 g → g.own.get h.next = some (.cells [.slice fa A.fin.length fc, .slice aa A.arcs.length ac]) := fun g hg => by rw [hg.same _ hn0]; exact hg0
  have hb1 := aload2 (W := W) (hbg H0 (Keeps.refl _))
  have h15 := largeK W H0 20 A _ _ vs (by omega) (by omega) (hA'.keeps hk0)
  have hk1 : Keeps H0 (H0.new (.cells [.slice fa A.fin.length fc, .slice aa A.arcs.length ac])) := (Keeps.refl _).new _
  rw [hH0] at hb1 h15
  repeat (first | (with_reducible first | apply x_seq | apply x_block | apply x_region | apply x_exit | apply x_ret | apply x_skip | apply t_normal | apply t_exit | apply t_ret | apply b_normal | apply b_ret | apply b_same | apply ops_nil | apply g_T | apply g_F | apply c_T | apply c_F) | (with_reducible refine b_other (by decide) ?_) | ((with_reducible apply x_draws); (with_reducible apply d_pure); (next => kernel_rfl)) | ((with_reducible first | apply ops_d | apply ops_g | apply x_c); (next => simp only [rop, opd, celsL, oneV, aadd, binV, isSh, intBin, scEq, keq, unV, fillL, oP, oA, oS, wantedA, BX, BL, BS, seval, *]; with_reducible exact rfl)))
  refine ops_callK (by simp only [rop, opd, celsL, oneV, aadd, binV, isSh, intBin, scEq, keq, unV, fillL, oP, oA, oS, wantedA, BX, BL, BS, seval, *]) (by simp only [List.map_cons, List.map_nil, rop, opd, celsL, oneV, aadd, binV, isSh, intBin, scEq, keq, unV, fillL, oP, oA, oS, wantedA, BX, BL, BS, seval, *]) h15 ?_
  rintro r1 h1 ⟨rfl, hk2⟩
  clear h15 hb1
  have hk01 : Keeps H0 h1 := by rw [hH0] at hk1 ⊢; exact hk1.trans hk2
  clear hk2 hk1
  cases hlg : largeA 20 A with
  | true =>
    repeat (first | (with_reducible first | apply x_seq | apply x_block | apply x_region | apply x_exit | apply x_ret | apply x_skip | apply t_normal | apply t_exit | apply t_ret | apply b_normal | apply b_ret | apply b_same | apply ops_nil | apply g_T | apply g_F | apply c_T | apply c_F) | (with_reducible refine b_other (by decide) ?_) | ((with_reducible apply x_draws); (with_reducible apply d_pure); (next => kernel_rfl)) | ((with_reducible first | apply ops_d | apply ops_g | apply x_c); (next => simp only [rop, opd, celsL, oneV, aadd, binV, isSh, intBin, scEq, keq, unV, fillL, oP, oA, oS, wantedA, BX, BL, BS, seval, *]; with_reducible exact rfl)))
    refine ⟨.inr rfl, _, rfl, ?_⟩
    simp only [resOf, rop, opd, celsL, oneV, aadd, binV, isSh, intBin, scEq, keq, unV, fillL, oP, oA, oS, wantedA, BX, BL, BS, seval]
  | false =>
  by_cases hss : (s.size : Int) > 40
  · repeat (first | (with_reducible first | apply x_seq | apply x_block | apply x_region | apply x_exit | apply x_ret | apply x_skip | apply t_normal | apply t_exit | apply t_ret | apply b_normal | apply b_ret | apply b_same | apply ops_nil | apply g_T | apply g_F | apply c_T | apply c_F) | (with_reducible refine b_other (by decide) ?_) | ((with_reducible apply x_draws); (with_reducible apply d_pure); (next => kernel_rfl)) | ((with_reducible first | apply ops_d | apply ops_g | apply x_c); (next => simp only [rop, opd, celsL, oneV, aadd, binV, isSh, intBin, scEq, keq, unV, fillL, oP, oA, oS, wantedA, BX, BL, BS, seval, *]; with_reducible exact rfl)))
    refine ⟨.inr rfl, _, rfl, ?_⟩
    simp only [resOf, rop, opd, celsL, oneV, aadd, binV, isSh, intBin, scEq, keq, unV, fillL, oP, oA, oS, wantedA, BX, BL, BS, seval]
  have hb := large_arcsK hlg
  have hb2 := aload2 (W := W) (hbg h1 hk01)
  have h21 := f21_ok W h1 _ A _ _ vs (hA'.keeps (hk0.trans hk01)) (fun l hl => by have := hb l hl; omega)
  repeat (first | (with_reducible first | apply x_seq | apply x_block | apply x_region | apply x_exit | apply x_ret | apply x_skip | apply t_normal | apply t_exit | apply t_ret | apply b_normal | apply b_ret | apply b_same | apply ops_nil | apply g_T | apply g_F | apply c_T | apply c_F) | (with_reducible refine b_other (by decide) ?_) | ((with_reducible apply x_draws); (with_reducible apply d_pure); (next => kernel_rfl)) | ((with_reducible first | apply ops_d | apply ops_g | apply x_c); (next => simp only [rop, opd, celsL, oneV, aadd, binV, isSh, intBin, scEq, keq, unV, fillL, oP, oA, oS, wantedA, BX, BL, BS, seval, *]; with_reducible exact rfl)))
  refine ops_callK (by simp only [rop, opd, celsL, oneV, aadd, binV, isSh, intBin, scEq, keq, unV, fillL, oP, oA, oS, wantedA, BX, BL, BS, seval, *]) (by simp only [List.map_cons, List.map_nil, rop, opd, celsL, oneV, aadd, binV, isSh, intBin, scEq, keq, unV, fillL, oP, oA, oS, wantedA, BX, BL, BS, seval, *]) h21 ?_
  rintro r2 h2 ⟨hmr, hk2⟩
  clear h21 hb2
  have hk02 := hk01.trans hk2
  rcases hmr with ⟨hv, rfl⟩ | ⟨hv, M, vf2, va2, vs2, rfl, hcan, hacc, ⟨hMn, hMb⟩, hF⟩
  · repeat (first | (with_reducible first | apply x_seq | apply x_block | apply x_region | apply x_exit | apply x_ret | apply x_skip | apply t_normal | apply t_exit | apply t_ret | apply b_normal | apply b_ret | apply b_same | apply ops_nil | apply g_T | apply g_F | apply c_T | apply c_F) | (with_reducible refine b_other (by decide) ?_) | ((with_reducible apply x_draws); (with_reducible apply d_pure); (next => kernel_rfl)) | ((with_reducible first | apply ops_d | apply ops_g | apply x_c); (next => simp only [rop, opd, celsL, oneV, aadd, binV, isSh, intBin, scEq, keq, unV, fillL, oP, oA, oS, wantedA, BX, BL, BS, seval, *]; with_reducible exact rfl)))
    refine ops_callK (by simp only [rop, opd, celsL, oneV, aadd, binV, isSh, intBin, scEq, keq, unV, fillL, oP, oA, oS, wantedA, BX, BL, BS, seval, *]) (by simp only [List.map_cons, List.map_nil, rop, opd, celsL, oneV, aadd, binV, isSh, intBin, scEq, keq, unV, fillL, oP, oA, oS, wantedA, BX, BL, BS, seval, *]) (Orc.awake_ok W _) ?_
    rintro r3 h3 ⟨rfl, rfl⟩
    repeat (first | (with_reducible first | apply x_seq | apply x_block | apply x_region | apply x_exit | apply x_ret | apply x_skip | apply t_normal | apply t_exit | apply t_ret | apply b_normal | apply b_ret | apply b_same | apply ops_nil | apply g_T | apply g_F | apply c_T | apply c_F) | (with_reducible refine b_other (by decide) ?_) | ((with_reducible apply x_draws); (with_reducible apply d_pure); (next => kernel_rfl)) | ((with_reducible first | apply ops_d | apply ops_g | apply x_c); (next => simp only [rop, opd, celsL, oneV, aadd, binV, isSh, intBin, scEq, keq, unV, fillL, oP, oA, oS, wantedA, BX, BL, BS, seval, *]; with_reducible exact rfl)))
    refine ⟨.inr rfl, _, rfl, ?_⟩
    simp only [resOf, rop, opd, celsL, oneV, aadd, binV, isSh, intBin, scEq, keq, unV, fillL, oP, oA, oS, wantedA, BX, BL, BS, seval]
  · obtain ⟨hn1, hn2, _, _⟩ := validate_zero hv
    have hMv : validate M = 0 := canon_valid hcan (by omega)
    have hrun := run_same hv hMv hacc s
    obtain ⟨fa2, fc2, e2⟩ := hF.auto.f.len
    obtain ⟨aa2, ac2, e3⟩ := hF.auto.a.len
    rw [List.length_map] at e2 e3
    rw [hF.auto.l] at e3
    subst e2 e3
    obtain ⟨G2, hG2⟩ : ∃ G2, G2 = (h2.new (.cells [.slice none 0 0, .slice none 0 0])).put h2.next (.cells [.slice fa2 M.fin.length fc2, .slice aa2 M.arcs.length ac2]) := ⟨_, rfl⟩
    have hkG2 : Keeps h2 G2 := by rw [hG2]; exact ((Keeps.refl h2).new _).put (Nat.le_refl _) _
    have hG2n : h2.next < G2.next := by rw [hG2, AHeap.put_next, AHeap.new_next]; omega
    have hbm0 : G2.own.get h2.next = some (.cells [.slice fa2 M.fin.length fc2, .slice aa2 M.arcs.length ac2]) := by rw [hG2, AHeap.put_get, if_pos rfl]
    have hbm : ∀ g, Keeps G2 g → g.own.get h2.next = some (.cells [.slice fa2 M.fin.length fc2, .slice aa2 M.arcs.length ac2]) := fun g hg => by rw [hg.same _ hG2n]; exact hbm0
    have hAM := hF.auto
    have h21b := f21_ok W G2 _ M _ _ vs2 (hAM.keeps hkG2) hMb
    have hbm1 := aload2 (W := W) hbm0
    rw [hG2] at h21b hbm1
    repeat (first | (with_reducible first | apply x_seq | apply x_block | apply x_region | apply x_exit | apply x_ret | apply x_skip | apply t_normal | apply t_exit | apply t_ret | apply b_normal | apply b_ret | apply b_same | apply ops_nil | apply g_T | apply g_F | apply c_T | apply c_F) | (with_reducible refine b_other (by decide) ?_) | ((with_reducible apply x_draws); (with_reducible apply d_pure); (next => kernel_rfl)) | ((with_reducible first | apply ops_d | apply ops_g | apply x_c); (next => simp only [rop, opd, celsL, oneV, aadd, binV, isSh, intBin, scEq, keq, unV, fillL, oP, oA, oS, wantedA, BX, BL, BS, seval, *]; with_reducible exact rfl)))
    refine ops_callK (by simp only [rop, opd, celsL, oneV, aadd, binV, isSh, intBin, scEq, keq, unV, fillL, oP, oA, oS, wantedA, BX, BL, BS, seval, *]) (by simp only [List.map_cons, List.map_nil, rop, opd, celsL, oneV, aadd, binV, isSh, intBin, scEq, keq, unV, fillL, oP, oA, oS, wantedA, BX, BL, BS, seval, *]) h21b ?_
    rintro r3 h3 ⟨hmr2, hk3⟩
    rw [← hG2] at hk3 hmr2
    clear h21b hbm1
    rcases hmr2 with ⟨hv2, _⟩ | ⟨_, M2, vf3, va3, vs3, rfl, hcan2, hacc2, _, hF3⟩
    · exact absurd hMv hv2
    have hM2 : M2 = M := canon_unique hcan2 hcan hacc2
    subst hM2
    obtain ⟨fa3, fc3, e2⟩ := hF3.auto.f.len
    obtain ⟨aa3, ac3, e3⟩ := hF3.auto.a.len
    rw [List.length_map] at e2 e3
    rw [hF3.auto.l] at e3
    subst e2 e3
    obtain ⟨G3, hG3⟩ : ∃ G3, G3 = (h3.new (.cells [.slice none 0 0, .slice none 0 0])).put h3.next (.cells [.slice fa3 M2.fin.length fc3, .slice aa3 M2.arcs.length ac3]) := ⟨_, rfl⟩
    have hkG3 : Keeps h3 G3 := by rw [hG3]; exact ((Keeps.refl h3).new _).put (Nat.le_refl _) _
    have hG3n : h3.next < G3.next := by rw [hG3, AHeap.put_next, AHeap.new_next]; omega
    have hbn0 : G3.own.get h3.next = some (.cells [.slice fa3 M2.fin.length fc3, .slice aa3 M2.arcs.length ac3]) := by rw [hG3, AHeap.put_get, if_pos rfl]
    have hAN := hF3.auto
    have hk2G3 : Keeps G2 G3 := hk3.trans hkG3
    have hkH3 : Keeps H0 G3 := (hk02.trans hkG2).trans hk2G3
    have hb16 : ∀ l ∈ M2.arcs, l.length < 1073741824 := fun l hl => by have := hMb l hl; omega
    have h16 := f16_ok W G3 _ M2 _ _ vs2 (hAM.keeps (hkG2.trans hk2G3)) hb16
    have hbm3 := aload2 (W := W) (hbm G3 hk2G3)
    rw [hG3] at h16 hbm3
    repeat (first | (with_reducible first | apply x_seq | apply x_block | apply x_region | apply x_exit | apply x_ret | apply x_skip | apply t_normal | apply t_exit | apply t_ret | apply b_normal | apply b_ret | apply b_same | apply ops_nil | apply g_T | apply g_F | apply c_T | apply c_F) | (with_reducible refine b_other (by decide) ?_) | ((with_reducible apply x_draws); (with_reducible apply d_pure); (next => kernel_rfl)) | ((with_reducible first | apply ops_d | apply ops_g | apply x_c); (next => simp only [rop, opd, celsL, oneV, aadd, binV, isSh, intBin, scEq, keq, unV, fillL, oP, oA, oS, wantedA, BX, BL, BS, seval, *]; with_reducible exact rfl)))
    refine x_draws (d_eff (by kernel_rfl) ?_)
    repeat (first | (with_reducible first | apply x_seq | apply x_block | apply x_region | apply x_exit | apply x_ret | apply x_skip | apply t_normal | apply t_exit | apply t_ret | apply b_normal | apply b_ret | apply b_same | apply ops_nil | apply g_T | apply g_F | apply c_T | apply c_F) | (with_reducible refine b_other (by decide) ?_) | ((with_reducible apply x_draws); (with_reducible apply d_pure); (next => kernel_rfl)) | ((with_reducible first | apply ops_d | apply ops_g | apply x_c); (next => simp only [rop, opd, celsL, oneV, aadd, binV, isSh, intBin, scEq, keq, unV, fillL, oP, oA, oS, wantedA, BX, BL, BS, seval, *]; with_reducible exact rfl)))
    refine aop_callK (by simp only [rop, opd, celsL, oneV, aadd, binV, isSh, intBin, scEq, keq, unV, fillL, oP, oA, oS, wantedA, BX, BL, BS, seval, *]) (by simp only [rop, opd, celsL, oneV, aadd, binV, isSh, intBin, scEq, keq, unV, fillL, oP, oA, oS, wantedA, BX, BL, BS, seval, *]) (by simp only [List.map_cons, List.map_nil, rop, opd, celsL, oneV, aadd, binV, isSh, intBin, scEq, keq, unV, fillL, oP, oA, oS, wantedA, BX, BL, BS, seval, *]) h16 ?_
    rintro r4 h4 ⟨rfl, hk4⟩
    rw [← hG3] at hk4
    clear h16 hbm3
    have hk24 : Keeps G2 h4 := hk2G3.trans hk4
    have hkH4 : Keeps H0 h4 := hkH3.trans hk4
    have hm4 := hbm h4 hk24
    have hm4l := aload2 (W := W) hm4
    have ha4 := hbg h4 hkH4
    have hn4 : h4.own.get h3.next = some (.cells [.slice fa3 M2.fin.length fc3, .slice aa3 M2.arcs.length ac3]) := by rw [hk4.same _ hG3n]; exact hbn0
    have hn4l := aload2 (W := W) hn4
    have hle : (M2.fin.length : Int) ≤ A.fin.length := by omega
    have hz : IntKind.i64.wrap 0 = 0 := by decide
    have hvd : decide (validate M2 = 0) = true := decide_eq_true hMv
    have h23 := f23_ok W h4 M2 _ _ _ _ vs2 vs3 (hAM.keeps (hkG2.trans hk24)) (hAN.keeps (hkG3.trans hk4)) (by omega) (by rw [hcan.len]; omega) hb16
    replace hMv : Hid (validate M2 = 0) := hMv
    refine d_eff (by kernel_rfl) ?_
    repeat (first | (with_reducible first | apply x_seq | apply x_block | apply x_region | apply x_exit | apply x_ret | apply x_skip | apply t_normal | apply t_exit | apply t_ret | apply b_normal | apply b_ret | apply b_same | apply ops_nil | apply g_T | apply g_F | apply c_T | apply c_F) | (with_reducible refine b_other (by decide) ?_) | ((with_reducible apply x_draws); (with_reducible apply d_pure); (next => kernel_rfl)) | ((with_reducible first | apply ops_d | apply ops_g | apply x_c); (next => simp only [rop, opd, celsL, oneV, aadd, binV, isSh, intBin, scEq, keq, unV, fillL, oP, oA, oS, wantedA, BX, BL, BS, seval, *]; with_reducible exact rfl)))
    refine aop_callK (by simp only [rop, opd, celsL, oneV, aadd, binV, isSh, intBin, scEq, keq, unV, fillL, oP, oA, oS, wantedA, BX, BL, BS, seval, *]) (by simp only [rop, opd, celsL, oneV, aadd, binV, isSh, intBin, scEq, keq, unV, fillL, oP, oA, oS, wantedA, BX, BL, BS, seval, *]) (by simp only [List.map_cons, List.map_nil, rop, opd, celsL, oneV, aadd, binV, isSh, intBin, scEq, keq, unV, fillL, oP, oA, oS, wantedA, BX, BL, BS, seval, *]) h23 ?_
    rintro r5 h5 ⟨rfl, hk5⟩
    clear h23 hm4 hm4l ha4 hn4 hn4l
    have hk25 : Keeps G2 h5 := hk24.trans hk5
    have hkH5 : Keeps H0 h5 := hkH4.trans hk5
    have hm5l := aload2 (W := W) (hbm h5 hk25)
    have ha5l := aload2 (W := W) (hbg h5 hkH5)
    have h19 := f19_ok W h5 _ M2 _ _ vs2 s (hAM.keeps (hkG2.trans hk25)) hb16 (by omega)
    refine d_eff (by kernel_rfl) ?_
    repeat (first | (with_reducible first | apply x_seq | apply x_block | apply x_region | apply x_exit | apply x_ret | apply x_skip | apply t_normal | apply t_exit | apply t_ret | apply b_normal | apply b_ret | apply b_same | apply ops_nil | apply g_T | apply g_F | apply c_T | apply c_F) | (with_reducible refine b_other (by decide) ?_) | ((with_reducible apply x_draws); (with_reducible apply d_pure); (next => kernel_rfl)) | ((with_reducible first | apply ops_d | apply ops_g | apply x_c); (next => simp only [rop, opd, celsL, oneV, aadd, binV, isSh, intBin, scEq, keq, unV, fillL, oP, oA, oS, wantedA, BX, BL, BS, seval, *]; with_reducible exact rfl)))
    refine aop_callK (by simp only [rop, opd, celsL, oneV, aadd, binV, isSh, intBin, scEq, keq, unV, fillL, oP, oA, oS, wantedA, BX, BL, BS, seval, *]) (by simp only [rop, opd, celsL, oneV, aadd, binV, isSh, intBin, scEq, keq, unV, fillL, oP, oA, oS, wantedA, BX, BL, BS, seval, *]) (by simp only [List.map_cons, List.map_nil, rop, opd, celsL, oneV, aadd, binV, isSh, intBin, scEq, keq, unV, fillL, oP, oA, oS, wantedA, BX, BL, BS, seval, *]) h19 ?_
    rintro r6 h6 ⟨rfl, hk6⟩
    clear h19 hm5l ha5l
    have hkH6 : Keeps H0 h6 := hkH5.trans hk6
    have ha6l := aload2 (W := W) (hbg h6 hkH6)
    have h19b := f19_ok W h6 _ A _ _ vs s (hA'.keeps (hk0.trans hkH6)) (fun l hl => by have := hb l hl; omega) (by omega)
    refine d_chk (by kernel_rfl) ?chk ?_
    case chk =>
      intro o ho
      simp only [List.mem_cons, List.not_mem_nil, or_false] at ho
      rcases ho with rfl | rfl <;> simp only [Chk, kindOf, dval, rop, opd, celsL, oneV, aadd, binV, isSh, intBin, scEq, keq, unV, fillL, oP, oA, oS, wantedA, BX, BL, BS, seval, *]
    refine aop_callK (by simp only [rop, opd, celsL, oneV, aadd, binV, isSh, intBin, scEq, keq, unV, fillL, oP, oA, oS, wantedA, BX, BL, BS, seval, *]) (by simp only [rop, opd, celsL, oneV, aadd, binV, isSh, intBin, scEq, keq, unV, fillL, oP, oA, oS, wantedA, BX, BL, BS, seval, *]) (by simp only [List.map_cons, List.map_nil, rop, opd, celsL, oneV, aadd, binV, isSh, intBin, scEq, keq, unV, fillL, oP, oA, oS, wantedA, BX, BL, BS, seval, *]) h19b ?_
    rintro r7 h7 ⟨rfl, hk7⟩
    clear h19b ha6l
    refine d_eff (by kernel_rfl) ?_
    repeat (first | (with_reducible first | apply x_seq | apply x_block | apply x_region | apply x_exit | apply x_ret | apply x_skip | apply t_normal | apply t_exit | apply t_ret | apply b_normal | apply b_ret | apply b_same | apply ops_nil | apply g_T | apply g_F | apply c_T | apply c_F) | (with_reducible refine b_other (by decide) ?_) | ((with_reducible apply x_draws); (with_reducible apply d_pure); (next => kernel_rfl)) | ((with_reducible first | apply ops_d | apply ops_g | apply x_c); (next => simp only [rop, opd, celsL, oneV, aadd, binV, isSh, intBin, scEq, keq, unV, fillL, oP, oA, oS, wantedA, BX, BL, BS, seval, *]; with_reducible exact rfl)))
    refine aop_callK (by simp only [rop, opd, celsL, oneV, aadd, binV, isSh, intBin, scEq, keq, unV, fillL, oP, oA, oS, wantedA, BX, BL, BS, seval, *]) (by simp only [rop, opd, celsL, oneV, aadd, binV, isSh, intBin, scEq, keq, unV, fillL, oP, oA, oS, wantedA, BX, BL, BS, seval, *]) (by simp only [List.map_cons, List.map_nil, rop, opd, celsL, oneV, aadd, binV, isSh, intBin, scEq, keq, unV, fillL, oP, oA, oS, wantedA, BX, BL, BS, seval, *]) (Orc.awake_ok W h7) ?_
    rintro r8 h8 ⟨rfl, rfl⟩
    refine d_pure (by kernel_rfl) ?_
    repeat (first | (with_reducible first | apply x_seq | apply x_block | apply x_region | apply x_exit | apply x_ret | apply x_skip | apply t_normal | apply t_exit | apply t_ret | apply b_normal | apply b_ret | apply b_same | apply ops_nil | apply g_T | apply g_F | apply c_T | apply c_F) | (with_reducible refine b_other (by decide) ?_) | ((with_reducible apply x_draws); (with_reducible apply d_pure); (next => kernel_rfl)) | ((with_reducible first | apply ops_d | apply ops_g | apply x_c); (next => simp only [rop, opd, celsL, oneV, aadd, binV, isSh, intBin, scEq, keq, unV, fillL, oP, oA, oS, wantedA, BX, BL, BS, seval, *]; with_reducible exact rfl)))
    refine ⟨.inr rfl, _, rfl, ?_⟩
    simp only [resOf, rop, opd, celsL, oneV, aadd, binV, isSh, intBin, scEq, keq, unV, fillL, oP, oA, oS, wantedA, BX, BL, BS, seval]
end Go.Proofs.YtlipmjpapkfaeaaGreatDoor.Fn
end
