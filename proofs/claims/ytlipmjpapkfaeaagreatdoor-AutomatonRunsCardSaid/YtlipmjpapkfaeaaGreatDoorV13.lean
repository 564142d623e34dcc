/- corporaref20.Run (F20) in the machine. No condition but sizes. -/
import Derived.Test.YtlipmjpapkfaeaaGreatDoorV12
import Derived.Test.YtlipmjpapkfaeaaGreatDoorV6
set_option linter.unusedSimpArgs false
set_option linter.unusedVariables false
set_option maxRecDepth 100000
namespace Go.Proofs.YtlipmjpapkfaeaaGreatDoor.Fn
open Go Go.Mach Go.RowKit Go.Proofs Go.Proofs.YtlipmjpapkfaeaaGreatDoor.Orc
attribute [local irreducible] AOps WPX DOps thenS blockS AOp GOps CPick

theorem goA_cons (A : Aut) (q : Int) (c : Nat) (cs : List Nat) : goA A q (c :: cs) = goA A (nextQ A q c) cs := rfl

theorem nextQ_range {A : Aut} (h : chkAll A.fin.length A.arcs = none) (hl : A.arcs.length = A.fin.length) {q : Int} (hq : q < 0 ∨ q.toNat < A.fin.length) (c : Int) : nextQ A q c < 0 ∨ (nextQ A q c).toNat < A.fin.length := by
  unfold nextQ
  split
  · left; omega
  · rename_i h0
    have hn : q.toNat < A.arcs.length := by omega
    have := nextA_range (chkAll_each h (A.arcs[q.toNat]) (List.getElem_mem hn)) c
    have e : A.arcs.getD q.toNat [] = A.arcs[q.toNat] := by simp [hn]
    rw [e]; omega

set_option maxHeartbeats 4000000 in
theorem f20_ok (W : World) (h : AHeap) (v : Value) (A : Aut) (vf va : Value) (vs : List Value) (s : ByteArray) (hA : AutoV W h v A vf va vs) (hb : ∀ l ∈ A.arcs, l.length < 1073741824) (hs : s.size < 1073741824) :
    ACalls Tryz.prog W 20 [v, .string s] h (fun r h' => r = .bool (runA A s) ∧ Keeps h h') := by
  have hA' := hA
  obtain ⟨rfl, hf, ha, hl, he⟩ := hA
  obtain ⟨fa, fc, hfs⟩ := hf.len
  obtain ⟨aa, ac, has⟩ := ha.len
  rw [List.length_map] at hfs has
  rw [hl] at has
  subst hfs has
  refine ACalls_ofX hmix c20 (Nat.le_of_ble_eq_true rfl) ?_
  unfold r20
  simp only [envOf2]
  have hk0 : Keeps h (h.new (.cells [.slice fa A.fin.length fc, .slice aa A.arcs.length ac])) := (Keeps.refl h).new _
  have hown0 : (h.new (.cells [.slice fa A.fin.length fc, .slice aa A.arcs.length ac])).own.get h.next = some (.cells [.slice fa A.fin.length fc, .slice aa A.arcs.length ac]) := by rw [AHeap.new_get, if_pos rfl]
  have hn0 : (h.new (.cells [.slice fa A.fin.length fc, .slice aa A.arcs.length ac])).next = h.next + 1 := AHeap.new_next _ _
  have h17 := f17_ok W (h.new (.cells [.slice fa A.fin.length fc, .slice aa A.arcs.length ac])) _ A _ _ vs (hA'.keeps hk0) hb
  have hb1 : aloadN W (h.new (.cells [.slice fa A.fin.length fc, .slice aa A.arcs.length ac])) ⟨h.next, 0, some 0⟩ 2 = some [.slice fa A.fin.length fc, .slice aa A.arcs.length ac] := by simp [aloadN, aload1, aadd, AHeap.new_get]
  repeat (first | (with_reducible first | apply x_seq | apply x_block | apply x_region | apply x_exit | apply x_ret | apply x_skip | apply t_normal | apply t_exit | apply t_ret | apply b_normal | apply b_ret | apply b_same | apply ops_nil | apply g_T | apply g_F | apply c_T | apply c_F) | (with_reducible refine b_other (by decide) ?_) | ((with_reducible apply x_draws); (with_reducible apply d_pure); (next => kernel_rfl)) | ((with_reducible first | apply ops_d | apply ops_g | apply x_c); (next => simp only [rop, opd, celsL, oneV, aadd, binV, isSh, intBin, scEq, keq, unV, fillL, oP, oA, oS, wantedA, BX, BL, BS, seval, *]; with_reducible exact rfl)))
  refine ops_callK (by simp only [rop, opd, celsL, oneV, aadd, binV, isSh, intBin, scEq, keq, unV, fillL, oP, oA, oS, wantedA, BX, BL, BS, seval, *]) (by simp only [List.map_cons, List.map_nil, rop, opd, celsL, oneV, aadd, binV, isSh, intBin, scEq, keq, unV, fillL, oP, oA, oS, wantedA, BX, BL, BS, seval, *]) h17 ?_
  rintro r1 h1 ⟨rfl, hk1⟩
  clear h17
  have hown1 : h1.own.get h.next = some (.cells [.slice fa A.fin.length fc, .slice aa A.arcs.length ac]) := by rw [hk1.same _ (by rw [hn0]; omega)]; exact hown0
  have hle1 : h.next < h1.next := by have := hk1.le; omega
  have hk01 : Keeps h h1 := hk0.trans hk1
  clear hown0 hn0 hk1 hk0 hb1
  by_cases hv0 : validate A = 0
  case neg =>
    have hv : runA A s = false := by simp [runA, hv0]
    repeat (first | (with_reducible first | apply x_seq | apply x_block | apply x_region | apply x_exit | apply x_ret | apply x_skip | apply t_normal | apply t_exit | apply t_ret | apply b_normal | apply b_ret | apply b_same | apply ops_nil | apply g_T | apply g_F | apply c_T | apply c_F) | (with_reducible refine b_other (by decide) ?_) | ((with_reducible apply x_draws); (with_reducible apply d_pure); (next => kernel_rfl)) | ((with_reducible first | apply ops_d | apply ops_g | apply x_c); (next => simp only [rop, opd, celsL, oneV, aadd, binV, isSh, intBin, scEq, keq, unV, fillL, oP, oA, oS, wantedA, BX, BL, BS, seval, *]; with_reducible exact rfl)))
    refine ⟨.inr rfl, _, rfl, ?_, hk01⟩
    simp only [resOf, rop, opd, celsL, oneV, aadd, binV, isSh, intBin, scEq, keq, unV, fillL, oP, oA, oS, wantedA, BX, BL, BS, seval, hv]
  obtain ⟨hn1, hn2, hn3', hn4⟩ := validate_zero hv0
  have hn3 : Hid (A.arcs.length = A.fin.length) := hn3'
  clear hn3'
  have hv0' : (!decide (validate A = 0)) = false := by simp [hv0]
  have h42 := f42_ok W h1 s hs
  have hrun : runA A s = (validB s && acceptA A s) := by simp [runA, hv0]
  clear hv0
  repeat (first | (with_reducible first | apply x_seq | apply x_block | apply x_region | apply x_exit | apply x_ret | apply x_skip | apply t_normal | apply t_exit | apply t_ret | apply b_normal | apply b_ret | apply b_same | apply ops_nil | apply g_T | apply g_F | apply c_T | apply c_F) | (with_reducible refine b_other (by decide) ?_) | ((with_reducible apply x_draws); (with_reducible apply d_pure); (next => kernel_rfl)) | ((with_reducible first | apply ops_d | apply ops_g | apply x_c); (next => simp only [rop, opd, celsL, oneV, aadd, binV, isSh, intBin, scEq, keq, unV, fillL, oP, oA, oS, wantedA, BX, BL, BS, seval, *]; with_reducible exact rfl)))
  refine ops_callK (by simp only [rop, opd, celsL, oneV, aadd, binV, isSh, intBin, scEq, keq, unV, fillL, oP, oA, oS, wantedA, BX, BL, BS, seval, *]) (by simp only [List.map_cons, List.map_nil, rop, opd, celsL, oneV, aadd, binV, isSh, intBin, scEq, keq, unV, fillL, oP, oA, oS, wantedA, BX, BL, BS, seval, *]) h42 ?_
  rintro r2 h2 ⟨rfl, hk2⟩
  clear h42
  have hown2 : h2.own.get h.next = some (.cells [.slice fa A.fin.length fc, .slice aa A.arcs.length ac]) := by rw [hk2.same _ hle1]; exact hown1
  have hle2 : h.next < h2.next := by have := hk2.le; omega
  have hk02 : Keeps h h2 := hk01.trans hk2
  clear hown1 hle1 hk01 hk2
  cases hvs : validB s with
  | false =>
    rw [hvs, Bool.false_and] at hrun
    repeat (first | (with_reducible first | apply x_seq | apply x_block | apply x_region | apply x_exit | apply x_ret | apply x_skip | apply t_normal | apply t_exit | apply t_ret | apply b_normal | apply b_ret | apply b_same | apply ops_nil | apply g_T | apply g_F | apply c_T | apply c_F) | (with_reducible refine b_other (by decide) ?_) | ((with_reducible apply x_draws); (with_reducible apply d_pure); (next => kernel_rfl)) | ((with_reducible first | apply ops_d | apply ops_g | apply x_c); (next => simp only [rop, opd, celsL, oneV, aadd, binV, isSh, intBin, scEq, keq, unV, fillL, oP, oA, oS, wantedA, BX, BL, BS, seval, *]; with_reducible exact rfl)))
    refine ⟨.inr rfl, _, rfl, ?_, hk02⟩
    simp only [resOf, rop, opd, celsL, oneV, aadd, binV, isSh, intBin, scEq, keq, unV, fillL, oP, oA, oS, wantedA, BX, BL, BS, seval, hrun]
  | true =>
  rw [hvs, Bool.true_and] at hrun
  repeat (first | (with_reducible first | apply x_seq | apply x_block | apply x_region | apply x_exit | apply x_ret | apply x_skip | apply t_normal | apply t_exit | apply t_ret | apply b_normal | apply b_ret | apply b_same | apply ops_nil | apply g_T | apply g_F | apply c_T | apply c_F) | (with_reducible refine b_other (by decide) ?_) | ((with_reducible apply x_draws); (with_reducible apply d_pure); (next => kernel_rfl)) | ((with_reducible first | apply ops_d | apply ops_g | apply x_c); (next => simp only [rop, opd, celsL, oneV, aadd, binV, isSh, intBin, scEq, keq, unV, fillL, oP, oA, oS, wantedA, BX, BL, BS, seval, *]; with_reducible exact rfl)))
  refine WPX.loop hmix (fun k σ => ∃ (pos : Nat) (q : Int), k = s.size - pos ∧ eget σ.e 2 = .pointer (some ⟨h.next, 0, some 0⟩) ∧ eget σ.e 5 = .int .i64 q ∧ eget σ.e 17 = .pointer (some ⟨h2.next, 0, some 0⟩) ∧
    σ.h.own.get h2.next = some (.iter s pos) ∧ σ.h.own.get h.next = some (.cells [.slice fa A.fin.length fc, .slice aa A.arcs.length ac]) ∧ h2.next < σ.h.next ∧ Keeps h σ.h ∧ (q < 0 ∨ q.toNat < A.fin.length) ∧ goA A q (rest s pos) = goA A 0 (rest s 0)) s.size ?h0 ?round
  case h0 =>
    refine ⟨0, 0, rfl, (by simp only [rop, opd, celsL, oneV, aadd, binV, isSh, intBin, scEq, keq, unV, fillL, oP, oA, oS, wantedA, BX, BL, BS, seval, *]), (by simp only [rop, opd, celsL, oneV, aadd, binV, isSh, intBin, scEq, keq, unV, fillL, oP, oA, oS, wantedA, BX, BL, BS, seval, *]), (by simp only [rop, opd, celsL, oneV, aadd, binV, isSh, intBin, scEq, keq, unV, fillL, oP, oA, oS, wantedA, BX, BL, BS, seval, *]), (by simp only [rop, opd, celsL, oneV, aadd, binV, isSh, intBin, scEq, keq, unV, fillL, oP, oA, oS, wantedA, BX, BL, BS, seval, *]), ?_, (by simp only [AHeap.new_next]; omega), hk02.new _, by right; show 0 < _; omega, rfl⟩
    simp only [AHeap.new_get]
    rw [if_neg (by omega)]; exact hown2
  rintro k ⟨e, hh⟩ ⟨pos, q, rfl, e2, e5, e17, hit, hbx, hlt, hk, hq, hgo⟩
  dsimp only at e2 e5 e17 hit hbx hlt hk
  clear hown2
  have hne : ¬ h.next = h2.next := by omega
  by_cases hp : pos < s.size
  · have hblt := blt_of' hp
    obtain ⟨⟨c, w⟩, hd⟩ : ∃ x, Utf8.decode s pos = x := ⟨_, rfl⟩
    have hw := width_pos s pos hp
    rw [hd] at hw
    dsimp only at hw
    rw [rest_cons hp hd, goA_cons] at hgo
    have hkp : Keeps h (hh.put h2.next (.iter s (pos + w))) := hk.put (by omega) _
    have h43 := f43_ok W (hh.put h2.next (.iter s (pos + w))) _ A _ _ vs q c (hA'.keeps hkp) hb (by have := hn3.out; omega)
    have hq' := nextQ_range hn4 hn3.out hq (c : Int)
    have hld : aloadN W (hh.put h2.next (.iter s (pos + w))) ⟨h.next, 0, some 0⟩ 2 = some [.slice fa A.fin.length fc, .slice aa A.arcs.length ac] := by simp [aloadN, aload1, aadd, AHeap.put_get, hne, hbx]
    clear hq
    repeat (first | (with_reducible first | apply x_seq | apply x_block | apply x_region | apply x_exit | apply x_ret | apply x_skip | apply t_normal | apply t_exit | apply t_ret | apply b_normal | apply b_ret | apply b_same | apply ops_nil | apply g_T | apply g_F | apply c_T | apply c_F) | (with_reducible refine b_other (by decide) ?_) | ((with_reducible apply x_draws); (with_reducible apply d_pure); (next => kernel_rfl)) | ((with_reducible first | apply ops_d | apply ops_g | apply x_c); (next => simp only [rop, opd, celsL, oneV, aadd, binV, isSh, intBin, scEq, keq, unV, fillL, oP, oA, oS, wantedA, BX, BL, BS, seval, *]; with_reducible exact rfl)))
    refine ops_callK (by simp only [rop, opd, celsL, oneV, aadd, binV, isSh, intBin, scEq, keq, unV, fillL, oP, oA, oS, wantedA, BX, BL, BS, seval, *]) (by simp only [List.map_cons, List.map_nil, rop, opd, celsL, oneV, aadd, binV, isSh, intBin, scEq, keq, unV, fillL, oP, oA, oS, wantedA, BX, BL, BS, seval, *]) h43 ?_
    rintro r3 h3 ⟨rfl, hk3⟩
    clear h43
    have hk03 : Keeps h h3 := hkp.trans hk3
    have hi3 : h3.own.get h2.next = some (.iter s (pos + w)) := by rw [hk3.same _ (by rw [AHeap.put_next]; exact hlt), AHeap.put_get, if_pos rfl]
    have hb3 : h3.own.get h.next = some (.cells [.slice fa A.fin.length fc, .slice aa A.arcs.length ac]) := by rw [hk3.same _ (by rw [AHeap.put_next]; omega), AHeap.put_get, if_neg hne]; exact hbx
    have hl3 : h2.next < h3.next := by have := hk3.le; rw [AHeap.put_next] at this; omega
    clear hbx hit hrun hld
    repeat (first | (with_reducible first | apply x_seq | apply x_block | apply x_region | apply x_exit | apply x_ret | apply x_skip | apply t_normal | apply t_exit | apply t_ret | apply b_normal | apply b_ret | apply b_same | apply ops_nil | apply g_T | apply g_F | apply c_T | apply c_F) | (with_reducible refine b_other (by decide) ?_) | ((with_reducible apply x_draws); (with_reducible apply d_pure); (next => kernel_rfl)) | ((with_reducible first | apply ops_d | apply ops_g | apply x_c); (next => simp only [rop, opd, celsL, oneV, aadd, binV, isSh, intBin, scEq, keq, unV, fillL, oP, oA, oS, wantedA, BX, BL, BS, seval, *]; with_reducible exact rfl)))
    exact ⟨s.size - (pos + w), by omega, pos + w, _, rfl, (by simp only [rop, opd, celsL, oneV, aadd, binV, isSh, intBin, scEq, keq, unV, fillL, oP, oA, oS, wantedA, BX, BL, BS, seval, *]), (by simp only [rop, opd, celsL, oneV, aadd, binV, isSh, intBin, scEq, keq, unV, fillL, oP, oA, oS, wantedA, BX, BL, BS, seval, *]), (by simp only [rop, opd, celsL, oneV, aadd, binV, isSh, intBin, scEq, keq, unV, fillL, oP, oA, oS, wantedA, BX, BL, BS, seval, *]), hi3, hb3, hl3, hk03, hq', hgo⟩
  · have hblt := blt_not' hp
    have hgo : q = goA A 0 (rest s 0) := by rw [← hgo, rest_end hp]; rfl
    by_cases hq0 : q ≥ 0
    · obtain ⟨n, rfl⟩ : ∃ n : Nat, q = n := ⟨q.toNat, by omega⟩
      have hn : n < A.fin.length := by omega
      have hxm : (A.fin.map fun b => [Value.bool b])[n]? = some [.bool A.fin[n]] := by simp [hn]
      obtain ⟨a, ha1, _, ha3⟩ := (hf.keeps hk).at hxm
      have hrd := (ha3 0 (.bool A.fin[n]) rfl).1
      have haa : aadd a 0 = a := rfl
      rw [haa] at hrd
      have hv : runA A s = A.fin[n] := by
        rw [hrun]; unfold acceptA; rw [← hgo]; simp [hn]
      clear ha3 hxm hgo hrun hq
      repeat (first | (with_reducible first | apply x_seq | apply x_block | apply x_region | apply x_exit | apply x_ret | apply x_skip | apply t_normal | apply t_exit | apply t_ret | apply b_normal | apply b_ret | apply b_same | apply ops_nil | apply g_T | apply g_F | apply c_T | apply c_F) | (with_reducible refine b_other (by decide) ?_) | ((with_reducible apply x_draws); (with_reducible apply d_pure); (next => kernel_rfl)) | ((with_reducible first | apply ops_d | apply ops_g | apply x_c); (next => simp only [rop, opd, celsL, oneV, aadd, binV, isSh, intBin, scEq, keq, unV, fillL, oP, oA, oS, wantedA, BX, BL, BS, seval, *]; with_reducible exact rfl)))
      refine ⟨.inr rfl, _, rfl, ?_, hk⟩
      simp only [resOf, rop, opd, celsL, oneV, aadd, binV, isSh, intBin, scEq, keq, unV, fillL, oP, oA, oS, wantedA, BX, BL, BS, seval, hv]
    · have hv : runA A s = false := by
        rw [hrun]; unfold acceptA; rw [← hgo]; simp [hq0]
      clear hgo hrun hq
      repeat (first | (with_reducible first | apply x_seq | apply x_block | apply x_region | apply x_exit | apply x_ret | apply x_skip | apply t_normal | apply t_exit | apply t_ret | apply b_normal | apply b_ret | apply b_same | apply ops_nil | apply g_T | apply g_F | apply c_T | apply c_F) | (with_reducible refine b_other (by decide) ?_) | ((with_reducible apply x_draws); (with_reducible apply d_pure); (next => kernel_rfl)) | ((with_reducible first | apply ops_d | apply ops_g | apply x_c); (next => simp only [rop, opd, celsL, oneV, aadd, binV, isSh, intBin, scEq, keq, unV, fillL, oP, oA, oS, wantedA, BX, BL, BS, seval, *]; with_reducible exact rfl)))
      refine ⟨.inr rfl, _, rfl, ?_, hk⟩
      simp only [resOf, rop, opd, celsL, oneV, aadd, binV, isSh, intBin, scEq, keq, unV, fillL, oP, oA, oS, wantedA, BX, BL, BS, seval, hv]
end Go.Proofs.YtlipmjpapkfaeaaGreatDoor.Fn
