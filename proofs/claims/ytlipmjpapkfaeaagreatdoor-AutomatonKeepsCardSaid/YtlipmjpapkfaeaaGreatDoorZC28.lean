/- automaton.alive (F56) in the machine: the walk. No condition but sizes.
Merged from 3 texts. -/
import Derived.Test.YtlipmjpapkfaeaaGreatDoorZC24
import Derived.Test.YtlipmjpapkfaeaaGreatDoorZC27
import Derived.Test.YtlipmjpapkfaeaaGreatDoorZC9
import Derived.Test.YtlipmjpapkfaeaaGreatDoorZC11
section
set_option linter.unusedSimpArgs false
set_option linter.unusedVariables false
set_option maxRecDepth 100000
namespace Go.Proofs.YtlipmjpapkfaeaaGreatDoor.Fn
open Go Go.Mach Go.RowKit Go.Proofs
attribute [local irreducible] AOps WPX DOps thenS blockS AOp GOps CPick

theorem Lists.init {h : AHeap} (n : Nat) : Lists h.next (h.new (.cells (repL [.slice none 0 0] n))) (List.replicate n ⟨none, 0, []⟩) :=
  ⟨by have := mk_ow (h := h) (z := .slice none 0 0) n
      rwa [show (List.replicate n (⟨none, 0, []⟩ : LV)).map LV.e = List.replicate n [Value.slice none 0 0] by simp [LV.e, LV.v]], fun i p hp => by
    obtain ⟨_, e⟩ := List.mem_replicate.1 (List.mem_of_getElem? hp); rw [e]; exact OwnV.nil _ _ _, fun i j p q _ hp _ => by
    obtain ⟨_, e⟩ := List.mem_replicate.1 (List.mem_of_getElem? hp); rw [e]; exact Apart.none_l _⟩

set_option maxHeartbeats 8000000 in
theorem f56_ok (W : World) (h : AHeap) (v : Value) (A : Aut) (vf va : Value) (vs : List Value) (hA : AutoV W h v A vf va vs) (w : Wf A) (hn : A.fin.length ≤ 256) (hb : ∀ l ∈ A.arcs, l.length < 1048576) :
    ACalls Tryz.prog W 56 [v] h (fun r h' => (∃ a c ol, r = .slice a A.fin.length c ∧ OwnV h.next h' a c 1 (List.map boolV ol) ∧ ol.length = A.fin.length ∧ ∀ q : Nat, ol[q]? = some true ↔ Live A q) ∧ Keeps h h') := by
  have hA' := hA
  obtain ⟨rfl, hf, ha, hl, he⟩ := hA
  obtain ⟨fa, fc, hfs⟩ := hf.len
  obtain ⟨aa, ac, has⟩ := ha.len
  rw [List.length_map] at hfs has
  rw [hl, w.len] at has
  subst hfs has
  rw [w.len] at hl
  refine ACalls_ofX hmix c56 (Nat.le_of_ble_eq_true rfl) ?_
  unfold r56
  simp only [envOf1]
  obtain ⟨n, hnn⟩ : ∃ n, n = A.fin.length := ⟨_, rfl⟩
  rw [← hnn] at hf ha hA' hl hn ⊢
  have hwn : IntKind.i64.wrap (n : Int) = n := wrap_i64 (by omega) (by omega)
  have h0n : (0 : Int) ≤ n := by omega
  have hle : (n : Int) ≤ n := Int.le_refl _
  have h24 : 24 * (n : Int) ≤ 1099511627776 := by omega
  have h1n : 1 * (n : Int) ≤ 1099511627776 := by omega
  have htn : (n : Int).toNat = n := rfl
  have hLi := (Lists.init (h := h.new (.cells [.slice fa n fc, .slice aa n ac])) n)
  rw [AHeap.new_next] at hLi
  have hBi := Before.init A 1048576 n hnn
  have hki : Keeps h ((h.new (.cells [.slice fa n fc, .slice aa n ac])).new (.cells (repL [.slice none 0 0] n))) := ((Keeps.refl h).new _).new _
  have hbi : ((h.new (.cells [.slice fa n fc, .slice aa n ac])).new (.cells (repL [.slice none 0 0] n))).own.get h.next = some (.cells [.slice fa n fc, .slice aa n ac]) := by
    rw [AHeap.new_get, AHeap.new_next, if_neg (by omega), AHeap.new_get, if_pos rfl]
  replace hnn : Hid (n = A.fin.length) := hnn
  repeat (first | (with_reducible first | apply x_seq | apply x_block | apply x_region | apply x_exit | apply x_ret | apply x_skip | apply t_normal | apply t_exit | apply t_ret | apply b_normal | apply b_ret | apply b_same | apply ops_nil | apply g_T | apply g_F | apply c_T | apply c_F) | (with_reducible refine b_other (by decide) ?_) | ((with_reducible apply x_draws); (with_reducible apply d_pure); (next => kernel_rfl)) | ((with_reducible first | apply ops_d | apply ops_g | apply x_c); (next => simp only [rop, opd, celsL, oneV, aadd, binV, isSh, intBin, scEq, keq, unV, fillL, oP, oA, oS, wantedA, BX, BL, BS, seval, *]; with_reducible exact rfl)))
  refine WPX.loop hmix (fun k σ => ∃ i bl, i ≤ n ∧ k = n - i ∧ eget σ.e 1 = .pointer (some ⟨h.next, 0, some 0⟩) ∧ eget σ.e 3 = .slice (some ⟨h.next + 1, 0, some 0⟩) n 1 ∧ eget σ.e 20 = .slice aa n ac ∧ eget σ.e 21 = .int .i64 n ∧ eget σ.e 22 = .int .i64 (i : Nat) ∧
    σ.h.own.get h.next = some (.cells [.slice fa n fc, .slice aa n ac]) ∧ Keeps h σ.h ∧ Lists (h.next + 1) σ.h bl ∧ Before A 1048576 i 0 bl) n ?h0 ?round
  case h0 => exact ⟨0, _, Nat.zero_le _, rfl, (by simp only [rop, opd, celsL, oneV, aadd, binV, isSh, intBin, scEq, keq, unV, fillL, oP, oA, oS, wantedA, BX, BL, BS, seval, *]), (by simp only [rop, opd, celsL, oneV, aadd, binV, isSh, intBin, scEq, keq, unV, fillL, oP, oA, oS, wantedA, BX, BL, BS, seval, *]), (by simp only [rop, opd, celsL, oneV, aadd, binV, isSh, intBin, scEq, keq, unV, fillL, oP, oA, oS, wantedA, BX, BL, BS, seval, *]), (by simp only [rop, opd, celsL, oneV, aadd, binV, isSh, intBin, scEq, keq, unV, fillL, oP, oA, oS, wantedA, BX, BL, BS, seval, *]), (by simp only [rop, opd, celsL, oneV, aadd, binV, isSh, intBin, scEq, keq, unV, fillL, oP, oA, oS, wantedA, BX, BL, BS, seval, *]), hbi, hki, hLi, hBi⟩
  clear hbi hki hLi hBi
  rintro k ⟨e, hh⟩ ⟨i, bl, hi, rfl, e1, e3, e20, e21, e22, hbx, hk, hL, hB⟩
  dsimp only at e1 e3 e20 e21 e22 hbx hk hL
  by_cases hlt : i < n
  · have hltI : (i : Int) < n := by omega
    obtain ⟨l, hll⟩ : ∃ l, A.arcs[i]? = some l := ⟨_, List.getElem?_eq_getElem (by rw [w.len, ← hnn.out]; exact hlt)⟩
    obtain ⟨x, hxs⟩ : ∃ x, vs[i]? = some x := ⟨_, List.getElem?_eq_getElem (show i < vs.length by omega)⟩
    have hxm : (vs.map fun x => [x])[i]? = some [x] := by simp [hxs]
    obtain ⟨a, ha1, _, ha3⟩ := (ha.keeps hk).at hxm
    have hrd := (ha3 0 x rfl).1
    have haa : aadd a 0 = a := rfl
    rw [haa] at hrd
    have hsl := he i x l hxs hll
    obtain ⟨la, lc, hls⟩ := hsl.len
    rw [List.length_map] at hls
    subst hls
    have hlm := List.mem_of_getElem? hll
    have hbl := hb l hlm
    have hw1 : IntKind.i64.wrap ((i : Int) + 1) = ((i + 1 : Nat) : Int) := wrap_i64 (by omega) (by omega)
    clear ha3 hxm hxs
    repeat (first | (with_reducible first | apply x_seq | apply x_block | apply x_region | apply x_exit | apply x_ret | apply x_skip | apply t_normal | apply t_exit | apply t_ret | apply b_normal | apply b_ret | apply b_same | apply ops_nil | apply g_T | apply g_F | apply c_T | apply c_F) | (with_reducible refine b_other (by decide) ?_) | ((with_reducible apply x_draws); (with_reducible apply d_pure); (next => kernel_rfl)) | ((with_reducible first | apply ops_d | apply ops_g | apply x_c); (next => simp only [rop, opd, celsL, oneV, aadd, binV, isSh, intBin, scEq, keq, unV, fillL, oP, oA, oS, wantedA, BX, BL, BS, seval, *]; with_reducible exact rfl)))
    refine WPX.loop hmix (fun m σ => ∃ j bl, j ≤ l.length ∧ m = l.length - j ∧ eget σ.e 1 = .pointer (some ⟨h.next, 0, some 0⟩) ∧ eget σ.e 3 = .slice (some ⟨h.next + 1, 0, some 0⟩) n 1 ∧ eget σ.e 4 = .int .i64 (i : Nat) ∧ eget σ.e 20 = .slice aa n ac ∧ eget σ.e 21 = .int .i64 n ∧ eget σ.e 22 = .int .i64 (i : Nat) ∧
      eget σ.e 27 = .slice la l.length lc ∧ eget σ.e 28 = .int .i64 l.length ∧ eget σ.e 29 = .int .i64 (j : Nat) ∧ σ.h.own.get h.next = some (.cells [.slice fa n fc, .slice aa n ac]) ∧ Keeps h σ.h ∧ Lists (h.next + 1) σ.h bl ∧ Before A 1048576 i j bl) l.length ?h1 ?round1
    case h1 => exact ⟨0, bl, Nat.zero_le _, rfl, (by simp only [rop, opd, celsL, oneV, aadd, binV, isSh, intBin, scEq, keq, unV, fillL, oP, oA, oS, wantedA, BX, BL, BS, seval, *]), (by simp only [rop, opd, celsL, oneV, aadd, binV, isSh, intBin, scEq, keq, unV, fillL, oP, oA, oS, wantedA, BX, BL, BS, seval, *]), (by simp only [rop, opd, celsL, oneV, aadd, binV, isSh, intBin, scEq, keq, unV, fillL, oP, oA, oS, wantedA, BX, BL, BS, seval, *]), (by simp only [rop, opd, celsL, oneV, aadd, binV, isSh, intBin, scEq, keq, unV, fillL, oP, oA, oS, wantedA, BX, BL, BS, seval, *]), (by simp only [rop, opd, celsL, oneV, aadd, binV, isSh, intBin, scEq, keq, unV, fillL, oP, oA, oS, wantedA, BX, BL, BS, seval, *]), (by simp only [rop, opd, celsL, oneV, aadd, binV, isSh, intBin, scEq, keq, unV, fillL, oP, oA, oS, wantedA, BX, BL, BS, seval, *]), (by simp only [rop, opd, celsL, oneV, aadd, binV, isSh, intBin, scEq, keq, unV, fillL, oP, oA, oS, wantedA, BX, BL, BS, seval, *]), (by simp only [rop, opd, celsL, oneV, aadd, binV, isSh, intBin, scEq, keq, unV, fillL, oP, oA, oS, wantedA, BX, BL, BS, seval, *]), (by simp only [rop, opd, celsL, oneV, aadd, binV, isSh, intBin, scEq, keq, unV, fillL, oP, oA, oS, wantedA, BX, BL, BS, seval, *]), hbx, hk, hL, hB⟩
    clear e1 e3 e20 e21 e22 hbx hk hL hB hrd ha1
    rintro m ⟨e', g⟩ ⟨j, bl, hj, rfl, q1, q3, q4, q20, q21, q22, q27, q28, q29, hbx, hk, hL, hB⟩
    dsimp only at q1 q3 q4 q20 q21 q22 q27 q28 q29 hbx hk hL
    by_cases hjl : j < l.length
    · have hjlI : (j : Int) < l.length := by omega
      obtain ⟨⟨f, t, s⟩, hx⟩ : ∃ x, l[j]? = some x := ⟨_, List.getElem?_eq_getElem hjl⟩
      have hxr := (w.range hlm (List.mem_of_getElem? hx)).2
      simp only at hxr
      obtain ⟨r, rfl⟩ : ∃ r : Nat, s = r := ⟨s.toNat, by omega⟩
      obtain ⟨p, hp⟩ : ∃ p, bl[r]? = some p := ⟨_, List.getElem?_eq_getElem (by rw [hB.len]; omega)⟩
      have hxj : (l.map arcV)[j]? = some (arcV (f, t, (r : Int))) := by simp [hx]
      obtain ⟨b, hb1, _, hb3⟩ := (hsl.keeps hk).at hxj
      have hld := aloadN_of _ _ hb3
      simp only [arcV, List.length_cons, List.length_nil, Nat.reduceAdd] at hld
      have hw2 : IntKind.i64.wrap ((j : Int) + 1) = ((j + 1 : Nat) : Int) := wrap_i64 (by omega) (by omega)
      obtain ⟨H1, hH1⟩ : ∃ H1, H1 = (g.new (.cells [.int .i32 0, .int .i32 0, .int .i64 0])).put g.next (.cells [.int .i32 f, .int .i32 t, .int .i64 r]) := ⟨_, rfl⟩
      have hkk : Keeps g H1 := by rw [hH1]; exact ((Keeps.refl g).new _).put (Nat.le_refl _) _
      have hn1 : H1.next = g.next + 1 := by rw [hH1]; rfl
      have hg1 : H1.own.get g.next = some (.cells [.int .i32 f, .int .i32 t, .int .i64 r]) := by rw [hH1, AHeap.put_get, if_pos rfl]
      have hlb := hL.ow.lt
      have hrl := (List.getElem?_eq_some_iff.1 hp).1
      have hps := hB.sz r p hp
      obtain ⟨a', c', h3, happ, hk3, ⟨C, hC, hble, C2, hsp, hL2⟩, hn3, hsame⟩ := (hL.keeps hkk).push (W := W) (h0 := h) (hk.trans hkk) (by omega) hp (i : Int) (by omega)
      have hpl := fun x (hx : p.a = some x) => (hL.own r p hp).lt hx
      have hg3 : h3.own.get g.next = some (.cells [.int .i32 f, .int .i32 t, .int .i64 r]) := by
        rw [hsame g.next (by omega) (fun x hx => by have := (hpl x hx).2; omega)]; exact hg1
      have hbx3 : h3.own.get h.next = some (.cells [.slice fa n fc, .slice aa n ac]) := by
        rw [hsame h.next (by omega) (fun x hx => by have := (hpl x hx).1; omega), hkk.same _ (by omega)]; exact hbx
      have hB2 := hB.step hll hx rfl hp a' c'
      obtain ⟨C0, hC0⟩ : ∃ C0, C0 = (bl.map LV.e).flatten := ⟨_, rfl⟩
      have hC0g : g.own.get (h.next + 1) = some (.cells C0) := by rw [hC0]; exact hL.ow.get
      have hC0r : C0[r * 1]? = some (.slice p.a p.l.length p.c) := by
        have := flat_get (j := 0) hL.ow.len (show (bl.map LV.e)[r]? = some p.e by simp [hp]) (by omega)
        rw [Nat.add_zero] at this
        rw [hC0, this]; rfl
      have hidx : idxV 1 (.slice (some ⟨h.next + 1, 0, some 0⟩) n 1) (.int .i64 r) = some (.pointer (some ⟨h.next + 1, r * 1, some 0⟩)) := idx_own (by have := hB.len; have := hnn.out; omega)
      have hne1 : ¬ h.next + 1 = g.next := by omega
      have hne2 : ¬ h.next + 1 = g.next + 1 := by omega
      have hne3 : ¬ h.next = g.next := by omega
      have hkf : Keeps h (h3.put (h.next + 1) (.cells C2)) := hk3.put (by omega) _
      have hbxf : (h3.put (h.next + 1) (.cells C2)).own.get h.next = some (.cells [.slice fa n fc, .slice aa n ac]) := by rw [AHeap.put_get, if_neg (by omega)]; exact hbx3
      rw [hn1] at happ
      rw [hH1] at happ
      clear hb3 hxj hx hL hB hC0 hH1 hkk hn1 hg1 hsame hpl hps hk3
      repeat (first | (with_reducible first | apply x_seq | apply x_block | apply x_region | apply x_exit | apply x_ret | apply x_skip | apply t_normal | apply t_exit | apply t_ret | apply b_normal | apply b_ret | apply b_same | apply ops_nil | apply g_T | apply g_F | apply c_T | apply c_F) | (with_reducible refine b_other (by decide) ?_) | ((with_reducible apply x_draws); (with_reducible apply d_pure); (next => kernel_rfl)) | ((with_reducible first | apply ops_d | apply ops_g | apply x_c); (next => simp only [rop, opd, celsL, oneV, aadd, binV, isSh, intBin, scEq, keq, unV, fillL, oP, oA, oS, wantedA, BX, BL, BS, seval, *]; with_reducible exact rfl)))
      refine x_draws (d_eff (by kernel_rfl) ?_)
      repeat (first | (with_reducible first | apply x_seq | apply x_block | apply x_region | apply x_exit | apply x_ret | apply x_skip | apply t_normal | apply t_exit | apply t_ret | apply b_normal | apply b_ret | apply b_same | apply ops_nil | apply g_T | apply g_F | apply c_T | apply c_F) | (with_reducible refine b_other (by decide) ?_) | ((with_reducible apply x_draws); (with_reducible apply d_pure); (next => kernel_rfl)) | ((with_reducible first | apply ops_d | apply ops_g | apply x_c); (next => simp only [rop, opd, celsL, oneV, aadd, binV, isSh, intBin, scEq, keq, unV, fillL, oP, oA, oS, wantedA, BX, BL, BS, seval, *]; with_reducible exact rfl)))
      apply aop_do
      (next => simp only [rop, opd, celsL, oneV, aadd, binV, isSh, intBin, scEq, keq, unV, fillL, oP, oA, oS, wantedA, BX, BL, BS, seval, *]; with_reducible exact rfl)
      refine d_chk (by kernel_rfl) ?chk1 ?_
      case chk1 =>
        intro o ho
        simp only [List.mem_cons, List.not_mem_nil, or_false] at ho
        rcases ho with rfl | rfl | rfl | rfl | rfl | rfl | rfl | rfl <;> simp only [Chk, kindOf, dval, rop, opd, celsL, oneV, aadd, binV, isSh, intBin, scEq, keq, unV, fillL, oP, oA, oS, wantedA, BX, BL, BS, seval, *]
      apply aop_do
      (next => simp only [rop, opd, celsL, oneV, aadd, binV, isSh, intBin, scEq, keq, unV, fillL, oP, oA, oS, wantedA, BX, BL, BS, seval, *]; with_reducible exact rfl)
      refine d_next (by kernel_rfl) (by kernel_rfl) ?_
      repeat (first | (with_reducible first | apply x_seq | apply x_block | apply x_region | apply x_exit | apply x_ret | apply x_skip | apply t_normal | apply t_exit | apply t_ret | apply b_normal | apply b_ret | apply b_same | apply ops_nil | apply g_T | apply g_F | apply c_T | apply c_F) | (with_reducible refine b_other (by decide) ?_) | ((with_reducible apply x_draws); (with_reducible apply d_pure); (next => kernel_rfl)) | ((with_reducible first | apply ops_d | apply ops_g | apply x_c); (next => simp only [rop, opd, celsL, oneV, aadd, binV, isSh, intBin, scEq, keq, unV, fillL, oP, oA, oS, wantedA, BX, BL, BS, seval, *]; with_reducible exact rfl)))
      refine ⟨?chk2, ?_⟩
      case chk2 =>
        intro o ho
        simp only [List.mem_cons, List.not_mem_nil, or_false] at ho
        rcases ho with rfl | rfl | rfl | rfl <;> simp only [Chk, kindOf, dval, rop, opd, celsL, oneV, aadd, binV, isSh, intBin, scEq, keq, unV, fillL, oP, oA, oS, wantedA, BX, BL, BS, seval, *]
      show AOp _ _ _ _ _
      apply aop_do
      (next => simp only [rop, opd, celsL, oneV, aadd, binV, isSh, intBin, scEq, keq, unV, fillL, oP, oA, oS, wantedA, BX, BL, BS, seval, *]; with_reducible exact rfl)
      refine d_end ?_
      repeat (first | (with_reducible first | apply x_seq | apply x_block | apply x_region | apply x_exit | apply x_ret | apply x_skip | apply t_normal | apply t_exit | apply t_ret | apply b_normal | apply b_ret | apply b_same | apply ops_nil | apply g_T | apply g_F | apply c_T | apply c_F) | (with_reducible refine b_other (by decide) ?_) | ((with_reducible apply x_draws); (with_reducible apply d_pure); (next => kernel_rfl)) | ((with_reducible first | apply ops_d | apply ops_g | apply x_c); (next => simp only [rop, opd, celsL, oneV, aadd, binV, isSh, intBin, scEq, keq, unV, fillL, oP, oA, oS, wantedA, BX, BL, BS, seval, *]; with_reducible exact rfl)))
      exact ⟨l.length - (j + 1), by omega, j + 1, _, by omega, rfl, (by simp only [rop, opd, celsL, oneV, aadd, binV, isSh, intBin, scEq, keq, unV, fillL, oP, oA, oS, wantedA, BX, BL, BS, seval, *]), (by simp only [rop, opd, celsL, oneV, aadd, binV, isSh, intBin, scEq, keq, unV, fillL, oP, oA, oS, wantedA, BX, BL, BS, seval, *]), (by simp only [rop, opd, celsL, oneV, aadd, binV, isSh, intBin, scEq, keq, unV, fillL, oP, oA, oS, wantedA, BX, BL, BS, seval, *]), (by simp only [rop, opd, celsL, oneV, aadd, binV, isSh, intBin, scEq, keq, unV, fillL, oP, oA, oS, wantedA, BX, BL, BS, seval, *]), (by simp only [rop, opd, celsL, oneV, aadd, binV, isSh, intBin, scEq, keq, unV, fillL, oP, oA, oS, wantedA, BX, BL, BS, seval, *]), (by simp only [rop, opd, celsL, oneV, aadd, binV, isSh, intBin, scEq, keq, unV, fillL, oP, oA, oS, wantedA, BX, BL, BS, seval, *]), (by simp only [rop, opd, celsL, oneV, aadd, binV, isSh, intBin, scEq, keq, unV, fillL, oP, oA, oS, wantedA, BX, BL, BS, seval, *]), (by simp only [rop, opd, celsL, oneV, aadd, binV, isSh, intBin, scEq, keq, unV, fillL, oP, oA, oS, wantedA, BX, BL, BS, seval, *]), (by simp only [rop, opd, celsL, oneV, aadd, binV, isSh, intBin, scEq, keq, unV, fillL, oP, oA, oS, wantedA, BX, BL, BS, seval, *]), hbxf, hkf, hL2, hB2⟩
    · have hjlI : ¬ (j : Int) < l.length := by omega
      obtain rfl : j = l.length := by omega
      have hB2 := hB.row hll (by omega)
      clear hB
      repeat (first | (with_reducible first | apply x_seq | apply x_block | apply x_region | apply x_exit | apply x_ret | apply x_skip | apply t_normal | apply t_exit | apply t_ret | apply b_normal | apply b_ret | apply b_same | apply ops_nil | apply g_T | apply g_F | apply c_T | apply c_F) | (with_reducible refine b_other (by decide) ?_) | ((with_reducible apply x_draws); (with_reducible apply d_pure); (next => kernel_rfl)) | ((with_reducible first | apply ops_d | apply ops_g | apply x_c); (next => simp only [rop, opd, celsL, oneV, aadd, binV, isSh, intBin, scEq, keq, unV, fillL, oP, oA, oS, wantedA, BX, BL, BS, seval, *]; with_reducible exact rfl)))
      exact ⟨n - (i + 1), by omega, i + 1, bl, by omega, rfl, (by simp only [rop, opd, celsL, oneV, aadd, binV, isSh, intBin, scEq, keq, unV, fillL, oP, oA, oS, wantedA, BX, BL, BS, seval, *]), (by simp only [rop, opd, celsL, oneV, aadd, binV, isSh, intBin, scEq, keq, unV, fillL, oP, oA, oS, wantedA, BX, BL, BS, seval, *]), (by simp only [rop, opd, celsL, oneV, aadd, binV, isSh, intBin, scEq, keq, unV, fillL, oP, oA, oS, wantedA, BX, BL, BS, seval, *]), (by simp only [rop, opd, celsL, oneV, aadd, binV, isSh, intBin, scEq, keq, unV, fillL, oP, oA, oS, wantedA, BX, BL, BS, seval, *]), (by simp only [rop, opd, celsL, oneV, aadd, binV, isSh, intBin, scEq, keq, unV, fillL, oP, oA, oS, wantedA, BX, BL, BS, seval, *]), hbx, hk, hL, hB2⟩
  · have hltI : ¬ (i : Int) < n := by omega
    have hin : n = i := by omega
    subst hin
    have hbxn : h.next < hh.next := by have := hL.ow.lt; omega
    have hne : ¬ h.next = hh.next := by omega
    have howi := mk_ow (h := hh) (z := .bool false) n
    have hF0 : Finals A n 0 (List.replicate n false) [] := ⟨by simp, fun s hs => by simp at hs, fun q hq => by omega, by simp⟩
    have ho0 : Ow (hh.new (.cells (repL [.bool false] n))) hh.next 1 ((List.replicate n false).map boolV) := by simpa [boolV] using howi
    have hk0 : Keeps hh (hh.new (.cells (repL [.bool false] n))) := (Keeps.refl hh).new _
    have hs0 : StkV (hh.next + 1) (hh.new (.cells (repL [.bool false] n))) none 0 0 (([] : List Int).map numV) := ⟨OwnV.nil _ _ _, by simp⟩
    have hnlt : ¬ (n : Int) < n := by omega
    clear howi hltI hlt hi
    repeat (first | (with_reducible first | apply x_seq | apply x_block | apply x_region | apply x_exit | apply x_ret | apply x_skip | apply t_normal | apply t_exit | apply t_ret | apply b_normal | apply b_ret | apply b_same | apply ops_nil | apply g_T | apply g_F | apply c_T | apply c_F) | (with_reducible refine b_other (by decide) ?_) | ((with_reducible apply x_draws); (with_reducible apply d_pure); (next => kernel_rfl)) | ((with_reducible first | apply ops_d | apply ops_g | apply x_c); (next => simp only [rop, opd, celsL, oneV, aadd, binV, isSh, intBin, scEq, keq, unV, fillL, oP, oA, oS, wantedA, BX, BL, BS, seval, *]; with_reducible exact rfl)))
    refine WPX.loop hmix (fun k σ => ∃ i ol es a c, i ≤ n ∧ k = n - i ∧ eget σ.e 3 = .slice (some ⟨h.next + 1, 0, some 0⟩) n 1 ∧ eget σ.e 8 = .slice (some ⟨hh.next, 0, some 0⟩) n 1 ∧ eget σ.e 9 = .slice a (List.length es) c ∧
      eget σ.e 52 = .slice fa n fc ∧ eget σ.e 53 = .int .i64 n ∧ eget σ.e 54 = .int .i64 (i : Nat) ∧ Keeps hh σ.h ∧ Ow σ.h hh.next 1 (List.map boolV ol) ∧ StkV (hh.next + 1) σ.h a (List.length es) c (es.map numV) ∧ Finals A n i ol es) n ?h2 ?round2
    case h2 => exact ⟨0, _, [], none, 0, Nat.zero_le _, rfl, (by simp only [rop, opd, celsL, oneV, aadd, binV, isSh, intBin, scEq, keq, unV, fillL, oP, oA, oS, wantedA, BX, BL, BS, seval, *]), (by simp only [rop, opd, celsL, oneV, aadd, binV, isSh, intBin, scEq, keq, unV, fillL, oP, oA, oS, wantedA, BX, BL, BS, seval, *]), (by simp only [rop, opd, celsL, oneV, aadd, binV, isSh, intBin, scEq, keq, unV, fillL, oP, oA, oS, wantedA, BX, BL, BS, seval, *, List.length_nil]), (by simp only [rop, opd, celsL, oneV, aadd, binV, isSh, intBin, scEq, keq, unV, fillL, oP, oA, oS, wantedA, BX, BL, BS, seval, *]), (by simp only [rop, opd, celsL, oneV, aadd, binV, isSh, intBin, scEq, keq, unV, fillL, oP, oA, oS, wantedA, BX, BL, BS, seval, *]), (by simp only [rop, opd, celsL, oneV, aadd, binV, isSh, intBin, scEq, keq, unV, fillL, oP, oA, oS, wantedA, BX, BL, BS, seval, *]), hk0, ho0, hs0, hF0⟩
    clear e1 e3 e20 e21 e22 hF0 ho0 hk0 hs0 hne
    rintro k ⟨e', g⟩ ⟨i, ol, es, a, c, hi, rfl, q3, q8, q9, q52, q53, q54, hk2, ho, hs, hF⟩
    dsimp only at q3 q8 q9 q52 q53 q54 hk2 ho hs
    have hkg : Keeps h g := hk.trans hk2
    have holl : ol.length = n := by rw [hF.ol]; simp; have := hnn.out; omega
    replace holl : Hid (ol.length = n) := holl
    by_cases hlt : i < n
    · have hltI : (i : Int) < n := by omega
      obtain ⟨b0, hb0⟩ : ∃ b, A.fin[i]? = some b := ⟨_, List.getElem?_eq_getElem (by rw [← hnn.out]; exact hlt)⟩
      have hxm : (A.fin.map fun b => [Value.bool b])[i]? = some [.bool b0] := by simp [hb0]
      obtain ⟨d, hd1, _, hd3⟩ := (hf.keeps hkg).at hxm
      have hrd := (hd3 0 (.bool b0) rfl).1
      have hdd : aadd d 0 = d := rfl
      rw [hdd] at hrd
      have hw1 : IntKind.i64.wrap ((i : Int) + 1) = ((i + 1 : Nat) : Int) := wrap_i64 (by omega) (by omega)
      clear hd3 hxm
      cases b0 with
      | false =>
        have hF2 := hF.skip hb0 hlt
        clear hF hb0
        repeat (first | (with_reducible first | apply x_seq | apply x_block | apply x_region | apply x_exit | apply x_ret | apply x_skip | apply t_normal | apply t_exit | apply t_ret | apply b_normal | apply b_ret | apply b_same | apply ops_nil | apply g_T | apply g_F | apply c_T | apply c_F) | (with_reducible refine b_other (by decide) ?_) | ((with_reducible apply x_draws); (with_reducible apply d_pure); (next => kernel_rfl)) | ((with_reducible first | apply ops_d | apply ops_g | apply x_c); (next => simp only [rop, opd, celsL, oneV, aadd, binV, isSh, intBin, scEq, keq, unV, fillL, oP, oA, oS, wantedA, BX, BL, BS, seval, *]; with_reducible exact rfl)))
        exact ⟨n - (i + 1), by omega, i + 1, ol, es, a, c, by omega, rfl, (by simp only [rop, opd, celsL, oneV, aadd, binV, isSh, intBin, scEq, keq, unV, fillL, oP, oA, oS, wantedA, BX, BL, BS, seval, *]), (by simp only [rop, opd, celsL, oneV, aadd, binV, isSh, intBin, scEq, keq, unV, fillL, oP, oA, oS, wantedA, BX, BL, BS, seval, *]), (by simp only [rop, opd, celsL, oneV, aadd, binV, isSh, intBin, scEq, keq, unV, fillL, oP, oA, oS, wantedA, BX, BL, BS, seval, *]), (by simp only [rop, opd, celsL, oneV, aadd, binV, isSh, intBin, scEq, keq, unV, fillL, oP, oA, oS, wantedA, BX, BL, BS, seval, *]), (by simp only [rop, opd, celsL, oneV, aadd, binV, isSh, intBin, scEq, keq, unV, fillL, oP, oA, oS, wantedA, BX, BL, BS, seval, *]), (by simp only [rop, opd, celsL, oneV, aadd, binV, isSh, intBin, scEq, keq, unV, fillL, oP, oA, oS, wantedA, BX, BL, BS, seval, *]), hk2, ho, hs, hF2⟩
      | true =>
        have hF2 := hF.add hb0 hlt
        have hesl := hF.len
        obtain ⟨C, hC, hble, C2, hsp, ho2⟩ := ho.set1 (f := boolV) (fun x => rfl) (i := i) (by have := holl.out; omega) true
        simp only [boolV] at hsp
        have hidx : idxV 1 (.slice (some ⟨hh.next, 0, some 0⟩) n 1) (.int .i64 i) = some (.pointer (some ⟨hh.next, i * 1, some 0⟩)) := idx_own hlt
        have hgn : hh.next < g.next := ho.lt
        have hs2 : StkV (hh.next + 1) (g.put hh.next (.cells C2)) a (List.length es) c (es.map numV) := ⟨hs.1.same (fun j hj _ => by rw [AHeap.put_get, if_neg (by omega)]) (Nat.le_refl _), hs.2⟩
        have hkp : Keeps hh (g.put hh.next (.cells C2)) := hk2.put (Nat.le_refl _) _
        obtain ⟨a', c', h3, happ, hs3, hk3, hn3, hsame, _⟩ := StkV.app (W := W) (h0 := hh) (h := (g.put hh.next (.cells C2)).new (.cells (numV i))) (b' := g.next) (e := numV i) ⟨hs2.1.keeps ((Keeps.refl _).new _), hs2.2⟩ (hkp.new _) (by omega)
          (by rw [AHeap.new_next, AHeap.put_next]; omega) (by rw [AHeap.new_get, AHeap.put_next, if_pos rfl]) (by rw [AHeap.new_next, AHeap.put_next]; omega) rfl rfl (by omega)
        have ho3 : Ow h3 hh.next 1 ((ol.set i true).map boolV) := ho2.same (by rw [hsame hh.next (by rw [AHeap.new_next, AHeap.put_next]; omega) (hs2.1.notOld (by omega)), AHeap.new_get, AHeap.put_next, if_neg (by omega)]) (by rw [hn3, AHeap.new_next]; omega)
        have hs4 : StkV (hh.next + 1) h3 a' (es.length + 1) c' ((es ++ [(i : Int)]).map numV) := by
          have e1 : (es.map numV).take es.length ++ [numV i] = (es ++ [(i : Int)]).map numV := by
            rw [List.take_of_length_le (by simp)]; simp
          rw [← e1]; exact hs3
        obtain ⟨es', hes'⟩ : ∃ es', es' = es ++ [(i : Int)] := ⟨_, rfl⟩
        have hel : es.length + 1 = es'.length := by rw [hes']; simp
        rw [← hes'] at hs4 hF2
        rw [hel] at hs4 happ
        simp only [numV] at happ
        clear hF hb0 hs3 hs2 ho2 hsame hes' hkp hesl
        replace hel : Hid (es.length + 1 = es'.length) := hel
        repeat (first | (with_reducible first | apply x_seq | apply x_block | apply x_region | apply x_exit | apply x_ret | apply x_skip | apply t_normal | apply t_exit | apply t_ret | apply b_normal | apply b_ret | apply b_same | apply ops_nil | apply g_T | apply g_F | apply c_T | apply c_F) | (with_reducible refine b_other (by decide) ?_) | ((with_reducible apply x_draws); (with_reducible apply d_pure); (next => kernel_rfl)) | ((with_reducible first | apply ops_d | apply ops_g | apply x_c); (next => simp only [rop, opd, celsL, oneV, aadd, binV, isSh, intBin, scEq, keq, unV, fillL, oP, oA, oS, wantedA, BX, BL, BS, seval, *]; with_reducible exact rfl)))
        exact ⟨n - (i + 1), by omega, i + 1, _, es', a', c', by omega, rfl, (by simp only [rop, opd, celsL, oneV, aadd, binV, isSh, intBin, scEq, keq, unV, fillL, oP, oA, oS, wantedA, BX, BL, BS, seval, *]), (by simp only [rop, opd, celsL, oneV, aadd, binV, isSh, intBin, scEq, keq, unV, fillL, oP, oA, oS, wantedA, BX, BL, BS, seval, *]), (by simp only [rop, opd, celsL, oneV, aadd, binV, isSh, intBin, scEq, keq, unV, fillL, oP, oA, oS, wantedA, BX, BL, BS, seval, *]), (by simp only [rop, opd, celsL, oneV, aadd, binV, isSh, intBin, scEq, keq, unV, fillL, oP, oA, oS, wantedA, BX, BL, BS, seval, *]), (by simp only [rop, opd, celsL, oneV, aadd, binV, isSh, intBin, scEq, keq, unV, fillL, oP, oA, oS, wantedA, BX, BL, BS, seval, *]), (by simp only [rop, opd, celsL, oneV, aadd, binV, isSh, intBin, scEq, keq, unV, fillL, oP, oA, oS, wantedA, BX, BL, BS, seval, *]), hk3, ho3, hs4, hF2⟩
    · have hltI : ¬ (i : Int) < n := by omega
      have hin : i = n := by omega
      rw [hin] at hF
      have hAl := hF.done hnn.out
      have hs' : StkV (hh.next + 1) g a (List.length es) c (es.map numV) ∧ Alv A ol (es.take es.length) fun _ => False := ⟨hs, by rw [List.take_length]; exact hAl⟩
      obtain ⟨m, hm⟩ : ∃ m, m = es.length := ⟨_, rfl⟩
      rw [← hm] at hs' q9
      have hm1000 : 2 * cntF ol + m ≤ 1000 := by have h1 := cntF_le ol; have h2 := holl.out; have h3 := hF.len; omega
      clear hin hF hAl hs hm
      repeat (first | (with_reducible first | apply x_seq | apply x_block | apply x_region | apply x_exit | apply x_ret | apply x_skip | apply t_normal | apply t_exit | apply t_ret | apply b_normal | apply b_ret | apply b_same | apply ops_nil | apply g_T | apply g_F | apply c_T | apply c_F) | (with_reducible refine b_other (by decide) ?_) | ((with_reducible apply x_draws); (with_reducible apply d_pure); (next => kernel_rfl)) | ((with_reducible first | apply ops_d | apply ops_g | apply x_c); (next => simp only [rop, opd, celsL, oneV, aadd, binV, isSh, intBin, scEq, keq, unV, fillL, oP, oA, oS, wantedA, BX, BL, BS, seval, *]; with_reducible exact rfl)))
      refine WPX.loop hmix (fun k σ => ∃ ol es a c m, k = 2 * cntF ol + m ∧ 2 * cntF ol + m ≤ 1000 ∧ eget σ.e 3 = .slice (some ⟨h.next + 1, 0, some 0⟩) n 1 ∧ eget σ.e 8 = .slice (some ⟨hh.next, 0, some 0⟩) n 1 ∧ eget σ.e 9 = .slice a m c ∧
        Keeps hh σ.h ∧ Ow σ.h hh.next 1 (List.map boolV ol) ∧ StkV (hh.next + 1) σ.h a m c (List.map numV es) ∧ Alv A ol (es.take m) fun _ => False) (2 * cntF ol + m) ?h3 ?round3
      case h3 => exact ⟨ol, es, a, c, m, rfl, hm1000, (by simp only [rop, opd, celsL, oneV, aadd, binV, isSh, intBin, scEq, keq, unV, fillL, oP, oA, oS, wantedA, BX, BL, BS, seval, *]), (by simp only [rop, opd, celsL, oneV, aadd, binV, isSh, intBin, scEq, keq, unV, fillL, oP, oA, oS, wantedA, BX, BL, BS, seval, *]), (by simp only [rop, opd, celsL, oneV, aadd, binV, isSh, intBin, scEq, keq, unV, fillL, oP, oA, oS, wantedA, BX, BL, BS, seval, *]), hk2, ho, hs'.1, hs'.2⟩
      clear q3 q8 q9 q52 q53 q54 hk2 ho hs' hkg holl
      rintro K ⟨e3, g3⟩ ⟨ol, es, a, c, m, rfl, hm1000, q3, q8, q9, hk2, ho, hs, hAl⟩
      dsimp only at q3 q8 q9 hk2 ho hs
      by_cases hm0 : m = 0
      · subst hm0
        have hgt : ¬ (((0 : Nat) : Int) > 0) := by omega
        rw [List.take_zero] at hAl
        have hfin : (∃ a c ol', Value.slice (some ⟨hh.next, 0, some 0⟩) n 1 = .slice a n c ∧ OwnV h.next g3 a c 1 (List.map boolV ol') ∧ ol'.length = n ∧ ∀ q : Nat, ol'[q]? = some true ↔ Live A q) ∧ Keeps h g3 :=
          ⟨⟨_, _, ol, rfl, .inr ⟨hh.next, rfl, rfl, by omega, ho⟩, by rw [hAl.len]; exact hnn.out.symm, hAl.done w⟩, hk.trans hk2⟩
        repeat (first | (with_reducible first | apply x_seq | apply x_block | apply x_region | apply x_exit | apply x_ret | apply x_skip | apply t_normal | apply t_exit | apply t_ret | apply b_normal | apply b_ret | apply b_same | apply ops_nil | apply g_T | apply g_F | apply c_T | apply c_F) | (with_reducible refine b_other (by decide) ?_) | ((with_reducible apply x_draws); (with_reducible apply d_pure); (next => kernel_rfl)) | ((with_reducible first | apply ops_d | apply ops_g | apply x_c); (next => simp only [rop, opd, celsL, oneV, aadd, binV, isSh, intBin, scEq, keq, unV, fillL, oP, oA, oS, wantedA, BX, BL, BS, seval, *]; with_reducible exact rfl)))
        refine ⟨.inr rfl, _, rfl, ?_⟩
        simp only [resOf, rop, opd, celsL, oneV, aadd, binV, isSh, intBin, scEq, keq, unV, fillL, oP, oA, oS, wantedA, BX, BL, BS, seval]
        exact hfin
      · obtain ⟨m', rfl⟩ : ∃ m', m = m' + 1 := ⟨m - 1, by omega⟩
        have hgt : (((m' + 1 : Nat) : Int) > 0) := by omega
        obtain ⟨b, q, C, rfl, rfl, hq, hidx, hC, hCm⟩ := hs.top
        obtain ⟨hslc, hs1⟩ := hs.pop
        have hwm : IntKind.i64.wrap (((m' + 1 : Nat) : Int) - 1) = (m' : Int) := (wrap_i64 (by omega) (by omega)).trans (by omega)
        obtain ⟨q0, rfl⟩ : ∃ q0 : Nat, q = q0 := by
          obtain ⟨q0, e, _⟩ := hAl.stk q (by rw [List.take_add_one, hq]; simp)
          exact ⟨q0, e⟩
        obtain ⟨hAl1, hq0⟩ := hAl.pop hq
        have hq0n : q0 < n := by have := (List.getElem?_eq_some_iff.1 hq0).1; rw [hAl.len, ← hnn.out] at this; exact this
        obtain ⟨p, hp⟩ : ∃ p, bl[q0]? = some p := ⟨_, List.getElem?_eq_getElem (by rw [hB.len, ← hnn.out]; exact hq0n)⟩
        have hLg := hL.keeps hk2
        obtain ⟨C0, hC0, hC0q⟩ := hLg.ow.get1 (f := LV.e) hp rfl
        have hidx0 : idxV 1 (.slice (some ⟨h.next + 1, 0, some 0⟩) n 1) (.int .i64 q0) = some (.pointer (some ⟨h.next + 1, q0 * 1, some 0⟩)) := idx_own hq0n
        have hps := hB.sz q0 p hp
        have hlive := hAl.snd q0 hq0
        simp only [LV.v] at hC0q
        obtain ⟨K0, hK0⟩ : ∃ K0, K0 = 2 * cntF ol + m' := ⟨_, rfl⟩
        have hK0l : 2 * cntF ol + m' ≤ K0 := by omega
        have hK1 : K0 < 2 * cntF ol + (m' + 1) := by omega
        have hK2 : K0 ≤ 999 := by omega
        obtain ⟨Kx, hKx⟩ : ∃ Kx, Kx = 2 * cntF ol + (m' + 1) := ⟨_, rfl⟩
        rw [← hKx] at hK1 ⊢
        clear hq hs hAl hK0 hKx hm0 hm1000
        have hom1 : ∀ (f : Operand → Value) (x : Operand), (some x).map f = some (f x) := fun _ _ => rfl
        have hom0 : ∀ (f : Operand → Value), (none : Option Operand).map f = none := fun _ => rfl
        repeat (first | (with_reducible first | apply x_seq | apply x_block | apply x_region | apply x_exit | apply x_ret | apply x_skip | apply t_normal | apply t_exit | apply t_ret | apply b_normal | apply b_ret | apply b_same | apply ops_nil | apply g_T | apply g_F | apply c_T | apply c_F) | (with_reducible refine b_other (by decide) ?_) | ((with_reducible apply x_draws); (with_reducible apply d_pure); (next => kernel_rfl)) | ((with_reducible first | apply ops_d | apply ops_g | apply x_c); (next => simp only [rop, opd, celsL, oneV, aadd, binV, isSh, intBin, scEq, keq, unV, fillL, oP, oA, oS, wantedA, BX, BL, BS, seval, *]; with_reducible exact rfl)))
        refine WPX.loop hmix (fun k σ => ∃ j ol es a c m, j ≤ p.l.length ∧ k = p.l.length - j ∧ eget σ.e 3 = .slice (some ⟨h.next + 1, 0, some 0⟩) n 1 ∧ eget σ.e 8 = .slice (some ⟨hh.next, 0, some 0⟩) n 1 ∧ eget σ.e 9 = .slice a m c ∧
          eget σ.e 85 = .slice p.a p.l.length p.c ∧ eget σ.e 86 = .int .i64 p.l.length ∧ eget σ.e 87 = .int .i64 (j : Nat) ∧ Keeps hh σ.h ∧ Ow σ.h hh.next 1 (List.map boolV ol) ∧ StkV (hh.next + 1) σ.h a m c (List.map numV es) ∧
          Alv A ol (es.take m) (fun q => q = q0) ∧ (∀ s ∈ p.l.take j, ∃ t : Nat, s = t ∧ ol[t]? = some true) ∧ 2 * cntF ol + m ≤ K0) p.l.length ?h4 ?round4
        case h4 => exact ⟨0, ol, es, _, _, m', Nat.zero_le _, rfl, (by simp only [rop, opd, celsL, oneV, aadd, binV, isSh, intBin, scEq, keq, unV, fillL, oP, oA, oS, wantedA, BX, BL, BS, seval, *]), (by simp only [rop, opd, celsL, oneV, aadd, binV, isSh, intBin, scEq, keq, unV, fillL, oP, oA, oS, wantedA, BX, BL, BS, seval, *]), (by simp only [rop, opd, celsL, oneV, aadd, binV, isSh, intBin, scEq, keq, unV, fillL, oP, oA, oS, wantedA, BX, BL, BS, seval, *]), (by simp only [rop, opd, celsL, oneV, aadd, binV, isSh, intBin, scEq, keq, unV, fillL, oP, oA, oS, wantedA, BX, BL, BS, seval, *]), (by simp only [rop, opd, celsL, oneV, aadd, binV, isSh, intBin, scEq, keq, unV, fillL, oP, oA, oS, wantedA, BX, BL, BS, seval, *]), (by simp only [rop, opd, celsL, oneV, aadd, binV, isSh, intBin, scEq, keq, unV, fillL, oP, oA, oS, wantedA, BX, BL, BS, seval, *]), hk2, ho, hs1, hAl1, (fun s hs => by simp at hs), hK0l⟩
        clear q3 q8 q9 hk2 ho hs1 hAl1 hK0l hidx hC hCm hslc hwm hC0 hC0q hidx0
        rintro k ⟨e4, g4⟩ ⟨j, ol2, es2, a2, c2, m2, hj, rfl, q3, q8, q9, q85, q86, q87, hk4, ho4, hs4, hAl4, hpj, hK4⟩
        dsimp only at q3 q8 q9 q85 q86 q87 hk4 ho4 hs4
        have hol2 : ol2.length = n := by rw [hAl4.len]; exact hnn.out.symm
        replace hol2 : Hid (ol2.length = n) := hol2
        by_cases hjl : j < p.l.length
        · have hjlI : (j : Int) < p.l.length := by omega
          obtain ⟨s, hsj⟩ : ∃ s, p.l[j]? = some s := ⟨_, List.getElem?_eq_getElem hjl⟩
          obtain ⟨t, rfl, l, hl2, x, hx2, hxq⟩ := hB.snd q0 p hp s (List.mem_of_getElem? hsj)
          have htn : t < n := by have := (List.getElem?_eq_some_iff.1 hl2).1; rw [w.len, ← hnn.out] at this; exact this
          have htl : Live A t := Live.pred w hl2 hx2 (by rw [hxq]; exact hlive)
          have hxm : (p.l.map numV)[j]? = some (numV t) := by simp [hsj]
          obtain ⟨d, hd1, _, hd3⟩ := ((hL.keeps hk4).own q0 p hp).sl (W := W) |>.at hxm
          rw [List.length_map] at hd1
          have hrd := (hd3 0 (.int .i64 t) rfl).1
          have hdd : aadd d 0 = d := rfl
          rw [hdd] at hrd
          obtain ⟨bt, hbt⟩ : ∃ b, ol2[t]? = some b := ⟨_, List.getElem?_eq_getElem (by rw [hol2.out]; exact htn)⟩
          obtain ⟨C, hC, hCt⟩ := ho4.get1 (f := boolV) hbt rfl
          have hidx : idxV 1 (.slice (some ⟨hh.next, 0, some 0⟩) n 1) (.int .i64 t) = some (.pointer (some ⟨hh.next, t * 1, some 0⟩)) := idx_own htn
          have hw1 : IntKind.i64.wrap ((j : Int) + 1) = ((j + 1 : Nat) : Int) := wrap_i64 (by omega) (by omega)
          have hpt : ∀ ol' : List Bool, (∀ q : Nat, ol2[q]? = some true → ol'[q]? = some true) → ol'[t]? = some true → ∀ s ∈ p.l.take (j + 1), ∃ t : Nat, s = t ∧ ol'[t]? = some true := fun ol' h1 h2 s hs => by
            rw [List.take_add_one, hsj] at hs
            rcases List.mem_append.1 hs with hs | hs
            · obtain ⟨t', e, ht'⟩ := hpj s hs; exact ⟨t', e, h1 t' ht'⟩
            · simp at hs; exact ⟨t, hs, h2⟩
          clear hxm hd3 hsj hxq hx2 hl2
          cases bt with
          | true =>
            have hpj' := hpt ol2 (fun _ h => h) hbt
            clear hpt hpj hbt
            repeat (first | (with_reducible first | apply x_seq | apply x_block | apply x_region | apply x_exit | apply x_ret | apply x_skip | apply t_normal | apply t_exit | apply t_ret | apply b_normal | apply b_ret | apply b_same | apply ops_nil | apply g_T | apply g_F | apply c_T | apply c_F) | (with_reducible refine b_other (by decide) ?_) | ((with_reducible apply x_draws); (with_reducible apply d_pure); (next => kernel_rfl)) | ((with_reducible first | apply ops_d | apply ops_g | apply x_c); (next => simp only [rop, opd, celsL, oneV, aadd, binV, isSh, intBin, scEq, keq, unV, fillL, oP, oA, oS, wantedA, BX, BL, BS, seval, *]; with_reducible exact rfl)))
            exact ⟨p.l.length - (j + 1), by omega, j + 1, ol2, es2, a2, c2, m2, by omega, rfl, (by simp only [rop, opd, celsL, oneV, aadd, binV, isSh, intBin, scEq, keq, unV, fillL, oP, oA, oS, wantedA, BX, BL, BS, seval, *]), (by simp only [rop, opd, celsL, oneV, aadd, binV, isSh, intBin, scEq, keq, unV, fillL, oP, oA, oS, wantedA, BX, BL, BS, seval, *]), (by simp only [rop, opd, celsL, oneV, aadd, binV, isSh, intBin, scEq, keq, unV, fillL, oP, oA, oS, wantedA, BX, BL, BS, seval, *]), (by simp only [rop, opd, celsL, oneV, aadd, binV, isSh, intBin, scEq, keq, unV, fillL, oP, oA, oS, wantedA, BX, BL, BS, seval, *]), (by simp only [rop, opd, celsL, oneV, aadd, binV, isSh, intBin, scEq, keq, unV, fillL, oP, oA, oS, wantedA, BX, BL, BS, seval, *]), (by simp only [rop, opd, celsL, oneV, aadd, binV, isSh, intBin, scEq, keq, unV, fillL, oP, oA, oS, wantedA, BX, BL, BS, seval, *]), hk4, ho4, hs4, hAl4, hpj', hK4⟩
          | false =>
            have hAl5 := hAl4.push (t := t) (by rw [hol2.out]; exact htn) htl
            have hcnt := cntF_set hbt
            have hpj' := hpt (ol2.set t true) (fun q hq => (set_true (by rw [hol2.out]; exact htn)).2 (.inr hq)) ((set_true (by rw [hol2.out]; exact htn)).2 (.inl rfl))
            obtain ⟨C', hC', hble, C2, hsp, ho5⟩ := ho4.set1 (f := boolV) (fun x => rfl) (i := t) (by rw [hol2.out]; exact htn) true
            rw [hC] at hC'
            cases hC'
            simp only [boolV] at hsp
            have hgn : hh.next < g4.next := ho4.lt
            have hs5 : StkV (hh.next + 1) (g4.put hh.next (.cells C2)) a2 m2 c2 (List.map numV es2) := ⟨hs4.1.same (fun j hj _ => by rw [AHeap.put_get, if_neg (by omega)]) (Nat.le_refl _), hs4.2⟩
            have hkp : Keeps hh (g4.put hh.next (.cells C2)) := hk4.put (Nat.le_refl _) _
            obtain ⟨a', c', h3, happ, hs6, hk6, hn3, hsame, _⟩ := StkV.app (W := W) (h0 := hh) (h := (g4.put hh.next (.cells C2)).new (.cells (numV t))) (b' := g4.next) (e := numV t) ⟨hs5.1.keeps ((Keeps.refl _).new _), hs5.2⟩ (hkp.new _) (by omega)
              (by rw [AHeap.new_next, AHeap.put_next]; omega) (by rw [AHeap.new_get, AHeap.put_next, if_pos rfl]) (by rw [AHeap.new_next, AHeap.put_next]; omega) rfl rfl (by omega)
            have ho6 : Ow h3 hh.next 1 ((ol2.set t true).map boolV) := ho5.same (by rw [hsame hh.next (by rw [AHeap.new_next, AHeap.put_next]; omega) (hs5.1.notOld (by omega)), AHeap.new_get, AHeap.put_next, if_neg (by omega)]) (by rw [hn3, AHeap.new_next]; omega)
            have hesm : m2 ≤ es2.length := by have := hs4.2; simpa using this
            obtain ⟨es', hes'⟩ : ∃ es', es' = es2.take m2 ++ [(t : Int)] := ⟨_, rfl⟩
            have hs7 : StkV (hh.next + 1) h3 a' (m2 + 1) c' (List.map numV es') := by
              rw [hes', List.map_append, List.map_take]; exact hs6
            have hAl6 : Alv A (ol2.set t true) (es'.take (m2 + 1)) (fun q => q = q0) := by
              rw [hes', List.take_of_length_le (by simp; omega)]; exact hAl5
            simp only [numV] at happ
            have hnee : ¬ hh.next = g4.next := by omega
            clear hpt hpj hbt hs6 hs5 ho5 hsame hes' hkp hAl5 hesm hs4 hAl4
            repeat (first | (with_reducible first | apply x_seq | apply x_block | apply x_region | apply x_exit | apply x_ret | apply x_skip | apply t_normal | apply t_exit | apply t_ret | apply b_normal | apply b_ret | apply b_same | apply ops_nil | apply g_T | apply g_F | apply c_T | apply c_F) | (with_reducible refine b_other (by decide) ?_) | ((with_reducible apply x_draws); (with_reducible apply d_pure); (next => kernel_rfl)) | ((with_reducible first | apply ops_d | apply ops_g | apply x_c); (next => simp only [rop, opd, celsL, oneV, aadd, binV, isSh, intBin, scEq, keq, unV, fillL, oP, oA, oS, wantedA, BX, BL, BS, seval, *]; with_reducible exact rfl)))
            exact ⟨p.l.length - (j + 1), by omega, j + 1, _, es', a', c', m2 + 1, by omega, rfl, (by simp only [rop, opd, celsL, oneV, aadd, binV, isSh, intBin, scEq, keq, unV, fillL, oP, oA, oS, wantedA, BX, BL, BS, seval, *]), (by simp only [rop, opd, celsL, oneV, aadd, binV, isSh, intBin, scEq, keq, unV, fillL, oP, oA, oS, wantedA, BX, BL, BS, seval, *]), (by simp only [rop, opd, celsL, oneV, aadd, binV, isSh, intBin, scEq, keq, unV, fillL, oP, oA, oS, wantedA, BX, BL, BS, seval, *]), (by simp only [rop, opd, celsL, oneV, aadd, binV, isSh, intBin, scEq, keq, unV, fillL, oP, oA, oS, wantedA, BX, BL, BS, seval, *]), (by simp only [rop, opd, celsL, oneV, aadd, binV, isSh, intBin, scEq, keq, unV, fillL, oP, oA, oS, wantedA, BX, BL, BS, seval, *]), (by simp only [rop, opd, celsL, oneV, aadd, binV, isSh, intBin, scEq, keq, unV, fillL, oP, oA, oS, wantedA, BX, BL, BS, seval, *]), hk6, ho6, hs7, hAl6, hpj', by omega⟩
        · have hjlI : ¬ (j : Int) < p.l.length := by omega
          rw [List.take_of_length_le (by omega)] at hpj
          have hAl5 := hAl4.close (fun t l x hl2 hx2 hxq => by
            have hm := hB.all q0 p hp t l x hl2 (.inl ⟨by have := (List.getElem?_eq_some_iff.1 hl2).1; rw [w.len, ← hnn.out] at this; exact this, hx2⟩) hxq
            obtain ⟨t', e, ht'⟩ := hpj _ hm
            have : t = t' := by omega
            rw [this]; exact ht')
          clear hpj hAl4
          repeat (first | (with_reducible first | apply x_seq | apply x_block | apply x_region | apply x_exit | apply x_ret | apply x_skip | apply t_normal | apply t_exit | apply t_ret | apply b_normal | apply b_ret | apply b_same | apply ops_nil | apply g_T | apply g_F | apply c_T | apply c_F) | (with_reducible refine b_other (by decide) ?_) | ((with_reducible apply x_draws); (with_reducible apply d_pure); (next => kernel_rfl)) | ((with_reducible first | apply ops_d | apply ops_g | apply x_c); (next => simp only [rop, opd, celsL, oneV, aadd, binV, isSh, intBin, scEq, keq, unV, fillL, oP, oA, oS, wantedA, BX, BL, BS, seval, *]; with_reducible exact rfl)))
          exact ⟨2 * cntF ol2 + m2, by omega, ol2, es2, a2, c2, m2, rfl, by omega, (by simp only [rop, opd, celsL, oneV, aadd, binV, isSh, intBin, scEq, keq, unV, fillL, oP, oA, oS, wantedA, BX, BL, BS, seval, *]), (by simp only [rop, opd, celsL, oneV, aadd, binV, isSh, intBin, scEq, keq, unV, fillL, oP, oA, oS, wantedA, BX, BL, BS, seval, *]), (by simp only [rop, opd, celsL, oneV, aadd, binV, isSh, intBin, scEq, keq, unV, fillL, oP, oA, oS, wantedA, BX, BL, BS, seval, *]), hk4, ho4, hs4, hAl5⟩
end Go.Proofs.YtlipmjpapkfaeaaGreatDoor.Fn
end
section
set_option linter.unusedSimpArgs false
set_option linter.unusedVariables false
namespace Go.Mach
open Go Go.RowKit

/-- A list is put behind another one. -/
theorem OwnV.appL {W : World} {N : Nat} {h0 h : AHeap} {a : Option Addr} {c esz b' : Nat} {es es' : List (List Value)} (o : OwnV N h a c esz es) (k : Keeps h0 h) (k1 : h0.next ≤ N) (k2 : N ≤ h.next) (o' : Ow h b' esz es') (hne : es' ≠ [])
    (h1 : es'.flatten.all oneV = true) (hs : es.length + es'.length ≤ 1073741824) :
    ∃ a' c' h', appA W h esz (.slice a es.length c) (.slice (some ⟨b', 0, some 0⟩) es'.length esz) = some (.slice a' (es ++ es').length c', h') ∧ OwnV N h' a' c' esz (es ++ es') ∧ Keeps h0 h' ∧ h'.next = h.next + 1 ∧
      (∀ i, i < h.next → NotIn a i → h'.own.get i = h.own.get i) ∧ (∀ i, i < h.next → NotIn a' i) := by
  have hld := aloadN_own (W := W) o'
  have hnews : newsOf W h esz (.slice (some ⟨b', 0, some 0⟩) es'.length esz) = some (es'.length, es'.flatten) := by
    unfold newsOf
    simp only [Option.isNone_some, Bool.false_or, Nat.beq_refl, cond_true, hld, Option.map_some]
  obtain ⟨m, hm⟩ : ∃ m, es'.length = m + 1 := ⟨es'.length - 1, by have := List.length_pos_iff.2 hne; omega⟩
  rw [hm] at hnews hs ⊢
  rcases o with ⟨rfl, rfl, rfl⟩ | ⟨b, rfl, rfl, h3, h4⟩
  · have hs' : Nat.ble (m + 1) 1073741824 = true := Nat.ble_eq_true_of_le (by simpa using hs)
    refine ⟨some ⟨h.next, 0, some 0⟩, esz, h.new (.cells es'.flatten), ?_, .inr ⟨h.next, rfl, rfl, k2, ?_, ?_, ?_⟩, k.new _, rfl, fun i hi _ => by rw [AHeap.new_get, if_neg (by omega)], fun i hi x hx => by cases hx; show h.next ≠ i; omega⟩
    · unfold appA
      simp only [hnews, List.length_nil, h1, hs', Bool.and_true, cond_true, oS, oA, List.nil_append, hm]
    · rw [AHeap.new_get, if_pos rfl]; simp
    · intro x hx; exact o'.len x (by simpa using hx)
    · rw [AHeap.new_next]; omega
  · have hold := aloadN_own (W := W) h4
    refine ⟨some ⟨h.next, 0, some 0⟩, c, (h.put b .dead).new (.cells (es ++ es').flatten), ?_, .inr ⟨h.next, rfl, rfl, k2, ?_, ?_, ?_⟩, (k.put (Nat.le_trans k1 h3) _).new _, rfl, fun i hi hn => ?_, fun i hi x hx => by cases hx; show h.next ≠ i; omega⟩
    · unfold appA
      simp only [hnews, Nat.beq_refl, cond_true, hold, h4.get, Nat.ble_eq_true_of_le hs, h1, Bool.and_true, oS, oA, List.length_append, hm, List.flatten_append]
    · rw [AHeap.new_get, AHeap.put_next, if_pos rfl]
    · intro x hx
      rcases List.mem_append.1 hx with hx | hx
      · exact h4.len x hx
      · exact o'.len x hx
    · rw [AHeap.new_next, AHeap.put_next]; omega
    · rw [AHeap.new_get, AHeap.put_next, if_neg (by omega), AHeap.put_get, if_neg]
      have := hn _ rfl
      intro e; exact this e.symm

def byteV (b : UInt8) : List Value := [.int .u8 (b.toNat : Nat)]
theorem byteV_one (bs : List UInt8) : (bs.map byteV).flatten.all oneV = true := by
  rw [List.all_eq_true]
  intro v hv
  obtain ⟨l, hl, hv⟩ := List.mem_flatten.1 hv
  obtain ⟨b, _, rfl⟩ := List.mem_map.1 hl
  simp [byteV] at hv; subst hv; rfl
theorem bytesOfL_map : ∀ bs : List UInt8, bytesOfL (bs.map byteV).flatten = some bs
  | [] => rfl
  | b :: bs => by
    have ih := bytesOfL_map bs
    simp only [List.map_cons, List.flatten_cons, byteV, List.cons_append, List.nil_append, bytesOfL, ih, Int.toNat_natCast, UInt8.ofNat_toNat]
theorem bytes_str {W : World} {h : AHeap} {b : Nat} {bs : List UInt8} (o : Ow h b 1 (bs.map byteV)) : (aloadN W h ⟨b, 0, some 0⟩ bs.length).bind bytesOfL = some bs := by
  have := aloadN_own (W := W) o
  rw [List.length_map, Nat.mul_one] at this
  rw [this]
  exact bytesOfL_map bs

/-- A string as a key. -/
def strK (bs : List UInt8) : Value := .string ⟨bs.toArray⟩
theorem keyedStr : Keyed (.sc .s) strK := ⟨fun k => rfl, fun a b => by
  simp only [strK, keq, scEq]
  congr 1
  by_cases h : a = b
  · subst h; simp
  · simp [h]⟩
/-- The place of a key. -/
def ixOf {α : Type} [DecidableEq α] (ks : List α) (k : α) : Nat := ks.idxOf k
theorem lookIx {α : Type} [DecidableEq α] {e : EqTy} {enc : α → Value} (K : Keyed e enc) {H : AHeap} {b : Nat} {ks : List α} (hb : H.own.get b = some (.map (mapFrom enc 0 ks))) (s : α) :
    ∃ (q0 : Int) (b0 : Bool), lookupV e (.int .i64 0) H (.map (some b)) (enc s) true = some (.tuple #[.int .i64 q0, .bool b0]) ∧ (b0 = true → s ∈ ks ∧ q0 = (ixOf ks s : Nat)) ∧ (b0 = false → s ∉ ks) := by
  by_cases hs : s ∈ ks
  · exact ⟨_, true, lookup_in K hb hs _ true, fun _ => ⟨hs, rfl⟩, fun h => by cases h⟩
  · exact ⟨_, false, lookup_out K hb hs _ true, (fun h => by cases h), fun _ => hs⟩
theorem ixOf_lt {α : Type} [DecidableEq α] {ks : List α} {k : α} (h : k ∈ ks) : ixOf ks k < ks.length := List.idxOf_lt_length_of_mem h
theorem ixOf_get {α : Type} [DecidableEq α] {ks : List α} {k : α} (h : k ∈ ks) : ks[ixOf ks k]? = some k := by
  have := ixOf_lt h
  unfold ixOf at *
  rw [List.getElem?_eq_getElem this, List.getElem_idxOf]
theorem ixOf_out {α : Type} [DecidableEq α] {ks : List α} {k : α} (h : k ∉ ks) : ixOf ks k = ks.length := List.idxOf_eq_length h
theorem ixOf_inj {α : Type} [DecidableEq α] {ks : List α} {a b : α} (ha : a ∈ ks) (hb : b ∈ ks) (h : ixOf ks a = ixOf ks b) : a = b := by
  have h1 := ixOf_get ha; have h2 := ixOf_get hb
  rw [h] at h1; rw [h1] at h2; exact Option.some.inj h2
theorem ixOf_snoc {α : Type} [DecidableEq α] {ks : List α} {k : α} (h : k ∉ ks) : ixOf (ks ++ [k]) k = ks.length := by
  unfold ixOf; rw [List.idxOf_append]; simp [h]
theorem ixOf_app {α : Type} [DecidableEq α] {ks r : List α} {k : α} (h : k ∈ ks) : ixOf (ks ++ r) k = ixOf ks k := by
  unfold ixOf; rw [List.idxOf_append]; simp [h]
end Go.Mach
end
section
set_option linter.unusedSimpArgs false
set_option linter.unusedVariables false
set_option maxRecDepth 100000
namespace Go.Proofs.YtlipmjpapkfaeaaGreatDoor.Fn
open Go Go.Mach Go.RowKit Go.Proofs
attribute [local irreducible] AOps WPX DOps thenS blockS AOp GOps CPick

/-- The bytes of a number. -/
def bytesN (n : Nat) : List UInt8 := [UInt8.ofNat (n / 16777216), UInt8.ofNat (n / 65536), UInt8.ofNat (n / 256), UInt8.ofNat n]

theorem wrap_u8 (x : Nat) : IntKind.u8.wrap (x : Int) = ((x % 256 : Nat) : Int) := by
  have e1 : ((2 : Int) ^ IntKind.u8.bits) = 256 := by decide
  simp only [IntKind.wrap, e1, IntKind.signed, Bool.false_and, Bool.false_eq_true, if_false]
  omega
theorem shr_of {n d : Nat} {k : Int} (hk : 0 ≤ k) (hd : (2 : Int) ^ (min k.toNat IntKind.i64.bits) = (d : Int)) : intSh .shr .i64 (n : Int) k = some (.int .i64 ((n / d : Nat) : Int)) := by
  unfold intSh
  simp only [show ¬ k < 0 by omega, decide_false, cond_false, hd]
  rw [Int.fdiv_eq_ediv_of_nonneg _ (by omega)]
  rfl

set_option maxHeartbeats 4000000 in
theorem f113_ok (W : World) (h : AHeap) (n : Nat) : ACalls Tryz.prog W 113 [.int .i64 n] h (fun r h' => ∃ b, r = .slice (some ⟨b, 0, some 0⟩) 4 1 ∧ h.next ≤ b ∧ Ow h' b 1 ((bytesN n).map byteV) ∧ Keeps h h') := by
  refine ACalls_ofX hmix c113 (Nat.le_of_ble_eq_true rfl) ?_
  unfold r113
  simp only [envOf1]
  have h24 : intSh .shr .i64 (n : Int) 24 = some (.int .i64 ((n / 16777216 : Nat) : Int)) := shr_of (by omega) (by decide)
  have h16 : intSh .shr .i64 (n : Int) 16 = some (.int .i64 ((n / 65536 : Nat) : Int)) := shr_of (by omega) (by decide)
  have h8 : intSh .shr .i64 (n : Int) 8 = some (.int .i64 ((n / 256 : Nat) : Int)) := shr_of (by omega) (by decide)
  have w24 := wrap_u8 (n / 16777216)
  have w16 := wrap_u8 (n / 65536)
  have w8 := wrap_u8 (n / 256)
  have w0 := wrap_u8 n
  have ho : Ow (h.new (.cells [.int .u8 ((n / 16777216 % 256 : Nat) : Int), .int .u8 ((n / 65536 % 256 : Nat) : Int), .int .u8 ((n / 256 % 256 : Nat) : Int), .int .u8 ((n % 256 : Nat) : Int)])) h.next 1 ((bytesN n).map byteV) :=
    ⟨by rw [AHeap.new_get, if_pos rfl]; simp [bytesN, byteV], fun e he => by obtain ⟨b, _, rfl⟩ := List.mem_map.1 he; rfl, by rw [AHeap.new_next]; omega⟩
  have hk : Keeps h (h.new (.cells [.int .u8 ((n / 16777216 % 256 : Nat) : Int), .int .u8 ((n / 65536 % 256 : Nat) : Int), .int .u8 ((n / 256 % 256 : Nat) : Int), .int .u8 ((n % 256 : Nat) : Int)])) := (Keeps.refl h).new _
  repeat (first | (with_reducible first | apply x_seq | apply x_block | apply x_region | apply x_exit | apply x_ret | apply x_skip | apply t_normal | apply t_exit | apply t_ret | apply b_normal | apply b_ret | apply b_same | apply ops_nil | apply g_T | apply g_F | apply c_T | apply c_F) | (with_reducible refine b_other (by decide) ?_) | ((with_reducible apply x_draws); (with_reducible apply d_pure); (next => kernel_rfl)) | ((with_reducible first | apply ops_d | apply ops_g | apply x_c); (next => simp only [rop, opd, celsL, oneV, aadd, binV, isSh, intBin, scEq, keq, unV, fillL, oP, oA, oS, wantedA, BX, BL, BS, seval, *]; with_reducible exact rfl)))
  refine ⟨.inr rfl, _, rfl, h.next, ?_, Nat.le_refl _, ho, hk⟩
  simp only [resOf, rop, opd, celsL, oneV, aadd, binV, isSh, intBin, scEq, keq, unV, fillL, oP, oA, oS, wantedA, BX, BL, BS, seval]

theorem bytesN_inj {n m : Nat} (hn : n < 4294967296) (hm : m < 4294967296) (h : bytesN n = bytesN m) : n = m := by
  simp only [bytesN, List.cons.injEq, and_true] at h
  obtain ⟨h1, h2, h3, h4⟩ := h
  have e : ∀ a b : Nat, UInt8.ofNat a = UInt8.ofNat b → a % 256 = b % 256 := fun a b hab => by
    have := congrArg UInt8.toNat hab
    simpa using this
  have := e _ _ h1; have := e _ _ h2; have := e _ _ h3; have := e _ _ h4
  omega
end Go.Proofs.YtlipmjpapkfaeaaGreatDoor.Fn
end
