/- automaton.step (F41) and what it calls (cmp.Compare F76, its closure F75, slices.BinarySearchFunc F74) in the machine. -/
import Derived.Test.YtlipmjpapkfaeaaGreatDoorV2
set_option linter.unusedSimpArgs false
set_option linter.unusedVariables false
set_option maxRecDepth 100000
namespace Go.Proofs.YtlipmjpapkfaeaaGreatDoor.Fn
open Go Go.Mach Go.RowKit
attribute [local irreducible] AOps WPX DOps thenS blockS AOp GOps CPick

def nextA (l : List Arc3) (c : Int) : Int := match l.find? (fun x => decide (x.1 ≤ c) && decide (c ≤ x.2.1)) with
  | some x => x.2.2
  | none => -1

theorem envOf3 (v u x : Value) : envOf 0 [v, u, x] .lf = eput (eput (eput .lf (some 0) v) (some 1) u) (some 2) x := rfl

def cmpI (a b : Int) : Int := if a < b then -1 else if a > b then 1 else 0

set_option maxHeartbeats 4000000 in
theorem f112_ok (W : World) (h : AHeap) (a : Int) : ACalls Tryz.prog W 112 [.int .i32 a] h (fun r h' => r = .bool false ∧ h' = h) := by
  refine ACalls_ofX hmix c112 (Nat.le_of_ble_eq_true rfl) ?_
  unfold r112
  simp only [envOf1]
  repeat (first | (with_reducible first | apply x_seq | apply x_block | apply x_region | apply x_exit | apply x_ret | apply x_skip | apply t_normal | apply t_exit | apply t_ret | apply b_normal | apply b_ret | apply b_same | apply ops_nil | apply g_T | apply g_F | apply c_T | apply c_F) | (with_reducible refine b_other (by decide) ?_) | ((with_reducible apply x_draws); (with_reducible apply d_pure); (next => kernel_rfl)) | ((with_reducible first | apply ops_d | apply ops_g | apply x_c); (next => simp only [rop, opd, celsL, oneV, aadd, binV, isSh, intBin, scEq, keq, unV, fillL, oP, oA, oS, wantedA, BX, BL, BS, seval, *]; with_reducible exact rfl)))
  refine ⟨.inr rfl, _, rfl, ?_, rfl⟩
  simp only [resOf, rop, opd, celsL, oneV, aadd, binV, isSh, intBin, scEq, keq, unV, fillL, oP, oA, oS, wantedA, BX, BL, BS, seval]

set_option maxHeartbeats 4000000 in
theorem f76_ok (W : World) (h : AHeap) (a b : Int) : ACalls Tryz.prog W 76 [.int .i32 a, .int .i32 b] h (fun r h' => r = .int .i64 (cmpI a b) ∧ h' = h) := by
  refine ACalls_ofX hmix c76 (Nat.le_of_ble_eq_true rfl) ?_
  unfold r76
  simp only [envOf2]
  repeat (first | (with_reducible first | apply x_seq | apply x_block | apply x_region | apply x_exit | apply x_ret | apply x_skip | apply t_normal | apply t_exit | apply t_ret | apply b_normal | apply b_ret | apply b_same | apply ops_nil | apply g_T | apply g_F | apply c_T | apply c_F) | (with_reducible refine b_other (by decide) ?_) | ((with_reducible apply x_draws); (with_reducible apply d_pure); (next => kernel_rfl)) | ((with_reducible first | apply ops_d | apply ops_g | apply x_c); (next => simp only [rop, opd, celsL, oneV, aadd, binV, isSh, intBin, scEq, keq, unV, fillL, oP, oA, oS, wantedA, BX, BL, BS, seval, *]; with_reducible exact rfl)))
  refine ops_call rfl rfl (fid := 112) (cap := #[]) (R := fun r h' => r = .bool false ∧ h' = h) ?hc ?hK
  case hc =>
    simp only [List.map_cons, List.map_nil, List.append_nil, rop, opd, celsL, oneV, aadd, binV, isSh, intBin, scEq, keq, unV, fillL, oP, oA, oS, wantedA, BX, BL, BS, seval]
    exact f112_ok W h a
  rintro r1 h1 ⟨rfl, rfl⟩
  repeat (first | (with_reducible first | apply x_seq | apply x_block | apply x_region | apply x_exit | apply x_ret | apply x_skip | apply t_normal | apply t_exit | apply t_ret | apply b_normal | apply b_ret | apply b_same | apply ops_nil | apply g_T | apply g_F | apply c_T | apply c_F) | (with_reducible refine b_other (by decide) ?_) | ((with_reducible apply x_draws); (with_reducible apply d_pure); (next => kernel_rfl)) | ((with_reducible first | apply ops_d | apply ops_g | apply x_c); (next => simp only [rop, opd, celsL, oneV, aadd, binV, isSh, intBin, scEq, keq, unV, fillL, oP, oA, oS, wantedA, BX, BL, BS, seval, *]; with_reducible exact rfl)))
  refine ops_call rfl rfl (fid := 112) (cap := #[]) (R := fun r h' => r = .bool false ∧ h' = h1) ?hc2 ?hK2
  case hc2 =>
    simp only [List.map_cons, List.map_nil, List.append_nil, rop, opd, celsL, oneV, aadd, binV, isSh, intBin, scEq, keq, unV, fillL, oP, oA, oS, wantedA, BX, BL, BS, seval]
    exact f112_ok W h1 b
  rintro r2 h2 ⟨rfl, rfl⟩
  by_cases hab : a < b
  · have hv : cmpI a b = -1 := by simp [cmpI, hab]
    repeat (first | (with_reducible first | apply x_seq | apply x_block | apply x_region | apply x_exit | apply x_ret | apply x_skip | apply t_normal | apply t_exit | apply t_ret | apply b_normal | apply b_ret | apply b_same | apply ops_nil | apply g_T | apply g_F | apply c_T | apply c_F) | (with_reducible refine b_other (by decide) ?_) | ((with_reducible apply x_draws); (with_reducible apply d_pure); (next => kernel_rfl)) | ((with_reducible first | apply ops_d | apply ops_g | apply x_c); (next => simp only [rop, opd, celsL, oneV, aadd, binV, isSh, intBin, scEq, keq, unV, fillL, oP, oA, oS, wantedA, BX, BL, BS, seval, *]; with_reducible exact rfl)))
    refine ⟨.inr rfl, _, rfl, ?_, rfl⟩
    simp only [resOf, rop, opd, celsL, oneV, aadd, binV, isSh, intBin, scEq, keq, unV, fillL, oP, oA, oS, wantedA, BX, BL, BS, seval, hv]
  · by_cases hba : a > b
    · have hv : cmpI a b = 1 := by simp [cmpI, hab, hba]
      repeat (first | (with_reducible first | apply x_seq | apply x_block | apply x_region | apply x_exit | apply x_ret | apply x_skip | apply t_normal | apply t_exit | apply t_ret | apply b_normal | apply b_ret | apply b_same | apply ops_nil | apply g_T | apply g_F | apply c_T | apply c_F) | (with_reducible refine b_other (by decide) ?_) | ((with_reducible apply x_draws); (with_reducible apply d_pure); (next => kernel_rfl)) | ((with_reducible first | apply ops_d | apply ops_g | apply x_c); (next => simp only [rop, opd, celsL, oneV, aadd, binV, isSh, intBin, scEq, keq, unV, fillL, oP, oA, oS, wantedA, BX, BL, BS, seval, *]; with_reducible exact rfl)))
      refine ⟨.inr rfl, _, rfl, ?_, rfl⟩
      simp only [resOf, rop, opd, celsL, oneV, aadd, binV, isSh, intBin, scEq, keq, unV, fillL, oP, oA, oS, wantedA, BX, BL, BS, seval, hv]
    · have hv : cmpI a b = 0 := by simp [cmpI, hab, hba]
      repeat (first | (with_reducible first | apply x_seq | apply x_block | apply x_region | apply x_exit | apply x_ret | apply x_skip | apply t_normal | apply t_exit | apply t_ret | apply b_normal | apply b_ret | apply b_same | apply ops_nil | apply g_T | apply g_F | apply c_T | apply c_F) | (with_reducible refine b_other (by decide) ?_) | ((with_reducible apply x_draws); (with_reducible apply d_pure); (next => kernel_rfl)) | ((with_reducible first | apply ops_d | apply ops_g | apply x_c); (next => simp only [rop, opd, celsL, oneV, aadd, binV, isSh, intBin, scEq, keq, unV, fillL, oP, oA, oS, wantedA, BX, BL, BS, seval, *]; with_reducible exact rfl)))
      refine ⟨.inr rfl, _, rfl, ?_, rfl⟩
      simp only [resOf, rop, opd, celsL, oneV, aadd, binV, isSh, intBin, scEq, keq, unV, fillL, oP, oA, oS, wantedA, BX, BL, BS, seval, hv]

set_option maxHeartbeats 4000000 in
theorem f75_ok (W : World) (h : AHeap) (x : Arc3) (c : Int) : ACalls Tryz.prog W 75 [.agg (arcV x).toArray, .int .i32 c] h (fun r h' => r = .int .i64 (cmpI x.2.1 c) ∧ Keeps h h') := by
  obtain ⟨f, t, s⟩ := x
  refine ACalls_ofX hmix c75 (Nat.le_of_ble_eq_true rfl) ?_
  unfold r75
  simp only [envOf2, arcV]
  repeat (first | (with_reducible first | apply x_seq | apply x_block | apply x_region | apply x_exit | apply x_ret | apply x_skip | apply t_normal | apply t_exit | apply t_ret | apply b_normal | apply b_ret | apply b_same | apply ops_nil | apply g_T | apply g_F | apply c_T | apply c_F) | (with_reducible refine b_other (by decide) ?_) | ((with_reducible apply x_draws); (with_reducible apply d_pure); (next => kernel_rfl)) | ((with_reducible first | apply ops_d | apply ops_g | apply x_c); (next => simp only [rop, opd, celsL, oneV, aadd, binV, isSh, intBin, scEq, keq, unV, fillL, oP, oA, oS, wantedA, BX, BL, BS, seval, *]; with_reducible exact rfl)))
  refine ops_call rfl rfl (fid := 76) (cap := #[]) (R := fun r h' => r = .int .i64 (cmpI t c) ∧ Keeps h h') ?hc ?hK
  case hc =>
    simp only [List.map_cons, List.map_nil, List.append_nil, rop, opd, celsL, oneV, aadd, binV, isSh, intBin, scEq, keq, unV, fillL, oP, oA, oS, wantedA, BX, BL, BS, seval]
    exact (f76_ok W _ t c).mono fun v h' ⟨h1, h2⟩ => ⟨h1, by rw [h2]; exact (Keeps.refl h).new _⟩
  rintro r1 h1 ⟨rfl, hk⟩
  repeat (first | (with_reducible first | apply x_seq | apply x_block | apply x_region | apply x_exit | apply x_ret | apply x_skip | apply t_normal | apply t_exit | apply t_ret | apply b_normal | apply b_ret | apply b_same | apply ops_nil | apply g_T | apply g_F | apply c_T | apply c_F) | (with_reducible refine b_other (by decide) ?_) | ((with_reducible apply x_draws); (with_reducible apply d_pure); (next => kernel_rfl)) | ((with_reducible first | apply ops_d | apply ops_g | apply x_c); (next => simp only [rop, opd, celsL, oneV, aadd, binV, isSh, intBin, scEq, keq, unV, fillL, oP, oA, oS, wantedA, BX, BL, BS, seval, *]; with_reducible exact rfl)))
  refine ⟨.inr rfl, _, rfl, ?_, hk⟩
  simp only [resOf, rop, opd, celsL, oneV, aadd, binV, isSh, intBin, scEq, keq, unV, fillL, oP, oA, oS, wantedA, BX, BL, BS, seval]

theorem wrap_u64 {x : Int} (h1 : 0 ≤ x) (h2 : x < 18446744073709551616) : IntKind.u64.wrap x = x := by
  have e1 : ((2 : Int) ^ IntKind.u64.bits) = 18446744073709551616 := by decide
  simp only [IntKind.wrap, e1, IntKind.signed, Bool.false_and, Bool.false_eq_true, if_false]
  omega

def LoB (l : List Arc3) (c : Int) (i : Nat) : Prop := i = 0 ∨ ∃ x, l[i - 1]? = some x ∧ x.2.1 < c
def HiB (l : List Arc3) (c : Int) (i : Nat) : Prop := i = l.length ∨ ∃ x, l[i]? = some x ∧ c ≤ x.2.1
/-- What a binary search finds: the first arc whose end is not below. -/
def Found (l : List Arc3) (c : Int) (i : Nat) : Prop := i ≤ l.length ∧ LoB l c i ∧ HiB l c i


set_option maxHeartbeats 4000000 in
theorem f74_ok (W : World) (h : AHeap) (v : Value) (l : List Arc3) (c : Int) (hs : Sl W h 3 v (l.map arcV)) (hb : l.length < 1073741824) :
    ACalls Tryz.prog W 74 [v, .int .i32 c, .func (.func 75) #[] #[]] h (fun r h' => (∃ i b, Found l c i ∧ r = .tuple #[.int .i64 (i : Nat), .bool b]) ∧ Keeps h h') := by
  obtain ⟨la, lc, hls⟩ := hs.len
  rw [List.length_map] at hls
  subst hls
  refine ACalls_ofX hmix c74 (Nat.le_of_ble_eq_true rfl) ?_
  unfold r74
  simp only [envOf3]
  repeat (first | (with_reducible first | apply x_seq | apply x_block | apply x_region | apply x_exit | apply x_ret | apply x_skip | apply t_normal | apply t_exit | apply t_ret | apply b_normal | apply b_ret | apply b_same | apply ops_nil | apply g_T | apply g_F | apply c_T | apply c_F) | (with_reducible refine b_other (by decide) ?_) | ((with_reducible apply x_draws); (with_reducible apply d_pure); (next => kernel_rfl)) | ((with_reducible first | apply ops_d | apply ops_g | apply x_c); (next => simp only [rop, opd, celsL, oneV, aadd, binV, isSh, intBin, scEq, keq, unV, fillL, oP, oA, oS, wantedA, BX, BL, BS, seval, *]; with_reducible exact rfl)))
  refine WPX.loop hmix (fun k σ => ∃ i j, i ≤ j ∧ j ≤ l.length ∧ k = j - i ∧ eget σ.e 0 = .slice la l.length lc ∧ eget σ.e 1 = .int .i32 c ∧ eget σ.e 2 = .func (.func 75) #[] #[] ∧ eget σ.e 8 = .int .i64 l.length ∧ eget σ.e 9 = .int .i64 (i : Nat) ∧ eget σ.e 10 = .int .i64 (j : Nat) ∧ Keeps h σ.h ∧ LoB l c i ∧ HiB l c j) l.length ?h0 ?round
  case h0 => exact ⟨0, l.length, Nat.zero_le _, Nat.le_refl _, rfl, (by simp only [rop, opd, celsL, oneV, aadd, binV, isSh, intBin, scEq, keq, unV, fillL, oP, oA, oS, wantedA, BX, BL, BS, seval, *]), (by simp only [rop, opd, celsL, oneV, aadd, binV, isSh, intBin, scEq, keq, unV, fillL, oP, oA, oS, wantedA, BX, BL, BS, seval, *]), (by simp only [rop, opd, celsL, oneV, aadd, binV, isSh, intBin, scEq, keq, unV, fillL, oP, oA, oS, wantedA, BX, BL, BS, seval, *]), (by simp only [rop, opd, celsL, oneV, aadd, binV, isSh, intBin, scEq, keq, unV, fillL, oP, oA, oS, wantedA, BX, BL, BS, seval, *]), (by simp only [rop, opd, celsL, oneV, aadd, binV, isSh, intBin, scEq, keq, unV, fillL, oP, oA, oS, wantedA, BX, BL, BS, seval, *]), (by simp only [rop, opd, celsL, oneV, aadd, binV, isSh, intBin, scEq, keq, unV, fillL, oP, oA, oS, wantedA, BX, BL, BS, seval, *]), Keeps.refl h, .inl rfl, .inl rfl⟩
  rintro k ⟨e, hh⟩ ⟨i, j, hij, hj, rfl, e0, e1, e2, e8, e9, e10, hk, hI⟩
  dsimp only at e0 e1 e2 e8 e9 e10 hk
  by_cases hlt : i < j
  · have hltI : (i : Int) < j := by omega
    obtain ⟨m, hm⟩ : ∃ m, m = (i + j) / 2 := ⟨_, rfl⟩
    have hml : m < l.length := by omega
    have him : i ≤ m := by omega
    have hmj : m < j := by omega
    have hw1 : IntKind.i64.wrap ((i : Int) + j) = ((i + j : Nat) : Int) := wrap_i64 (by omega) (by omega)
    have hw2 : IntKind.u64.wrap ((i + j : Nat) : Int) = ((i + j : Nat) : Int) := wrap_u64 (by omega) (by omega)
    have hsh : intSh .shr .u64 ((i + j : Nat) : Int) 1 = some (.int .u64 (m : Int)) := by
      show some (Value.int .u64 (((i + j : Nat) : Int).fdiv 2)) = _
      rw [Int.fdiv_eq_ediv_of_nonneg _ (by omega)]
      congr 2
      omega
    clear hm
    have hw3 : IntKind.i64.wrap (m : Int) = (m : Int) := wrap_i64 (by omega) (by omega)
    have hw4 : IntKind.i64.wrap ((m : Int) + 1) = ((m + 1 : Nat) : Int) := wrap_i64 (by omega) (by omega)
    obtain ⟨⟨f, t, s⟩, hx⟩ : ∃ x, l[m]? = some x := ⟨_, List.getElem?_eq_getElem hml⟩
    have hxm : (l.map arcV)[m]? = some (arcV (f, t, s)) := by simp [hx]
    obtain ⟨a, ha1, _, ha3⟩ := (hs.keeps hk).at hxm
    have hld := aloadN_of _ _ ha3
    simp only [arcV, List.length_cons, List.length_nil, Nat.reduceAdd] at hld
    have h75 := f75_ok W hh (f, t, s) c
    clear hxm ha3
    repeat (first | (with_reducible first | apply x_seq | apply x_block | apply x_region | apply x_exit | apply x_ret | apply x_skip | apply t_normal | apply t_exit | apply t_ret | apply b_normal | apply b_ret | apply b_same | apply ops_nil | apply g_T | apply g_F | apply c_T | apply c_F) | (with_reducible refine b_other (by decide) ?_) | ((with_reducible apply x_draws); (with_reducible apply d_pure); (next => kernel_rfl)) | ((with_reducible first | apply ops_d | apply ops_g | apply x_c); (next => simp only [rop, opd, celsL, oneV, aadd, binV, isSh, intBin, scEq, keq, unV, fillL, oP, oA, oS, wantedA, BX, BL, BS, seval, *]; with_reducible exact rfl)))
    refine ops_call rfl ?hf (fid := 75) (cap := #[]) (R := fun r h' => r = .int .i64 (cmpI t c) ∧ Keeps hh h') ?hc ?hK
    case hf => simp only [rop, opd, celsL, oneV, aadd, binV, isSh, intBin, scEq, keq, unV, fillL, oP, oA, oS, wantedA, BX, BL, BS, seval, *]
    case hc =>
      simp only [List.map_cons, List.map_nil, List.append_nil, rop, opd, celsL, oneV, aadd, binV, isSh, intBin, scEq, keq, unV, fillL, oP, oA, oS, wantedA, BX, BL, BS, seval, e1]
      exact h75
    rintro r1 h1 ⟨rfl, hk1⟩
    clear h75
    have hk2 : Keeps h h1 := hk.trans hk1
    by_cases htc : t < c
    · have hcm : cmpI t c = -1 := by simp [cmpI, htc]
      repeat (first | (with_reducible first | apply x_seq | apply x_block | apply x_region | apply x_exit | apply x_ret | apply x_skip | apply t_normal | apply t_exit | apply t_ret | apply b_normal | apply b_ret | apply b_same | apply ops_nil | apply g_T | apply g_F | apply c_T | apply c_F) | (with_reducible refine b_other (by decide) ?_) | ((with_reducible apply x_draws); (with_reducible apply d_pure); (next => kernel_rfl)) | ((with_reducible first | apply ops_d | apply ops_g | apply x_c); (next => simp only [rop, opd, celsL, oneV, aadd, binV, isSh, intBin, scEq, keq, unV, fillL, oP, oA, oS, wantedA, BX, BL, BS, seval, *]; with_reducible exact rfl)))
      refine ⟨j - (m + 1), by omega, m + 1, j, by omega, by omega, rfl, ?_⟩
      have hg : LoB l c (m + 1) := .inr ⟨_, hx, htc⟩
      (simp only [rop, opd, celsL, oneV, aadd, binV, isSh, intBin, scEq, keq, unV, fillL, oP, oA, oS, wantedA, BX, BL, BS, seval, and_self, *]) <;> trivial
    · have hcm : cmpI t c = 0 ∨ cmpI t c = 1 := by simp only [cmpI, htc, if_false]; split <;> simp
      have hnn : ¬ cmpI t c < 0 := by omega
      clear hcm
      repeat (first | (with_reducible first | apply x_seq | apply x_block | apply x_region | apply x_exit | apply x_ret | apply x_skip | apply t_normal | apply t_exit | apply t_ret | apply b_normal | apply b_ret | apply b_same | apply ops_nil | apply g_T | apply g_F | apply c_T | apply c_F) | (with_reducible refine b_other (by decide) ?_) | ((with_reducible apply x_draws); (with_reducible apply d_pure); (next => kernel_rfl)) | ((with_reducible first | apply ops_d | apply ops_g | apply x_c); (next => simp only [rop, opd, celsL, oneV, aadd, binV, isSh, intBin, scEq, keq, unV, fillL, oP, oA, oS, wantedA, BX, BL, BS, seval, *]; with_reducible exact rfl)))
      refine ⟨m - i, by omega, i, m, by omega, by omega, rfl, ?_⟩
      have hg : HiB l c m := .inr ⟨_, hx, by show c ≤ t; omega⟩
      (simp only [rop, opd, celsL, oneV, aadd, binV, isSh, intBin, scEq, keq, unV, fillL, oP, oA, oS, wantedA, BX, BL, BS, seval, and_self, *]) <;> trivial
  · have hltI : ¬ (i : Int) < j := by omega
    have hij' : i = j := by omega
    have hfd : Found l c i := ⟨by omega, hI.1, by rw [hij']; exact hI.2⟩
    clear hij'
    clear hI
    by_cases hin : i < l.length
    · have hinI : (i : Int) < l.length := by omega
      obtain ⟨⟨f, t, s⟩, hx⟩ : ∃ x, l[i]? = some x := ⟨_, List.getElem?_eq_getElem hin⟩
      have hxm : (l.map arcV)[i]? = some (arcV (f, t, s)) := by simp [hx]
      obtain ⟨a, ha1, _, ha3⟩ := (hs.keeps hk).at hxm
      have hld := aloadN_of _ _ ha3
      simp only [arcV, List.length_cons, List.length_nil, Nat.reduceAdd] at hld
      have h75 := f75_ok W hh (f, t, s) c
      clear hxm ha3 hx
      repeat (first | (with_reducible first | apply x_seq | apply x_block | apply x_region | apply x_exit | apply x_ret | apply x_skip | apply t_normal | apply t_exit | apply t_ret | apply b_normal | apply b_ret | apply b_same | apply ops_nil | apply g_T | apply g_F | apply c_T | apply c_F) | (with_reducible refine b_other (by decide) ?_) | ((with_reducible apply x_draws); (with_reducible apply d_pure); (next => kernel_rfl)) | ((with_reducible first | apply ops_d | apply ops_g | apply x_c); (next => simp only [rop, opd, celsL, oneV, aadd, binV, isSh, intBin, scEq, keq, unV, fillL, oP, oA, oS, wantedA, BX, BL, BS, seval, *]; with_reducible exact rfl)))
      refine ops_call ?hw2 ?hf2 (fid := 75) (cap := #[]) (R := fun r h' => r = .int .i64 (cmpI t c) ∧ Keeps hh h') ?hc2 ?hK2
      case hw2 => simp only [rop, opd, celsL, oneV, aadd, binV, isSh, intBin, scEq, keq, unV, fillL, oP, oA, oS, wantedA, BX, BL, BS, seval, *]
      case hf2 => simp only [rop, opd, celsL, oneV, aadd, binV, isSh, intBin, scEq, keq, unV, fillL, oP, oA, oS, wantedA, BX, BL, BS, seval, *]
      case hc2 =>
        simp only [List.map_cons, List.map_nil, List.append_nil, rop, opd, celsL, oneV, aadd, binV, isSh, intBin, scEq, keq, unV, fillL, oP, oA, oS, wantedA, BX, BL, BS, seval, e1]
        exact h75
      rintro r1 h1 ⟨rfl, hk1⟩
      clear h75
      have hk2 : Keeps h h1 := hk.trans hk1
      repeat (first | (with_reducible first | apply x_seq | apply x_block | apply x_region | apply x_exit | apply x_ret | apply x_skip | apply t_normal | apply t_exit | apply t_ret | apply b_normal | apply b_ret | apply b_same | apply ops_nil | apply g_T | apply g_F | apply c_T | apply c_F) | (with_reducible refine b_other (by decide) ?_) | ((with_reducible apply x_draws); (with_reducible apply d_pure); (next => kernel_rfl)) | ((with_reducible first | apply ops_d | apply ops_g | apply x_c); (next => simp only [rop, opd, celsL, oneV, aadd, binV, isSh, intBin, scEq, keq, unV, fillL, oP, oA, oS, wantedA, BX, BL, BS, seval, *]; with_reducible exact rfl)))
      refine ⟨.inr rfl, _, rfl, ⟨i, decide (cmpI t c = 0), hfd, ?_⟩, hk2⟩
      simp only [resOf, rop, opd, celsL, oneV, aadd, binV, isSh, intBin, scEq, keq, unV, fillL, oP, oA, oS, wantedA, BX, BL, BS, seval]
    · have hinI : ¬ (i : Int) < l.length := by omega
      repeat (first | (with_reducible first | apply x_seq | apply x_block | apply x_region | apply x_exit | apply x_ret | apply x_skip | apply t_normal | apply t_exit | apply t_ret | apply b_normal | apply b_ret | apply b_same | apply ops_nil | apply g_T | apply g_F | apply c_T | apply c_F) | (with_reducible refine b_other (by decide) ?_) | ((with_reducible apply x_draws); (with_reducible apply d_pure); (next => kernel_rfl)) | ((with_reducible first | apply ops_d | apply ops_g | apply x_c); (next => simp only [rop, opd, celsL, oneV, aadd, binV, isSh, intBin, scEq, keq, unV, fillL, oP, oA, oS, wantedA, BX, BL, BS, seval, *]; with_reducible exact rfl)))
      refine ⟨.inr rfl, _, rfl, ⟨i, false, hfd, ?_⟩, hk⟩
      simp only [resOf, rop, opd, celsL, oneV, aadd, binV, isSh, intBin, scEq, keq, unV, fillL, oP, oA, oS, wantedA, BX, BL, BS, seval]

/-- In a list of arcs in order, what the binary search finds is what a search from the left finds. -/
theorem sorted_of {n : Nat} : ∀ (l : List Arc3) (p : Option Arc3), chkFrom n p l = none → (∀ x ∈ l, x.1 ≤ x.2.1 ∧ ∀ q, p = some q → q.2.1 < x.1) ∧ l.Pairwise (fun x y => x.2.1 < y.1)
  | [], p, _ => ⟨fun x h => by simp at h, .nil⟩
  | x :: l, p, h => by
    unfold chkFrom at h
    split at h
    · cases h
    · rename_i hbad
      have hx : x.1 ≤ x.2.1 := by
        simp [badArc] at hbad; omega
      have hrec : chkFrom n (some x) l = none ∧ ∀ q, p = some q → q.2.1 < x.1 := by
        cases p with
        | none => exact ⟨h, fun q hq => by cases hq⟩
        | some q =>
          simp only at h
          split at h
          · cases h
          · split at h
            · cases h
            · rename_i h1 h2
              exact ⟨h, fun q' hq => by cases hq; omega⟩
      obtain ⟨h1, h2⟩ := sorted_of l (some x) hrec.1
      refine ⟨fun y hy => ?_, List.pairwise_cons.2 ⟨fun y hy => (h1 y hy).2 x rfl, h2⟩⟩
      rcases List.mem_cons.1 hy with rfl | hy
      · exact ⟨hx, hrec.2⟩
      · refine ⟨(h1 y hy).1, fun q hq => ?_⟩
        have a := hrec.2 q hq
        have b := (h1 y hy).2 x rfl
        omega

theorem found_next {n : Nat} {l : List Arc3} {c : Int} {i : Nat} (hs : chkFrom n none l = none) (hf : Found l c i) :
    nextA l c = if h : i < l.length then (if (l[i]).1 ≤ c then (l[i]).2.2 else -1) else -1 := by
  obtain ⟨h1, h2⟩ := sorted_of l none hs
  obtain ⟨f1, f2, f3⟩ := hf
  have hp := List.pairwise_iff_getElem.1 h2
  have before : ∀ k (hk : k < l.length), k < i → (l[k]).2.1 < c := by
    intro k hk hki
    rcases f2 with f2 | ⟨x, hx, hxc⟩
    · omega
    · obtain ⟨hlt, he⟩ := List.getElem?_eq_some_iff.1 hx
      by_cases hkk : k = i - 1
      · subst hkk; rw [he]; exact hxc
      · have := hp k (i - 1) hk hlt (by omega)
        have hh := (h1 _ (List.getElem_mem hlt)).1
        rw [he] at this hh
        omega
  have after : ∀ k (hk : k < l.length), i < k → c < (l[k]).1 := by
    intro k hk hki
    rcases f3 with f3 | ⟨x, hx, hxc⟩
    · omega
    · obtain ⟨hlt, he⟩ := List.getElem?_eq_some_iff.1 hx
      have := hp i k hlt hk hki
      rw [he] at this
      omega
  unfold nextA
  by_cases hi : i < l.length
  · simp only [hi, dite_true]
    by_cases hfr : (l[i]).1 ≤ c
    · have hto : c ≤ (l[i]).2.1 := by
        rcases f3 with f3 | ⟨x, hx, hxc⟩
        · omega
        · obtain ⟨hlt, he⟩ := List.getElem?_eq_some_iff.1 hx
          rw [he]; exact hxc
      have : l.find? (fun x => decide (x.1 ≤ c) && decide (c ≤ x.2.1)) = some l[i] := by
        rw [List.find?_eq_some_iff_getElem]
        refine ⟨by simp [hfr, hto], i, hi, rfl, fun k hk => ?_⟩
        have := before k (by omega) hk
        simp; omega
      rw [this]; simp [hfr]
    · have : l.find? (fun x => decide (x.1 ≤ c) && decide (c ≤ x.2.1)) = none := by
        rw [List.find?_eq_none]
        intro x hx
        obtain ⟨k, hk, rfl⟩ := List.getElem_of_mem hx
        rcases Nat.lt_trichotomy k i with hki | rfl | hki
        · have := before k hk hki; simp; omega
        · simp [hfr]
        · have := after k hk hki; simp; omega
      rw [this]; simp [hfr]
  · have : l.find? (fun x => decide (x.1 ≤ c) && decide (c ≤ x.2.1)) = none := by
      rw [List.find?_eq_none]
      intro x hx
      obtain ⟨k, hk, rfl⟩ := List.getElem_of_mem hx
      have := before k hk (by omega); simp; omega
    rw [this]; simp [hi]

set_option maxHeartbeats 4000000 in
theorem f41_ok (W : World) (h : AHeap) (v : Value) (n : Nat) (l : List Arc3) (c : Int) (hs : Sl W h 3 v (l.map arcV)) (hb : l.length < 1073741824) (hso : chkFrom n none l = none) :
    ACalls Tryz.prog W 41 [v, .int .i32 c] h (fun r h' => r = .int .i64 (nextA l c) ∧ Keeps h h') := by
  obtain ⟨la, lc, hls⟩ := hs.len
  rw [List.length_map] at hls
  subst hls
  refine ACalls_ofX hmix c41 (Nat.le_of_ble_eq_true rfl) ?_
  unfold r41
  simp only [envOf2]
  have h74 := f74_ok W h _ l c hs hb
  repeat (first | (with_reducible first | apply x_seq | apply x_block | apply x_region | apply x_exit | apply x_ret | apply x_skip | apply t_normal | apply t_exit | apply t_ret | apply b_normal | apply b_ret | apply b_same | apply ops_nil | apply g_T | apply g_F | apply c_T | apply c_F) | (with_reducible refine b_other (by decide) ?_) | ((with_reducible apply x_draws); (with_reducible apply d_pure); (next => kernel_rfl)) | ((with_reducible first | apply ops_d | apply ops_g | apply x_c); (next => simp only [rop, opd, celsL, oneV, aadd, binV, isSh, intBin, scEq, keq, unV, fillL, oP, oA, oS, wantedA, BX, BL, BS, seval, *]; with_reducible exact rfl)))
  refine ops_call rfl rfl (fid := 74) (cap := #[]) (R := fun r h' => (∃ i b, Found l c i ∧ r = .tuple #[.int .i64 (i : Nat), .bool b]) ∧ Keeps h h') ?hc ?hK
  case hc =>
    simp only [List.map_cons, List.map_nil, List.append_nil, rop, opd, celsL, oneV, aadd, binV, isSh, intBin, scEq, keq, unV, fillL, oP, oA, oS, wantedA, BX, BL, BS, seval]
    exact h74
  rintro r1 h1 ⟨⟨i, b, hfd, rfl⟩, hk⟩
  clear h74
  have hv := found_next hso hfd
  by_cases hi : i < l.length
  · have hiI : ¬ (i : Int) = l.length := by omega
    obtain ⟨⟨f, t, s⟩, hx⟩ : ∃ x, l[i]? = some x := ⟨_, List.getElem?_eq_getElem hi⟩
    have hxm : (l.map arcV)[i]? = some (arcV (f, t, s)) := by simp [hx]
    obtain ⟨a, ha1, _, ha3⟩ := (hs.keeps hk).at hxm
    have hp0 := (ha3 0 (.int .i32 f) rfl).1
    have hp2 := (ha3 2 (.int .i64 s) rfl).1
    simp only [aadd, Nat.add_zero] at hp0 hp2
    have he : l[i] = (f, t, s) := (List.getElem?_eq_some_iff.1 hx).2
    simp only [hi, dite_true, he] at hv
    clear ha3 hxm hx he hi
    by_cases hfc : f > c
    · rw [if_neg (by omega)] at hv
      repeat (first | (with_reducible first | apply x_seq | apply x_block | apply x_region | apply x_exit | apply x_ret | apply x_skip | apply t_normal | apply t_exit | apply t_ret | apply b_normal | apply b_ret | apply b_same | apply ops_nil | apply g_T | apply g_F | apply c_T | apply c_F) | (with_reducible refine b_other (by decide) ?_) | ((with_reducible apply x_draws); (with_reducible apply d_pure); (next => kernel_rfl)) | ((with_reducible first | apply ops_d | apply ops_g | apply x_c); (next => simp only [rop, opd, celsL, oneV, aadd, binV, isSh, intBin, scEq, keq, unV, fillL, oP, oA, oS, wantedA, BX, BL, BS, seval, *]; with_reducible exact rfl)))
      refine ⟨.inr rfl, _, rfl, ?_, hk⟩
      simp only [resOf, rop, opd, celsL, oneV, aadd, binV, isSh, intBin, scEq, keq, unV, fillL, oP, oA, oS, wantedA, BX, BL, BS, seval, hv]
    · rw [if_pos (by omega)] at hv
      repeat (first | (with_reducible first | apply x_seq | apply x_block | apply x_region | apply x_exit | apply x_ret | apply x_skip | apply t_normal | apply t_exit | apply t_ret | apply b_normal | apply b_ret | apply b_same | apply ops_nil | apply g_T | apply g_F | apply c_T | apply c_F) | (with_reducible refine b_other (by decide) ?_) | ((with_reducible apply x_draws); (with_reducible apply d_pure); (next => kernel_rfl)) | ((with_reducible first | apply ops_d | apply ops_g | apply x_c); (next => simp only [rop, opd, celsL, oneV, aadd, binV, isSh, intBin, scEq, keq, unV, fillL, oP, oA, oS, wantedA, BX, BL, BS, seval, *]; with_reducible exact rfl)))
      refine ⟨.inr rfl, _, rfl, ?_, hk⟩
      simp only [resOf, rop, opd, celsL, oneV, aadd, binV, isSh, intBin, scEq, keq, unV, fillL, oP, oA, oS, wantedA, BX, BL, BS, seval, hv]
  · have hiI : (i : Int) = l.length := by have := hfd.1; omega
    have hiI' : decide ((i : Int) = l.length) = true := decide_eq_true hiI
    simp only [hi, dite_false] at hv
    clear hiI hi
    repeat (first | (with_reducible first | apply x_seq | apply x_block | apply x_region | apply x_exit | apply x_ret | apply x_skip | apply t_normal | apply t_exit | apply t_ret | apply b_normal | apply b_ret | apply b_same | apply ops_nil | apply g_T | apply g_F | apply c_T | apply c_F) | (with_reducible refine b_other (by decide) ?_) | ((with_reducible apply x_draws); (with_reducible apply d_pure); (next => kernel_rfl)) | ((with_reducible first | apply ops_d | apply ops_g | apply x_c); (next => simp only [rop, opd, celsL, oneV, aadd, binV, isSh, intBin, scEq, keq, unV, fillL, oP, oA, oS, wantedA, BX, BL, BS, seval, *]; with_reducible exact rfl)))
    refine ⟨.inr rfl, _, rfl, ?_, hk⟩
    simp only [resOf, rop, opd, celsL, oneV, aadd, binV, isSh, intBin, scEq, keq, unV, fillL, oP, oA, oS, wantedA, BX, BL, BS, seval, hv]
end Go.Proofs.YtlipmjpapkfaeaaGreatDoor.Fn
