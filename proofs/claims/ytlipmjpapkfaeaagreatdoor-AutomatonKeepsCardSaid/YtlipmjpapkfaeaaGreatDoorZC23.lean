/- corporaref01.Units (F77) in the machine: the units of a string, as records. No condition but the string's size.
Merged from 2 texts. -/
import Derived.Test.YtlipmjpapkfaeaaGreatDoorZC9
import Derived.Test.YtlipmjpapkfaeaaGreatDoorZC21
import Derived.Test.YtlipmjpapkfaeaaGreatDoorZC22
section
set_option linter.unusedSimpArgs false
set_option linter.unusedVariables false
set_option maxRecDepth 100000
namespace Go.Proofs.YtlipmjpapkfaeaaGreatDoor.Fn
open Go Go.Mach Go.RowKit Go.Proofs Go.Proofs.YtlipmjpapkfaeaaGreatDoor.Orc
attribute [local irreducible] AOps WPX DOps thenS blockS AOp GOps CPick

def enc4 (b : Bool) (u : Nat × Nat × Int) : List Value := [.int .i32 u.1, .int .i64 u.2.1, .int .i64 u.2.2, .bool b]

theorem mkU_snoc (n : Nat) : ∀ (l : List (Nat × Nat)) (c p : Nat), mkU n (l ++ [(c, p)]) = mkU p l ++ [(c, p, (n : Int) - p)]
  | [], c, p => rfl
  | [(a, q)], c, p => rfl
  | (a, q) :: (a', q') :: l, c, p => by
    have := mkU_snoc n ((a', q') :: l) c p
    simp only [List.cons_append, mkU, List.cons.injEq, true_and] at this ⊢
    exact this

theorem mkU_len (n : Nat) : ∀ l : List (Nat × Nat), (mkU n l).length = l.length
  | [] => rfl
  | [(c, p)] => rfl
  | (c, p) :: (c', p') :: r => by simp only [mkU, List.length_cons, mkU_len n ((c', p') :: r)]

/-- What the list holds behind the code points 'pre': the last one's size is not known yet. -/
def Sofar (pre : List (Nat × Nat)) (es : List (List Value)) : Prop :=
  (pre = [] ∧ es = []) ∨ ∃ l c p, pre = l ++ [(c, p)] ∧ es = (mkU p l).map (enc4 false) ++ [enc4 false (c, p, 0)]

theorem Sofar.len {pre : List (Nat × Nat)} {es : List (List Value)} (h : Sofar pre es) : es.length = pre.length := by
  rcases h with ⟨rfl, rfl⟩ | ⟨l, c, p, rfl, rfl⟩
  · rfl
  · simp [mkU_len]
theorem Sofar.next {pre : List (Nat × Nat)} {l : List (Nat × Nat)} {c p c' p' : Nat} (hp : pre = l ++ [(c, p)]) :
    Sofar (pre ++ [(c', p')]) (((mkU p l).map (enc4 false) ++ [enc4 false (c, p, (p' : Int) - p)]) ++ [enc4 false (c', p', 0)]) := by
  refine .inr ⟨pre, c', p', rfl, ?_⟩
  rw [hp, mkU_snoc]
  simp

theorem set_last {α : Type} (l : List α) (a b : α) : (l ++ [a]).set l.length b = l ++ [b] := by simp

theorem blt_of' {a b : Nat} (h : a < b) : Nat.blt a b = true := by rw [Nat.blt_eq]; exact h
theorem blt_not' {a b : Nat} (h : ¬ a < b) : Nat.blt a b = false := by
  cases hb : Nat.blt a b with
  | false => rfl
  | true => rw [Nat.blt_eq] at hb; exact absurd hb h

/-- The last record's size is written. -/
theorem Sofar.size {N b : Nat} {h : AHeap} {l : List (Nat × Nat)} {c p : Nat} {es : List (List Value)} (hes : es = (mkU p l).map (enc4 false) ++ [enc4 false (c, p, 0)]) (o : Ow h b 4 es) (z : Int) :
    ∃ n C, es.length = n + 1 ∧ h.own.get b = some (.cells C) ∧ C[n * 4 + 1]? = some (.int .i64 p) ∧ Nat.ble (n * 4 + 3) C.length = true ∧
      ∃ C2, splice C (n * 4 + 2) [.int .i64 z] = C2 ∧ Ow (h.put b (.cells C2)) b 4 ((mkU p l).map (enc4 false) ++ [enc4 false (c, p, z)]) := by
  obtain ⟨n, hn⟩ : ∃ n, n = ((mkU p l).map (enc4 false)).length := ⟨_, rfl⟩
  have hl : es.length = n + 1 := by rw [hes, hn]; simp
  have hi : es[n]? = some (enc4 false (c, p, 0)) := by rw [hes, hn]; simp
  obtain ⟨hsp, o2⟩ := o.put (vs := [.int .i64 z]) hi (j := 2) (by simp)
  refine ⟨n, es.flatten, hl, o.get, ?_, ?_, _, hsp, ?_⟩
  · rw [flat_get o.len hi (by omega)]; rfl
  · rw [flat_len o.len, hl]; exact Nat.ble_eq_true_of_le (by omega)
  · have e : es.set n (splice (enc4 false (c, p, 0)) 2 [.int .i64 z]) = (mkU p l).map (enc4 false) ++ [enc4 false (c, p, z)] := by
      rw [hes, hn, set_last]; rfl
    rw [e] at o2 ⊢; exact o2

theorem decs_len (s : ByteArray) : ∀ (k pos : Nat), (decs s k pos).length ≤ s.size - pos
  | 0, pos => by simp [decs]
  | k + 1, pos => by
    unfold decs
    by_cases hp : pos < s.size
    · have hw := width_pos s pos hp
      have := decs_len s k (pos + (Utf8.decode s pos).2)
      simp only [hp, if_true, List.length_cons]; omega
    · simp [hp]

theorem decs_mem (s : ByteArray) : ∀ (k pos : Nat), ∀ x ∈ decs s k pos, x.2 < s.size
  | 0, pos, x, h => by simp [decs] at h
  | k + 1, pos, x, h => by
    unfold decs at h
    by_cases hp : pos < s.size
    · simp only [hp, if_true, List.mem_cons] at h
      rcases h with rfl | h
      · exact hp
      · exact decs_mem s k _ x h
    · simp [hp] at h

def okRec (u : Nat × Nat × Int) : List Value := enc4 (okU u) u

/-- One record is checked. -/
theorem chk_rec {N b j : Nat} {h : AHeap} {U : List (Nat × Nat × Int)} {cc p : Nat} {z : Int} (o : Ow h b 4 ((U.take j).map okRec ++ (U.drop j).map (enc4 false))) (hu : U[j]? = some (cc, p, z)) :
    ∃ C, h.own.get b = some (.cells C) ∧ C[j * 4]? = some (.int .i32 cc) ∧ C[j * 4 + 2]? = some (.int .i64 z) ∧ Nat.ble (j * 4 + 4) C.length = true ∧
      ∃ C2, splice C (j * 4 + 3) [.bool (okU (cc, p, z))] = C2 ∧ Ow (h.put b (.cells C2)) b 4 ((U.take (j + 1)).map okRec ++ (U.drop (j + 1)).map (enc4 false)) := by
  have hj := (List.getElem?_eq_some_iff.1 hu).1
  have hl1 : ((U.take j).map okRec).length = j := by simp; omega
  have hi : ((U.take j).map okRec ++ (U.drop j).map (enc4 false))[j]? = some (enc4 false (cc, p, z)) := by
    rw [List.getElem?_append_right (by omega), hl1]
    simp [hu]
  obtain ⟨hsp, o2⟩ := o.put (vs := [.bool (okU (cc, p, z))]) hi (j := 3) (by simp)
  refine ⟨_, o.get, ?_, ?_, ?_, _, hsp, ?_⟩
  · have := flat_get (j := 0) o.len hi (by omega); rw [Nat.add_zero] at this; rw [this]; rfl
  · rw [flat_get o.len hi (by omega)]; rfl
  · rw [flat_len o.len]; refine Nat.ble_eq_true_of_le ?_; simp; omega
  · have e : (((U.take j).map okRec ++ (U.drop j).map (enc4 false))).set j (splice (enc4 false (cc, p, z)) 3 [.bool (okU (cc, p, z))]) = (U.take (j + 1)).map okRec ++ (U.drop (j + 1)).map (enc4 false) := by
      have hd : U.drop j = (cc, p, z) :: U.drop (j + 1) := by
        rw [List.drop_eq_getElem_cons hj, (List.getElem?_eq_some_iff.1 hu).2]
      conv => lhs; rw [hd, List.map_cons, List.set_append_right _ _ (by omega), hl1, Nat.sub_self, List.set_cons_zero]
      rw [List.take_add_one, hu]
      simp [okRec, enc4, splice]
    rw [e] at o2 ⊢; exact o2

set_option maxHeartbeats 4000000 in
theorem f77_ok (W : World) (h : AHeap) (s : ByteArray) (hs : s.size < 1073741824) :
    ACalls Tryz.prog W 77 [.string s] h (fun r h' => (∃ a c, r = .slice a (units s).length c ∧ OwnV h.next h' a c 4 ((units s).map okRec)) ∧ Keeps h h') := by
  refine ACalls_ofX hmix c77 (Nat.le_of_ble_eq_true rfl) ?_
  unfold r77
  simp only [envOf1]
  repeat (first | (with_reducible first | apply x_seq | apply x_block | apply x_region | apply x_exit | apply x_ret | apply x_skip | apply t_normal | apply t_exit | apply t_ret | apply b_normal | apply b_ret | apply b_same | apply ops_nil | apply g_T | apply g_F | apply c_T | apply c_F) | (with_reducible refine b_other (by decide) ?_) | ((with_reducible apply x_draws); (with_reducible apply d_pure); (next => kernel_rfl)) | ((with_reducible first | apply ops_d | apply ops_g | apply x_c); (next => simp only [rop, opd, celsL, oneV, aadd, binV, isSh, intBin, scEq, keq, unV, fillL, oP, oA, oS, wantedA, BX, BL, BS, seval, *]; with_reducible exact rfl)))
  refine WPX.loop hmix (fun k σ => ∃ pos pre es a c, k = s.size - pos ∧ eget σ.e 0 = .string s ∧ eget σ.e 3 = .slice a (List.length es) c ∧ eget σ.e 8 = .pointer (some ⟨h.next, 0, some 0⟩) ∧ σ.h.own.get h.next = some (.iter s pos) ∧ h.next < σ.h.next ∧ Keeps h σ.h ∧
    OwnV (h.next + 1) σ.h a c 4 es ∧ Sofar pre es ∧ decs s s.size 0 = pre ++ decs s s.size pos) s.size ?h0 ?round
  case h0 =>
    exact ⟨0, [], [], none, 0, rfl, (by simp only [rop, opd, celsL, oneV, aadd, binV, isSh, intBin, scEq, keq, unV, fillL, oP, oA, oS, wantedA, BX, BL, BS, seval, *]), (by simp only [rop, opd, celsL, oneV, aadd, binV, isSh, intBin, scEq, keq, unV, fillL, oP, oA, oS, wantedA, BX, BL, BS, seval, *, List.length_nil]), (by simp only [rop, opd, celsL, oneV, aadd, binV, isSh, intBin, scEq, keq, unV, fillL, oP, oA, oS, wantedA, BX, BL, BS, seval, *]), (by simp only [rop, opd, celsL, oneV, aadd, binV, isSh, intBin, scEq, keq, unV, fillL, oP, oA, oS, wantedA, BX, BL, BS, seval, *]), (by simp only [AHeap.new_next]; omega), (Keeps.refl h).new _, OwnV.nil _ _ _, .inl ⟨rfl, rfl⟩, rfl⟩
  rintro k ⟨e, hh⟩ ⟨pos, pre, es, a, c, rfl, e0, e3, e8, hit, hlt, hk, ho, hS, hD⟩
  dsimp only at e0 e3 e8 hit hlt hk
  have hesl : Hid (es.length = pre.length) := hS.len
  have hprel : pre.length ≤ s.size := by
    have h1 := decs_len s s.size 0
    rw [hD, List.length_append] at h1; omega
  by_cases hp : pos < s.size
  · have hblt := blt_of' hp
    obtain ⟨⟨cc, w⟩, hd⟩ : ∃ x, Utf8.decode s pos = x := ⟨_, rfl⟩
    have hw := width_pos s pos hp
    rw [hd] at hw
    dsimp only at hw
    have hD' : decs s s.size 0 = (pre ++ [(cc, pos)]) ++ decs s s.size (pos + w) := by rw [hD, decs_cons hp, hd]; simp
    clear hD
    have hi1 : (hh.put h.next (.iter s (pos + w))).own.get h.next = some (.iter s (pos + w)) := by rw [AHeap.put_get, if_pos rfl]
    have ho1 : OwnV (h.next + 1) (hh.put h.next (.iter s (pos + w))) a c 4 es := ho.same (fun i hi _ => by rw [AHeap.put_get, if_neg (by omega)]) (Nat.le_refl _)
    have hk1 : Keeps h (hh.put h.next (.iter s (pos + w))) := hk.put (Nat.le_refl _) _
    repeat (first | (with_reducible first | apply x_seq | apply x_block | apply x_region | apply x_exit | apply x_ret | apply x_skip | apply t_normal | apply t_exit | apply t_ret | apply b_normal | apply b_ret | apply b_same | apply ops_nil | apply g_T | apply g_F | apply c_T | apply c_F) | (with_reducible refine b_other (by decide) ?_) | ((with_reducible apply x_draws); (with_reducible apply d_pure); (next => kernel_rfl)) | ((with_reducible first | apply ops_d | apply ops_g | apply x_c); (next => simp only [rop, opd, celsL, oneV, aadd, binV, isSh, intBin, scEq, keq, unV, fillL, oP, oA, oS, wantedA, BX, BL, BS, seval, *]; with_reducible exact rfl)))
    refine c_mid (fun σ => ∃ es2, Hid (List.length es2 = es.length) ∧ eget σ.e 0 = .string s ∧ eget σ.e 3 = .slice a es.length c ∧ eget σ.e 4 = .int .i64 pos ∧ eget σ.e 5 = .int .i32 cc ∧ eget σ.e 8 = .pointer (some ⟨h.next, 0, some 0⟩) ∧ σ.h.own.get h.next = some (.iter s (pos + w)) ∧
      h.next < σ.h.next ∧ Keeps h σ.h ∧ OwnV (h.next + 1) σ.h a c 4 es2 ∧ Sofar (pre ++ [(cc, pos)]) (es2 ++ [enc4 false (cc, pos, 0)])) ?sz ?app
    case sz =>
      rcases hS with ⟨hpre, hes⟩ | ⟨l, c1, p1, hpre, hes⟩
      · have hgt : ¬ (es.length : Int) > 0 := by rw [hes]; simp
        have hSn : Sofar (pre ++ [(cc, pos)]) (es ++ [enc4 false (cc, pos, 0)]) := .inr ⟨[], cc, pos, by simp [hpre], by simp [hes, mkU]⟩
        clear hpre hes
        have hrf : Hid (es.length = es.length) := rfl
        refine c_isF (by simp only [rop, opd, celsL, oneV, aadd, binV, isSh, intBin, scEq, keq, unV, fillL, oP, oA, oS, wantedA, BX, BL, BS, seval, *]) ?_
        repeat (first | (with_reducible first | apply x_seq | apply x_block | apply x_region | apply x_exit | apply x_ret | apply x_skip | apply t_normal | apply t_exit | apply t_ret | apply b_normal | apply b_ret | apply b_same | apply ops_nil | apply g_T | apply g_F | apply c_T | apply c_F) | (with_reducible refine b_other (by decide) ?_) | ((with_reducible apply x_draws); (with_reducible apply d_pure); (next => kernel_rfl)) | ((with_reducible first | apply ops_d | apply ops_g | apply x_c); (next => simp only [rop, opd, celsL, oneV, aadd, binV, isSh, intBin, scEq, keq, unV, fillL, oP, oA, oS, wantedA, BX, BL, BS, seval, *]; with_reducible exact rfl)))
        refine ⟨rfl, es, ?_⟩
        (simp only [rop, opd, celsL, oneV, aadd, binV, isSh, intBin, scEq, keq, unV, fillL, oP, oA, oS, wantedA, BX, BL, BS, seval, and_self, *]) <;> trivial
      · rcases ho1 with ⟨_, _, hnil⟩ | ⟨b, rfl, rfl, hb1, hb2⟩
        · rw [hes] at hnil; simp at hnil
        have hgt : (es.length : Int) > 0 := by rw [hes]; simp <;> omega
        obtain ⟨n, C, hn, hC, hC1, hC2, C2, hsp, ho2⟩ := Sofar.size (N := 0) hes hb2 ((pos : Int) - p1)
        have hne : ¬ b = h.next := by omega
        have hC' : hh.own.get b = some (.cells C) := by rw [AHeap.put_get, if_neg hne] at hC; exact hC
        have hidx : idxV 4 (.slice (some ⟨b, 0, some 0⟩) es.length 4) (.int .i64 n) = some (.pointer (some ⟨b, n * 4, some 0⟩)) := idx_own (by omega)
        have hwk : IntKind.i64.wrap ((es.length : Int) - 1) = (n : Int) := by rw [hn]; exact (wrap_i64 (by omega) (by have := hesl.out; omega)).trans (by omega)
        have hp1 : p1 < s.size := decs_mem s s.size 0 (c1, p1) (by rw [hD', hpre]; simp)
        have hwd : IntKind.i64.wrap ((pos : Int) - p1) = (pos : Int) - p1 := wrap_i64 (by omega) (by omega)
        obtain ⟨es2, hes2⟩ : ∃ es2, es2 = (mkU p1 l).map (enc4 false) ++ [enc4 false (c1, p1, (pos : Int) - p1)] := ⟨_, rfl⟩
        rw [← hes2] at ho2
        have hSn : Sofar (pre ++ [(cc, pos)]) (es2 ++ [enc4 false (cc, pos, 0)]) := by rw [hes2]; exact Sofar.next hpre
        have hrf : Hid (es2.length = es.length) := by show es2.length = es.length; rw [hes2, hes]; simp
        have hov : OwnV (h.next + 1) ((hh.put h.next (.iter s (pos + w))).put b (.cells C2)) (some ⟨b, 0, some 0⟩) 4 4 es2 := .inr ⟨b, rfl, rfl, hb1, ho2⟩
        have hk2 : Keeps h ((hh.put h.next (.iter s (pos + w))).put b (.cells C2)) := hk1.put (by omega) _
        have hne2 : ¬ h.next = b := by omega
        have hi2 : ((hh.put h.next (.iter s (pos + w))).put b (.cells C2)).own.get h.next = some (.iter s (pos + w)) := by rw [AHeap.put_get, if_neg hne2]; exact hi1
        clear hes hpre hes2 hn hC hb2 ho2 hi1
        refine c_isT (by simp only [rop, opd, celsL, oneV, aadd, binV, isSh, intBin, scEq, keq, unV, fillL, oP, oA, oS, wantedA, BX, BL, BS, seval, *]) ?_
        repeat (first | (with_reducible first | apply x_seq | apply x_block | apply x_region | apply x_exit | apply x_ret | apply x_skip | apply t_normal | apply t_exit | apply t_ret | apply b_normal | apply b_ret | apply b_same | apply ops_nil | apply g_T | apply g_F | apply c_T | apply c_F) | (with_reducible refine b_other (by decide) ?_) | ((with_reducible apply x_draws); (with_reducible apply d_pure); (next => kernel_rfl)) | ((with_reducible first | apply ops_d | apply ops_g | apply x_c); (next => simp only [rop, opd, celsL, oneV, aadd, binV, isSh, intBin, scEq, keq, unV, fillL, oP, oA, oS, wantedA, BX, BL, BS, seval, *]; with_reducible exact rfl)))
        refine ⟨rfl, es2, ?_⟩
        (simp only [rop, opd, celsL, oneV, aadd, binV, isSh, intBin, scEq, keq, unV, fillL, oP, oA, oS, wantedA, BX, BL, BS, seval, and_self, *]) <;> trivial
    case app =>
      rintro ⟨e2, h2⟩ ⟨es2, hl2, q0, q3, q4, q5, q8, hit2, hlt2, hk2, hov2, hSn⟩
      dsimp only at q0 q3 q4 q5 q8 hit2 hlt2 hk2 hov2
      clear e0 e3 e8 hit hlt hk ho hS hi1 ho1 hk1
      obtain ⟨a', c', h3, happ, ho3, hk3, hn3, hsame, hnot⟩ := OwnV.app (W := W) (h0 := h) (h := h2.new (.cells (enc4 false (cc, pos, 0)))) (b' := h2.next) (e := enc4 false (cc, pos, 0)) (hov2.keeps ((Keeps.refl _).new _)) (hk2.new _) (Nat.le_succ _)
        (by rw [AHeap.new_next]; omega) (by rw [AHeap.new_get, if_pos rfl]) (by rw [AHeap.new_next]; omega) rfl rfl (by have := hl2.out; have := hesl.out; omega)
      obtain ⟨es3, hes3⟩ : ∃ es3, es3 = es2 ++ [enc4 false (cc, pos, 0)] := ⟨_, rfl⟩
      rw [← hes3] at happ ho3 hSn
      rw [hl2.out] at happ
      have hit3 : h3.own.get h.next = some (.iter s (pos + w)) := by
        rw [hsame h.next (by rw [AHeap.new_next]; omega) (hov2.notOld (Nat.lt_succ_self _)), AHeap.new_get, if_neg (by omega)]; exact hit2
      have hlt3 : h.next < h3.next := by rw [hn3, AHeap.new_next]; omega
      simp only [enc4] at happ
      clear hes3 hit2 hsame hnot hn3
      refine t_normal ?_
      repeat (first | (with_reducible first | apply x_seq | apply x_block | apply x_region | apply x_exit | apply x_ret | apply x_skip | apply t_normal | apply t_exit | apply t_ret | apply b_normal | apply b_ret | apply b_same | apply ops_nil | apply g_T | apply g_F | apply c_T | apply c_F) | (with_reducible refine b_other (by decide) ?_) | ((with_reducible apply x_draws); (with_reducible apply d_pure); (next => kernel_rfl)) | ((with_reducible first | apply ops_d | apply ops_g | apply x_c); (next => simp only [rop, opd, celsL, oneV, aadd, binV, isSh, intBin, scEq, keq, unV, fillL, oP, oA, oS, wantedA, BX, BL, BS, seval, *]; with_reducible exact rfl)))
      exact ⟨s.size - (pos + w), by omega, pos + w, _, es3, a', c', rfl, (by simp only [rop, opd, celsL, oneV, aadd, binV, isSh, intBin, scEq, keq, unV, fillL, oP, oA, oS, wantedA, BX, BL, BS, seval, *]), (by simp only [rop, opd, celsL, oneV, aadd, binV, isSh, intBin, scEq, keq, unV, fillL, oP, oA, oS, wantedA, BX, BL, BS, seval, *]), (by simp only [rop, opd, celsL, oneV, aadd, binV, isSh, intBin, scEq, keq, unV, fillL, oP, oA, oS, wantedA, BX, BL, BS, seval, *]), hit3, hlt3, hk3, ho3, hSn, hD'⟩
  · have hblt := blt_not' hp
    obtain ⟨U, hU⟩ : ∃ U, U = units s := ⟨_, rfl⟩
    have hpU : U = mkU s.size pre := by
      rw [hU]; unfold units; rw [hD, decs_stop hp, List.append_nil]
    have hUl : U.length = pre.length := by rw [hpU, mkU_len]
    have hlU : es.length = U.length := by rw [hUl]; exact hesl
    rw [hlU] at e3
    rw [← hU]
    replace hUl : Hid (U.length = pre.length) := hUl
    replace hlU : Hid (es.length = U.length) := hlU
    replace hpU : Hid (U = mkU s.size pre) := hpU
    replace hU : Hid (U = units s) := hU
    repeat (first | (with_reducible first | apply x_seq | apply x_block | apply x_region | apply x_exit | apply x_ret | apply x_skip | apply t_normal | apply t_exit | apply t_ret | apply b_normal | apply b_ret | apply b_same | apply ops_nil | apply g_T | apply g_F | apply c_T | apply c_F) | (with_reducible refine b_other (by decide) ?_) | ((with_reducible apply x_draws); (with_reducible apply d_pure); (next => kernel_rfl)) | ((with_reducible first | apply ops_d | apply ops_g | apply x_c); (next => simp only [rop, opd, celsL, oneV, aadd, binV, isSh, intBin, scEq, keq, unV, fillL, oP, oA, oS, wantedA, BX, BL, BS, seval, *]; with_reducible exact rfl)))
    refine c_mid (fun σ => eget σ.e 3 = .slice a U.length c ∧ Keeps h σ.h ∧ OwnV (h.next + 1) σ.h a c 4 (U.map (enc4 false))) ?sz ?rest
    case sz =>
      rcases hS with ⟨hpre, hes⟩ | ⟨l, c1, p1, hpre, hes⟩
      · have hgt : ¬ (U.length : Int) > 0 := by rw [hUl.out, hpre]; simp
        have hes' : U.map (enc4 false) = es := by rw [hpU.out, hpre, hes]; rfl
        have ho' : OwnV (h.next + 1) hh a c 4 (U.map (enc4 false)) := by rw [hes']; exact ho
        clear hpre hes hes' hpU hUl hlU hU
        refine c_isF (by simp only [rop, opd, celsL, oneV, aadd, binV, isSh, intBin, scEq, keq, unV, fillL, oP, oA, oS, wantedA, BX, BL, BS, seval, *]) ?_
        repeat (first | (with_reducible first | apply x_seq | apply x_block | apply x_region | apply x_exit | apply x_ret | apply x_skip | apply t_normal | apply t_exit | apply t_ret | apply b_normal | apply b_ret | apply b_same | apply ops_nil | apply g_T | apply g_F | apply c_T | apply c_F) | (with_reducible refine b_other (by decide) ?_) | ((with_reducible apply x_draws); (with_reducible apply d_pure); (next => kernel_rfl)) | ((with_reducible first | apply ops_d | apply ops_g | apply x_c); (next => simp only [rop, opd, celsL, oneV, aadd, binV, isSh, intBin, scEq, keq, unV, fillL, oP, oA, oS, wantedA, BX, BL, BS, seval, *]; with_reducible exact rfl)))
        exact ⟨rfl, (by simp only [rop, opd, celsL, oneV, aadd, binV, isSh, intBin, scEq, keq, unV, fillL, oP, oA, oS, wantedA, BX, BL, BS, seval, *]), hk, ho'⟩
      · rcases ho with ⟨_, _, hnil⟩ | ⟨b, rfl, rfl, hb1, hb2⟩
        · rw [hes] at hnil; simp at hnil
        have hgt : (U.length : Int) > 0 := by rw [hUl.out, hpre]; simp <;> omega
        obtain ⟨n, C, hn, hC, hC1, hC2, C2, hsp, ho2⟩ := Sofar.size (N := 0) hes hb2 ((s.size : Int) - p1)
        have hidx : idxV 4 (.slice (some ⟨b, 0, some 0⟩) U.length 4) (.int .i64 n) = some (.pointer (some ⟨b, n * 4, some 0⟩)) := idx_own (by have := hlU.out; omega)
        have hwk : IntKind.i64.wrap ((U.length : Int) - 1) = (n : Int) := (wrap_i64 (by omega) (by have := hUl.out; omega)).trans (by have := hlU.out; omega)
        have hp1 : p1 < s.size := decs_mem s s.size 0 (c1, p1) (by rw [hD, hpre]; simp)
        have hwd : IntKind.i64.wrap ((s.size : Int) - p1) = (s.size : Int) - p1 := wrap_i64 (by omega) (by omega)
        have hes2 : (mkU p1 l).map (enc4 false) ++ [enc4 false (c1, p1, (s.size : Int) - p1)] = U.map (enc4 false) := by rw [hpU.out, hpre, mkU_snoc]; simp
        rw [hes2] at ho2
        have hov : OwnV (h.next + 1) (hh.put b (.cells C2)) (some ⟨b, 0, some 0⟩) 4 4 (U.map (enc4 false)) := .inr ⟨b, rfl, rfl, hb1, ho2⟩
        have hk2 : Keeps h (hh.put b (.cells C2)) := hk.put (by omega) _
        clear hes hpre hes2 hn hb2 ho2 hpU hUl hlU hU hD
        refine c_isT (by simp only [rop, opd, celsL, oneV, aadd, binV, isSh, intBin, scEq, keq, unV, fillL, oP, oA, oS, wantedA, BX, BL, BS, seval, *]) ?_
        repeat (first | (with_reducible first | apply x_seq | apply x_block | apply x_region | apply x_exit | apply x_ret | apply x_skip | apply t_normal | apply t_exit | apply t_ret | apply b_normal | apply b_ret | apply b_same | apply ops_nil | apply g_T | apply g_F | apply c_T | apply c_F) | (with_reducible refine b_other (by decide) ?_) | ((with_reducible apply x_draws); (with_reducible apply d_pure); (next => kernel_rfl)) | ((with_reducible first | apply ops_d | apply ops_g | apply x_c); (next => simp only [rop, opd, celsL, oneV, aadd, binV, isSh, intBin, scEq, keq, unV, fillL, oP, oA, oS, wantedA, BX, BL, BS, seval, *]; with_reducible exact rfl)))
        exact ⟨rfl, (by simp only [rop, opd, celsL, oneV, aadd, binV, isSh, intBin, scEq, keq, unV, fillL, oP, oA, oS, wantedA, BX, BL, BS, seval, *]), hk2, hov⟩
    case rest =>
      have hUs : U.length ≤ s.size := by rw [hUl.out]; exact hprel
      rintro ⟨e2, h2⟩ ⟨q3, hk2, hov2⟩
      dsimp only at q3 hk2 hov2
      clear e0 e3 e8 hit hlt hk ho hS hUl hlU hpU hU hD
      refine t_normal ?_
      repeat (first | (with_reducible first | apply x_seq | apply x_block | apply x_region | apply x_exit | apply x_ret | apply x_skip | apply t_normal | apply t_exit | apply t_ret | apply b_normal | apply b_ret | apply b_same | apply ops_nil | apply g_T | apply g_F | apply c_T | apply c_F) | (with_reducible refine b_other (by decide) ?_) | ((with_reducible apply x_draws); (with_reducible apply d_pure); (next => kernel_rfl)) | ((with_reducible first | apply ops_d | apply ops_g | apply x_c); (next => simp only [rop, opd, celsL, oneV, aadd, binV, isSh, intBin, scEq, keq, unV, fillL, oP, oA, oS, wantedA, BX, BL, BS, seval, *]; with_reducible exact rfl)))
      refine WPX.loop hmix (fun k σ => ∃ j, j ≤ U.length ∧ k = U.length - j ∧ eget σ.e 3 = .slice a U.length c ∧ eget σ.e 57 = .int .i64 U.length ∧ eget σ.e 58 = .int .i64 (j : Nat) ∧ Keeps h σ.h ∧ OwnV (h.next + 1) σ.h a c 4 ((U.take j).map okRec ++ (U.drop j).map (enc4 false))) U.length ?h1 ?round1
      case h1 => exact ⟨0, Nat.zero_le _, rfl, (by simp only [rop, opd, celsL, oneV, aadd, binV, isSh, intBin, scEq, keq, unV, fillL, oP, oA, oS, wantedA, BX, BL, BS, seval, *]), (by simp only [rop, opd, celsL, oneV, aadd, binV, isSh, intBin, scEq, keq, unV, fillL, oP, oA, oS, wantedA, BX, BL, BS, seval, *]), (by simp only [rop, opd, celsL, oneV, aadd, binV, isSh, intBin, scEq, keq, unV, fillL, oP, oA, oS, wantedA, BX, BL, BS, seval, *]), hk2, hov2⟩
      rintro k3 ⟨e3, h3⟩ ⟨j, hj, rfl, r3, r57, r58, hk3, ho3⟩
      dsimp only at r3 r57 r58 hk3 ho3
      clear q3 hk2 hov2
      by_cases hjl : j < U.length
      · have hjlI : (j : Int) < U.length := by omega
        obtain ⟨⟨cc, p, z⟩, hu⟩ : ∃ u, U[j]? = some u := ⟨_, List.getElem?_eq_getElem hjl⟩
        rcases ho3 with ⟨_, _, hnil⟩ | ⟨b, rfl, rfl, hb1, hb2⟩
        · have := congrArg List.length hnil
          simp at this; omega
        obtain ⟨C, hC, hC0, hC2, hble, C2, hsp, ho4⟩ := chk_rec (N := 0) hb2 hu
        have hidx : idxV 4 (.slice (some ⟨b, 0, some 0⟩) U.length 4) (.int .i64 j) = some (.pointer (some ⟨b, j * 4, some 0⟩)) := idx_own hjl
        have hw1 : IntKind.i64.wrap ((j : Int) + 1) = ((j + 1 : Nat) : Int) := wrap_i64 (by omega) (by omega)
        have hov : OwnV (h.next + 1) (h3.put b (.cells C2)) (some ⟨b, 0, some 0⟩) 4 4 ((U.take (j + 1)).map okRec ++ (U.drop (j + 1)).map (enc4 false)) := .inr ⟨b, rfl, rfl, hb1, ho4⟩
        have hk4 : Keeps h (h3.put b (.cells C2)) := hk3.put (by omega) _
        clear hu hb2 ho4
        by_cases hcc : (cc : Int) = 65533
        · have hok : okU (cc, p, z) = decide (z = 3) := by have : cc = 65533 := by omega
                                                           simp [okU, this]
          have hcc' : decide ((cc : Int) = 65533) = true := decide_eq_true hcc
          rw [hok] at hsp
          clear hcc hok
          repeat (first | (with_reducible first | apply x_seq | apply x_block | apply x_region | apply x_exit | apply x_ret | apply x_skip | apply t_normal | apply t_exit | apply t_ret | apply b_normal | apply b_ret | apply b_same | apply ops_nil | apply g_T | apply g_F | apply c_T | apply c_F) | (with_reducible refine b_other (by decide) ?_) | ((with_reducible apply x_draws); (with_reducible apply d_pure); (next => kernel_rfl)) | ((with_reducible first | apply ops_d | apply ops_g | apply x_c); (next => simp only [rop, opd, celsL, oneV, aadd, binV, isSh, intBin, scEq, keq, unV, fillL, oP, oA, oS, wantedA, BX, BL, BS, seval, *]; with_reducible exact rfl)))
          exact ⟨U.length - (j + 1), by omega, j + 1, by omega, rfl, (by simp only [rop, opd, celsL, oneV, aadd, binV, isSh, intBin, scEq, keq, unV, fillL, oP, oA, oS, wantedA, BX, BL, BS, seval, *]), (by simp only [rop, opd, celsL, oneV, aadd, binV, isSh, intBin, scEq, keq, unV, fillL, oP, oA, oS, wantedA, BX, BL, BS, seval, *]), (by simp only [rop, opd, celsL, oneV, aadd, binV, isSh, intBin, scEq, keq, unV, fillL, oP, oA, oS, wantedA, BX, BL, BS, seval, *]), hk4, hov⟩
        · have hok : okU (cc, p, z) = true := by have : ¬ cc = 65533 := by omega
                                                 simp [okU, this]
          rw [hok] at hsp
          clear hok
          repeat (first | (with_reducible first | apply x_seq | apply x_block | apply x_region | apply x_exit | apply x_ret | apply x_skip | apply t_normal | apply t_exit | apply t_ret | apply b_normal | apply b_ret | apply b_same | apply ops_nil | apply g_T | apply g_F | apply c_T | apply c_F) | (with_reducible refine b_other (by decide) ?_) | ((with_reducible apply x_draws); (with_reducible apply d_pure); (next => kernel_rfl)) | ((with_reducible first | apply ops_d | apply ops_g | apply x_c); (next => simp only [rop, opd, celsL, oneV, aadd, binV, isSh, intBin, scEq, keq, unV, fillL, oP, oA, oS, wantedA, BX, BL, BS, seval, *]; with_reducible exact rfl)))
          exact ⟨U.length - (j + 1), by omega, j + 1, by omega, rfl, (by simp only [rop, opd, celsL, oneV, aadd, binV, isSh, intBin, scEq, keq, unV, fillL, oP, oA, oS, wantedA, BX, BL, BS, seval, *]), (by simp only [rop, opd, celsL, oneV, aadd, binV, isSh, intBin, scEq, keq, unV, fillL, oP, oA, oS, wantedA, BX, BL, BS, seval, *]), (by simp only [rop, opd, celsL, oneV, aadd, binV, isSh, intBin, scEq, keq, unV, fillL, oP, oA, oS, wantedA, BX, BL, BS, seval, *]), hk4, hov⟩
      · have hjlI : ¬ (j : Int) < U.length := by omega
        have hj' : j = U.length := by omega
        rw [hj', List.take_length, List.drop_length, List.map_nil, List.append_nil] at ho3
        clear hj'
        repeat (first | (with_reducible first | apply x_seq | apply x_block | apply x_region | apply x_exit | apply x_ret | apply x_skip | apply t_normal | apply t_exit | apply t_ret | apply b_normal | apply b_ret | apply b_same | apply ops_nil | apply g_T | apply g_F | apply c_T | apply c_F) | (with_reducible refine b_other (by decide) ?_) | ((with_reducible apply x_draws); (with_reducible apply d_pure); (next => kernel_rfl)) | ((with_reducible first | apply ops_d | apply ops_g | apply x_c); (next => simp only [rop, opd, celsL, oneV, aadd, binV, isSh, intBin, scEq, keq, unV, fillL, oP, oA, oS, wantedA, BX, BL, BS, seval, *]; with_reducible exact rfl)))
        refine ⟨.inr rfl, _, rfl, ⟨a, c, ?_, ho3.base (Nat.le_succ _)⟩, hk3⟩
        simp only [resOf, rop, opd, celsL, oneV, aadd, binV, isSh, intBin, scEq, keq, unV, fillL, oP, oA, oS, wantedA, BX, BL, BS, seval, *]
end Go.Proofs.YtlipmjpapkfaeaaGreatDoor.Fn
end
section
set_option linter.unusedSimpArgs false
set_option linter.unusedVariables false
set_option maxRecDepth 100000
namespace Go.Proofs.YtlipmjpapkfaeaaGreatDoor.Fn
open Go Go.Mach Go.RowKit Go.Proofs Go.Proofs.YtlipmjpapkfaeaaGreatDoor.Orc
attribute [local irreducible] AOps WPX DOps thenS blockS AOp GOps CPick

set_option maxHeartbeats 4000000 in
theorem f42_ok (W : World) (h : AHeap) (s : ByteArray) (hs : s.size < 1073741824) :
    ACalls Tryz.prog W 42 [.string s] h (fun r h' => r = .bool (validB s) ∧ Keeps h h') := by
  refine ACalls_ofX hmix c42 (Nat.le_of_ble_eq_true rfl) ?_
  unfold r42
  simp only [envOf1]
  have h77 := f77_ok W h s hs
  repeat (first | (with_reducible first | apply x_seq | apply x_block | apply x_region | apply x_exit | apply x_ret | apply x_skip | apply t_normal | apply t_exit | apply t_ret | apply b_normal | apply b_ret | apply b_same | apply ops_nil | apply g_T | apply g_F | apply c_T | apply c_F) | (with_reducible refine b_other (by decide) ?_) | ((with_reducible apply x_draws); (with_reducible apply d_pure); (next => kernel_rfl)) | ((with_reducible first | apply ops_d | apply ops_g | apply x_c); (next => simp only [rop, opd, celsL, oneV, aadd, binV, isSh, intBin, scEq, keq, unV, fillL, oP, oA, oS, wantedA, BX, BL, BS, seval, *]; with_reducible exact rfl)))
  refine ops_callK (by simp only [rop, opd, celsL, oneV, aadd, binV, isSh, intBin, scEq, keq, unV, fillL, oP, oA, oS, wantedA, BX, BL, BS, seval, *]) (by simp only [List.map_cons, List.map_nil, rop, opd, celsL, oneV, aadd, binV, isSh, intBin, scEq, keq, unV, fillL, oP, oA, oS, wantedA, BX, BL, BS, seval, *]) h77 ?_
  rintro r1 h1 ⟨⟨a, c, rfl, ho⟩, hk1⟩
  clear h77
  obtain ⟨U, hU⟩ : ∃ U, U = units s := ⟨_, rfl⟩
  have hvb : validB s = U.all okU := by rw [hU]; rfl
  have hUl : U.length ≤ s.size := by
    rw [hU]; unfold units; rw [mkU_len]; have := decs_len s s.size 0; omega
  rw [← hU] at ho ⊢
  clear hU
  have hsl := ho.sl (W := W)
  rw [List.length_map] at hsl
  repeat (first | (with_reducible first | apply x_seq | apply x_block | apply x_region | apply x_exit | apply x_ret | apply x_skip | apply t_normal | apply t_exit | apply t_ret | apply b_normal | apply b_ret | apply b_same | apply ops_nil | apply g_T | apply g_F | apply c_T | apply c_F) | (with_reducible refine b_other (by decide) ?_) | ((with_reducible apply x_draws); (with_reducible apply d_pure); (next => kernel_rfl)) | ((with_reducible first | apply ops_d | apply ops_g | apply x_c); (next => simp only [rop, opd, celsL, oneV, aadd, binV, isSh, intBin, scEq, keq, unV, fillL, oP, oA, oS, wantedA, BX, BL, BS, seval, *]; with_reducible exact rfl)))
  refine WPX.loop hmix (fun k σ => ∃ j, j ≤ U.length ∧ k = U.length - j ∧ eget σ.e 6 = .slice a U.length c ∧ eget σ.e 7 = .int .i64 U.length ∧ eget σ.e 8 = .int .i64 (j : Nat) ∧ Keeps h1 σ.h ∧ (U.take j).all okU = true) U.length ?h0 ?round
  case h0 => exact ⟨0, Nat.zero_le _, rfl, (by simp only [rop, opd, celsL, oneV, aadd, binV, isSh, intBin, scEq, keq, unV, fillL, oP, oA, oS, wantedA, BX, BL, BS, seval, *]), (by simp only [rop, opd, celsL, oneV, aadd, binV, isSh, intBin, scEq, keq, unV, fillL, oP, oA, oS, wantedA, BX, BL, BS, seval, *]), (by simp only [rop, opd, celsL, oneV, aadd, binV, isSh, intBin, scEq, keq, unV, fillL, oP, oA, oS, wantedA, BX, BL, BS, seval, *]), Keeps.refl _, rfl⟩
  rintro k ⟨e, hh⟩ ⟨j, hj, rfl, e6, e7, e8, hk, hall⟩
  dsimp only at e6 e7 e8 hk
  by_cases hjl : j < U.length
  · have hjlI : (j : Int) < U.length := by omega
    obtain ⟨⟨cc, p, z⟩, hu⟩ : ∃ u, U[j]? = some u := ⟨_, List.getElem?_eq_getElem hjl⟩
    have hx : (U.map okRec)[j]? = some (okRec (cc, p, z)) := by simp [hu]
    obtain ⟨b, hb1, _, hb3⟩ := (hsl.keeps hk).at hx
    have hld := aloadN_of _ _ hb3
    simp only [okRec, enc4, List.length_cons, List.length_nil, Nat.reduceAdd] at hld
    have hw1 : IntKind.i64.wrap ((j : Int) + 1) = ((j + 1 : Nat) : Int) := wrap_i64 (by omega) (by omega)
    have hkk : Keeps h1 ((hh.new (.cells [.int .i32 0, .int .i64 0, .int .i64 0, .bool false])).put hh.next (.cells [.int .i32 cc, .int .i64 p, .int .i64 z, .bool (okU (cc, p, z))])) := (hk.new _).put hk.le _
    have hkkh := hk1.trans hkk
    clear hx hb3
    cases hok : okU (cc, p, z) with
    | false =>
      have hv : validB s = false := by
        rw [hvb]; exact List.all_eq_false.2 ⟨_, List.mem_of_getElem? hu, by simp [hok]⟩
      rw [hok] at hld hkkh
      clear hok hu hkk hvb
      repeat (first | (with_reducible first | apply x_seq | apply x_block | apply x_region | apply x_exit | apply x_ret | apply x_skip | apply t_normal | apply t_exit | apply t_ret | apply b_normal | apply b_ret | apply b_same | apply ops_nil | apply g_T | apply g_F | apply c_T | apply c_F) | (with_reducible refine b_other (by decide) ?_) | ((with_reducible apply x_draws); (with_reducible apply d_pure); (next => kernel_rfl)) | ((with_reducible first | apply ops_d | apply ops_g | apply x_c); (next => simp only [rop, opd, celsL, oneV, aadd, binV, isSh, intBin, scEq, keq, unV, fillL, oP, oA, oS, wantedA, BX, BL, BS, seval, *]; with_reducible exact rfl)))
      refine ⟨.inr rfl, _, rfl, ?_, hkkh⟩
      simp only [resOf, rop, opd, celsL, oneV, aadd, binV, isSh, intBin, scEq, keq, unV, fillL, oP, oA, oS, wantedA, BX, BL, BS, seval, hv]
    | true =>
      have hnx : (U.take (j + 1)).all okU = true := by rw [List.take_add_one, hu, List.all_append, hall]; simp [hok]
      rw [hok] at hld hkk
      clear hok hu hkkh hvb
      repeat (first | (with_reducible first | apply x_seq | apply x_block | apply x_region | apply x_exit | apply x_ret | apply x_skip | apply t_normal | apply t_exit | apply t_ret | apply b_normal | apply b_ret | apply b_same | apply ops_nil | apply g_T | apply g_F | apply c_T | apply c_F) | (with_reducible refine b_other (by decide) ?_) | ((with_reducible apply x_draws); (with_reducible apply d_pure); (next => kernel_rfl)) | ((with_reducible first | apply ops_d | apply ops_g | apply x_c); (next => simp only [rop, opd, celsL, oneV, aadd, binV, isSh, intBin, scEq, keq, unV, fillL, oP, oA, oS, wantedA, BX, BL, BS, seval, *]; with_reducible exact rfl)))
      exact ⟨U.length - (j + 1), by omega, j + 1, by omega, rfl, (by simp only [rop, opd, celsL, oneV, aadd, binV, isSh, intBin, scEq, keq, unV, fillL, oP, oA, oS, wantedA, BX, BL, BS, seval, *]), (by simp only [rop, opd, celsL, oneV, aadd, binV, isSh, intBin, scEq, keq, unV, fillL, oP, oA, oS, wantedA, BX, BL, BS, seval, *]), (by simp only [rop, opd, celsL, oneV, aadd, binV, isSh, intBin, scEq, keq, unV, fillL, oP, oA, oS, wantedA, BX, BL, BS, seval, *]), hkk, hnx⟩
  · have hjlI : ¬ (j : Int) < U.length := by omega
    rw [List.take_of_length_le (by omega)] at hall
    have hv : validB s = true := by rw [hvb, hall]
    clear hall hvb
    repeat (first | (with_reducible first | apply x_seq | apply x_block | apply x_region | apply x_exit | apply x_ret | apply x_skip | apply t_normal | apply t_exit | apply t_ret | apply b_normal | apply b_ret | apply b_same | apply ops_nil | apply g_T | apply g_F | apply c_T | apply c_F) | (with_reducible refine b_other (by decide) ?_) | ((with_reducible apply x_draws); (with_reducible apply d_pure); (next => kernel_rfl)) | ((with_reducible first | apply ops_d | apply ops_g | apply x_c); (next => simp only [rop, opd, celsL, oneV, aadd, binV, isSh, intBin, scEq, keq, unV, fillL, oP, oA, oS, wantedA, BX, BL, BS, seval, *]; with_reducible exact rfl)))
    refine ⟨.inr rfl, _, rfl, ?_, hk1.trans hk⟩
    simp only [resOf, rop, opd, celsL, oneV, aadd, binV, isSh, intBin, scEq, keq, unV, fillL, oP, oA, oS, wantedA, BX, BL, BS, seval, hv]

def hitA (c : Int) (x : Arc3) : Bool := decide (x.1 ≤ c) && decide (c ≤ x.2.1)
theorem nextA_hit {l : List Arc3} {c : Int} {j : Nat} {x : Arc3} (hj : l[j]? = some x) (h0 : (l.take j).find? (hitA c) = none) (hx : hitA c x = true) : nextA l c = x.2.2 := by
  have hlt := (List.getElem?_eq_some_iff.1 hj).1
  have hs : l = l.take j ++ x :: l.drop (j + 1) := by
    rw [← (List.getElem?_eq_some_iff.1 hj).2, List.getElem_cons_drop, List.take_append_drop]
  unfold nextA
  show (match l.find? (hitA c) with | some x => x.2.2 | none => -1) = _
  rw [hs, List.find?_append, h0]
  simp [hx]
theorem nextA_none {l : List Arc3} {c : Int} (h0 : l.find? (hitA c) = none) : nextA l c = -1 := by
  unfold nextA
  show (match l.find? (hitA c) with | some x => x.2.2 | none => -1) = _
  rw [h0]

def nextQ (A : Aut) (q c : Int) : Int := if q < 0 then -1 else nextA (A.arcs.getD q.toNat []) c

set_option maxHeartbeats 4000000 in
theorem f43_ok (W : World) (h : AHeap) (v : Value) (A : Aut) (vf va : Value) (vs : List Value) (q c : Int) (hA : AutoV W h v A vf va vs) (hb : ∀ l ∈ A.arcs, l.length < 1073741824) (hq : q < 0 ∨ q.toNat < A.arcs.length) :
    ACalls Tryz.prog W 43 [v, .int .i64 q, .int .i32 c] h (fun r h' => r = .int .i64 (nextQ A q c) ∧ Keeps h h') := by
  obtain ⟨rfl, hf, ha, hl, he⟩ := hA
  obtain ⟨fa, fc, hfs⟩ := hf.len
  obtain ⟨aa, ac, has⟩ := ha.len
  rw [List.length_map] at hfs has
  rw [hl] at has
  subst hfs has
  refine ACalls_ofX hmix c43 (Nat.le_of_ble_eq_true rfl) ?_
  unfold r43
  simp only [envOf3]
  by_cases hq0 : q < 0
  · have hv : nextQ A q c = -1 := by simp [nextQ, hq0]
    repeat (first | (with_reducible first | apply x_seq | apply x_block | apply x_region | apply x_exit | apply x_ret | apply x_skip | apply t_normal | apply t_exit | apply t_ret | apply b_normal | apply b_ret | apply b_same | apply ops_nil | apply g_T | apply g_F | apply c_T | apply c_F) | (with_reducible refine b_other (by decide) ?_) | ((with_reducible apply x_draws); (with_reducible apply d_pure); (next => kernel_rfl)) | ((with_reducible first | apply ops_d | apply ops_g | apply x_c); (next => simp only [rop, opd, celsL, oneV, aadd, binV, isSh, intBin, scEq, keq, unV, fillL, oP, oA, oS, wantedA, BX, BL, BS, seval, *]; with_reducible exact rfl)))
    refine ⟨.inr rfl, _, rfl, ?_, (Keeps.refl h).new _⟩
    simp only [resOf, rop, opd, celsL, oneV, aadd, binV, isSh, intBin, scEq, keq, unV, fillL, oP, oA, oS, wantedA, BX, BL, BS, seval, hv]
  obtain ⟨n, rfl⟩ : ∃ n : Nat, q = n := ⟨q.toNat, by omega⟩
  have hn : n < A.arcs.length := by omega
  obtain ⟨l, hll⟩ : ∃ l, A.arcs[n]? = some l := ⟨_, List.getElem?_eq_getElem hn⟩
  obtain ⟨x, hxs⟩ : ∃ x, vs[n]? = some x := ⟨_, List.getElem?_eq_getElem (show n < vs.length by omega)⟩
  have hnq : nextQ A n c = nextA l c := by simp only [nextQ, if_neg hq0]; simp [hll]
  have hxm : (vs.map fun x => [x])[n]? = some [x] := by simp [hxs]
  have hk0 : Keeps h (h.new (.cells [.slice fa A.fin.length fc, .slice aa A.arcs.length ac])) := (Keeps.refl h).new _
  obtain ⟨a, ha1, _, ha3⟩ := (ha.keeps hk0).at hxm
  have hrd := (ha3 0 x rfl).1
  have haa : aadd a 0 = a := rfl
  rw [haa] at hrd
  have hsl := he n x l hxs hll
  obtain ⟨la, lc, hls⟩ := hsl.len
  rw [List.length_map] at hls
  subst hls
  have hbl := hb l (List.mem_of_getElem? hll)
  clear hxm ha3 hq hll hxs
  repeat (first | (with_reducible first | apply x_seq | apply x_block | apply x_region | apply x_exit | apply x_ret | apply x_skip | apply t_normal | apply t_exit | apply t_ret | apply b_normal | apply b_ret | apply b_same | apply ops_nil | apply g_T | apply g_F | apply c_T | apply c_F) | (with_reducible refine b_other (by decide) ?_) | ((with_reducible apply x_draws); (with_reducible apply d_pure); (next => kernel_rfl)) | ((with_reducible first | apply ops_d | apply ops_g | apply x_c); (next => simp only [rop, opd, celsL, oneV, aadd, binV, isSh, intBin, scEq, keq, unV, fillL, oP, oA, oS, wantedA, BX, BL, BS, seval, *]; with_reducible exact rfl)))
  refine WPX.loop hmix (fun k σ => ∃ j, j ≤ l.length ∧ k = l.length - j ∧ eget σ.e 2 = .int .i32 c ∧ eget σ.e 15 = .slice la l.length lc ∧ eget σ.e 16 = .int .i64 l.length ∧ eget σ.e 17 = .int .i64 (j : Nat) ∧ Keeps h σ.h ∧ (l.take j).find? (hitA c) = none) l.length ?h0 ?round
  case h0 => exact ⟨0, Nat.zero_le _, rfl, (by simp only [rop, opd, celsL, oneV, aadd, binV, isSh, intBin, scEq, keq, unV, fillL, oP, oA, oS, wantedA, BX, BL, BS, seval, *]), (by simp only [rop, opd, celsL, oneV, aadd, binV, isSh, intBin, scEq, keq, unV, fillL, oP, oA, oS, wantedA, BX, BL, BS, seval, *]), (by simp only [rop, opd, celsL, oneV, aadd, binV, isSh, intBin, scEq, keq, unV, fillL, oP, oA, oS, wantedA, BX, BL, BS, seval, *]), (by simp only [rop, opd, celsL, oneV, aadd, binV, isSh, intBin, scEq, keq, unV, fillL, oP, oA, oS, wantedA, BX, BL, BS, seval, *]), hk0, rfl⟩
  rintro k ⟨e, hh⟩ ⟨j, hj, rfl, e2, e15, e16, e17, hk, hnone⟩
  dsimp only at e2 e15 e16 e17 hk
  clear hrd ha1
  by_cases hjl : j < l.length
  · have hjlI : (j : Int) < l.length := by omega
    obtain ⟨⟨f, t, s⟩, hx⟩ : ∃ x, l[j]? = some x := ⟨_, List.getElem?_eq_getElem hjl⟩
    have hxj : (l.map arcV)[j]? = some (arcV (f, t, s)) := by simp [hx]
    obtain ⟨b, hb1, _, hb3⟩ := (hsl.keeps hk).at hxj
    have hld := aloadN_of _ _ hb3
    simp only [arcV, List.length_cons, List.length_nil, Nat.reduceAdd] at hld
    have hw1 : IntKind.i64.wrap ((j : Int) + 1) = ((j + 1 : Nat) : Int) := wrap_i64 (by omega) (by omega)
    have hkk : Keeps h ((hh.new (.cells [.int .i32 0, .int .i32 0, .int .i64 0])).put hh.next (.cells [.int .i32 f, .int .i32 t, .int .i64 s])) := (hk.new _).put hk.le _
    have hnx : hitA c (f, t, s) = false → (l.take (j + 1)).find? (hitA c) = none := fun hf => by
      rw [List.take_add_one, hx, List.find?_append, hnone]; simp [hf]
    have hft : hitA c (f, t, s) = true → nextQ A n c = s := fun hf => by rw [hnq]; exact nextA_hit hx hnone hf
    clear hxj hb3 hx hnq
    by_cases b1 : f ≤ c
    · by_cases b2 : c ≤ t
      · have hv := hft (by simp [hitA, b1, b2])
        clear hnx hft
        repeat (first | (with_reducible first | apply x_seq | apply x_block | apply x_region | apply x_exit | apply x_ret | apply x_skip | apply t_normal | apply t_exit | apply t_ret | apply b_normal | apply b_ret | apply b_same | apply ops_nil | apply g_T | apply g_F | apply c_T | apply c_F) | (with_reducible refine b_other (by decide) ?_) | ((with_reducible apply x_draws); (with_reducible apply d_pure); (next => kernel_rfl)) | ((with_reducible first | apply ops_d | apply ops_g | apply x_c); (next => simp only [rop, opd, celsL, oneV, aadd, binV, isSh, intBin, scEq, keq, unV, fillL, oP, oA, oS, wantedA, BX, BL, BS, seval, *]; with_reducible exact rfl)))
        refine ⟨.inr rfl, _, rfl, ?_, hkk⟩
        simp only [resOf, rop, opd, celsL, oneV, aadd, binV, isSh, intBin, scEq, keq, unV, fillL, oP, oA, oS, wantedA, BX, BL, BS, seval, hv]
      · have hv := hnx (by simp [hitA, b2])
        clear hnx hft
        repeat (first | (with_reducible first | apply x_seq | apply x_block | apply x_region | apply x_exit | apply x_ret | apply x_skip | apply t_normal | apply t_exit | apply t_ret | apply b_normal | apply b_ret | apply b_same | apply ops_nil | apply g_T | apply g_F | apply c_T | apply c_F) | (with_reducible refine b_other (by decide) ?_) | ((with_reducible apply x_draws); (with_reducible apply d_pure); (next => kernel_rfl)) | ((with_reducible first | apply ops_d | apply ops_g | apply x_c); (next => simp only [rop, opd, celsL, oneV, aadd, binV, isSh, intBin, scEq, keq, unV, fillL, oP, oA, oS, wantedA, BX, BL, BS, seval, *]; with_reducible exact rfl)))
        exact ⟨l.length - (j + 1), by omega, j + 1, by omega, rfl, (by simp only [rop, opd, celsL, oneV, aadd, binV, isSh, intBin, scEq, keq, unV, fillL, oP, oA, oS, wantedA, BX, BL, BS, seval, *]), (by simp only [rop, opd, celsL, oneV, aadd, binV, isSh, intBin, scEq, keq, unV, fillL, oP, oA, oS, wantedA, BX, BL, BS, seval, *]), (by simp only [rop, opd, celsL, oneV, aadd, binV, isSh, intBin, scEq, keq, unV, fillL, oP, oA, oS, wantedA, BX, BL, BS, seval, *]), (by simp only [rop, opd, celsL, oneV, aadd, binV, isSh, intBin, scEq, keq, unV, fillL, oP, oA, oS, wantedA, BX, BL, BS, seval, *]), hkk, hv⟩
    · have hv := hnx (by simp [hitA, b1])
      clear hnx hft
      repeat (first | (with_reducible first | apply x_seq | apply x_block | apply x_region | apply x_exit | apply x_ret | apply x_skip | apply t_normal | apply t_exit | apply t_ret | apply b_normal | apply b_ret | apply b_same | apply ops_nil | apply g_T | apply g_F | apply c_T | apply c_F) | (with_reducible refine b_other (by decide) ?_) | ((with_reducible apply x_draws); (with_reducible apply d_pure); (next => kernel_rfl)) | ((with_reducible first | apply ops_d | apply ops_g | apply x_c); (next => simp only [rop, opd, celsL, oneV, aadd, binV, isSh, intBin, scEq, keq, unV, fillL, oP, oA, oS, wantedA, BX, BL, BS, seval, *]; with_reducible exact rfl)))
      exact ⟨l.length - (j + 1), by omega, j + 1, by omega, rfl, (by simp only [rop, opd, celsL, oneV, aadd, binV, isSh, intBin, scEq, keq, unV, fillL, oP, oA, oS, wantedA, BX, BL, BS, seval, *]), (by simp only [rop, opd, celsL, oneV, aadd, binV, isSh, intBin, scEq, keq, unV, fillL, oP, oA, oS, wantedA, BX, BL, BS, seval, *]), (by simp only [rop, opd, celsL, oneV, aadd, binV, isSh, intBin, scEq, keq, unV, fillL, oP, oA, oS, wantedA, BX, BL, BS, seval, *]), (by simp only [rop, opd, celsL, oneV, aadd, binV, isSh, intBin, scEq, keq, unV, fillL, oP, oA, oS, wantedA, BX, BL, BS, seval, *]), hkk, hv⟩
  · have hjlI : ¬ (j : Int) < l.length := by omega
    rw [List.take_of_length_le (by omega)] at hnone
    have hv : nextQ A n c = -1 := by rw [hnq]; exact nextA_none hnone
    clear hnone hnq
    repeat (first | (with_reducible first | apply x_seq | apply x_block | apply x_region | apply x_exit | apply x_ret | apply x_skip | apply t_normal | apply t_exit | apply t_ret | apply b_normal | apply b_ret | apply b_same | apply ops_nil | apply g_T | apply g_F | apply c_T | apply c_F) | (with_reducible refine b_other (by decide) ?_) | ((with_reducible apply x_draws); (with_reducible apply d_pure); (next => kernel_rfl)) | ((with_reducible first | apply ops_d | apply ops_g | apply x_c); (next => simp only [rop, opd, celsL, oneV, aadd, binV, isSh, intBin, scEq, keq, unV, fillL, oP, oA, oS, wantedA, BX, BL, BS, seval, *]; with_reducible exact rfl)))
    refine ⟨.inr rfl, _, rfl, ?_, hk⟩
    simp only [resOf, rop, opd, celsL, oneV, aadd, binV, isSh, intBin, scEq, keq, unV, fillL, oP, oA, oS, wantedA, BX, BL, BS, seval, hv]
end Go.Proofs.YtlipmjpapkfaeaaGreatDoor.Fn
end
