/- automaton.plain (F85), reachable (F45) and its closures (F83, F84) in the machine. No condition but sizes.
Merged from 1 texts. -/
import Derived.Test.YtlipmjpapkfaeaaGreatDoorZC26
import Derived.Test.YtlipmjpapkfaeaaGreatDoorZC24
section
set_option linter.unusedSimpArgs false
set_option linter.unusedVariables false
set_option maxRecDepth 100000
namespace Go.Proofs.YtlipmjpapkfaeaaGreatDoor.Fn
open Go Go.Mach Go.RowKit Go.Proofs
attribute [local irreducible] AOps WPX DOps thenS blockS AOp GOps CPick

set_option maxHeartbeats 4000000 in
theorem f85_ok (W : World) (h : AHeap) (v : Value) (l : List Arc3) (hs : Sl W h 3 v (l.map arcV)) (hb : l.length < 1073741824) :
    ACalls Tryz.prog W 85 [v] h (fun r h' => (∃ a c, r = .slice a l.length c ∧ OwnV h.next h' a c 3 (l.map arcV)) ∧ Keeps h h') := by
  obtain ⟨la, lc, hls⟩ := hs.len
  rw [List.length_map] at hls
  subst hls
  refine ACalls_ofX hmix c85 (Nat.le_of_ble_eq_true rfl) ?_
  unfold r85
  simp only [envOf1]
  repeat (first | (with_reducible first | apply x_seq | apply x_block | apply x_region | apply x_exit | apply x_ret | apply x_skip | apply t_normal | apply t_exit | apply t_ret | apply b_normal | apply b_ret | apply b_same | apply ops_nil | apply g_T | apply g_F | apply c_T | apply c_F) | (with_reducible refine b_other (by decide) ?_) | ((with_reducible apply x_draws); (with_reducible apply d_pure); (next => kernel_rfl)) | ((with_reducible first | apply ops_d | apply ops_g | apply x_c); (next => simp only [rop, opd, celsL, oneV, aadd, binV, isSh, intBin, scEq, keq, unV, fillL, oP, oA, oS, wantedA, BX, BL, BS, seval, *]; with_reducible exact rfl)))
  refine WPX.loop hmix (fun k σ => ∃ (j : Nat) (L : List Arc3) (a : Option Addr) (c : Nat), j ≤ l.length ∧ k = l.length - j ∧ eget σ.e 3 = .slice a L.length c ∧ eget σ.e 6 = .slice la l.length lc ∧ eget σ.e 7 = .int .i64 l.length ∧
    eget σ.e 8 = .int .i64 (j : Nat) ∧ Keeps h σ.h ∧ OwnV h.next σ.h a c 3 (L.map arcV) ∧ Hid (L = l.take j)) l.length ?h0 ?round
  case h0 => exact ⟨0, [], none, 0, Nat.zero_le _, rfl, (by simp only [rop, opd, celsL, oneV, aadd, binV, isSh, intBin, scEq, keq, unV, fillL, oP, oA, oS, wantedA, BX, BL, BS, seval, *, List.length_nil]), (by simp only [rop, opd, celsL, oneV, aadd, binV, isSh, intBin, scEq, keq, unV, fillL, oP, oA, oS, wantedA, BX, BL, BS, seval, *]), (by simp only [rop, opd, celsL, oneV, aadd, binV, isSh, intBin, scEq, keq, unV, fillL, oP, oA, oS, wantedA, BX, BL, BS, seval, *]), (by simp only [rop, opd, celsL, oneV, aadd, binV, isSh, intBin, scEq, keq, unV, fillL, oP, oA, oS, wantedA, BX, BL, BS, seval, *]), Keeps.refl h, OwnV.nil _ _ _, rfl⟩
  rintro k ⟨e, hh⟩ ⟨j, L, a, c, hj, rfl, e3, e6, e7, e8, hk, ho, hL⟩
  dsimp only at e3 e6 e7 e8 hk ho
  by_cases hjl : j < l.length
  · have hjlI : (j : Int) < l.length := by omega
    obtain ⟨⟨f, t, s⟩, hx⟩ : ∃ x, l[j]? = some x := ⟨_, List.getElem?_eq_getElem hjl⟩
    have hxj : (l.map arcV)[j]? = some (arcV (f, t, s)) := by simp [hx]
    obtain ⟨b, hb1, _, hb3⟩ := (hs.keeps hk).at hxj
    have hld := aloadN_of _ _ hb3
    simp only [arcV, List.length_cons, List.length_nil, Nat.reduceAdd] at hld
    have hw1 : IntKind.i64.wrap ((j : Int) + 1) = ((j + 1 : Nat) : Int) := wrap_i64 (by omega) (by omega)
    obtain ⟨H1, hH1⟩ : ∃ H1, H1 = (hh.new (.cells [.int .i32 0, .int .i32 0, .int .i64 0])).put hh.next (.cells [.int .i32 f, .int .i32 t, .int .i64 s]) := ⟨_, rfl⟩
    have hkk : Keeps hh H1 := by rw [hH1]; exact ((Keeps.refl hh).new _).put (Nat.le_refl _) _
    have hn1 : H1.next = hh.next + 1 := by rw [hH1]; rfl
    have hk1 : Keeps h H1 := hk.trans hkk
    have hLl : L.length = j := by rw [hL.out]; simp; omega
    obtain ⟨a', c', h3, g1, g2, g3, _⟩ := OwnV.app (W := W) (h0 := h) (h := H1.new (.cells (arcV (f, t, s)))) (b' := hh.next + 1) (e := arcV (f, t, s)) ((ho.keeps hkk).keeps ((Keeps.refl _).new _)) (hk1.new _) (Nat.le_refl _)
      (Nat.le_trans hk1.le (by rw [AHeap.new_next]; omega)) (by rw [AHeap.new_get, hn1, if_pos rfl]) (by rw [AHeap.new_next]; omega) rfl rfl (by simp; omega)
    obtain ⟨L', hLe⟩ : ∃ L', L' = L ++ [(f, t, s)] := ⟨_, rfl⟩
    have e1 : L.map arcV ++ [arcV (f, t, s)] = L'.map arcV := by rw [hLe]; simp
    have hL' : Hid (L' = l.take (j + 1)) := by show _ = _; rw [hLe, hL.out, List.take_add_one, hx]; rfl
    rw [e1] at g1 g2
    rw [List.length_map, List.length_map] at g1
    simp only [arcV] at g1
    rw [hH1] at g1
    clear hb3 hxj hx hLe e1 hH1 hkk hn1 hk1 hLl
    repeat (first | (with_reducible first | apply x_seq | apply x_block | apply x_region | apply x_exit | apply x_ret | apply x_skip | apply t_normal | apply t_exit | apply t_ret | apply b_normal | apply b_ret | apply b_same | apply ops_nil | apply g_T | apply g_F | apply c_T | apply c_F) | (with_reducible refine b_other (by decide) ?_) | ((with_reducible apply x_draws); (with_reducible apply d_pure); (next => kernel_rfl)) | ((with_reducible first | apply ops_d | apply ops_g | apply x_c); (next => simp only [rop, opd, celsL, oneV, aadd, binV, isSh, intBin, scEq, keq, unV, fillL, oP, oA, oS, wantedA, BX, BL, BS, seval, *]; with_reducible exact rfl)))
    exact ⟨l.length - (j + 1), by omega, j + 1, L', a', c', by omega, rfl, (by simp only [rop, opd, celsL, oneV, aadd, binV, isSh, intBin, scEq, keq, unV, fillL, oP, oA, oS, wantedA, BX, BL, BS, seval, *]), (by simp only [rop, opd, celsL, oneV, aadd, binV, isSh, intBin, scEq, keq, unV, fillL, oP, oA, oS, wantedA, BX, BL, BS, seval, *]), (by simp only [rop, opd, celsL, oneV, aadd, binV, isSh, intBin, scEq, keq, unV, fillL, oP, oA, oS, wantedA, BX, BL, BS, seval, *]), (by simp only [rop, opd, celsL, oneV, aadd, binV, isSh, intBin, scEq, keq, unV, fillL, oP, oA, oS, wantedA, BX, BL, BS, seval, *]), g3, g2, hL'⟩
  · have hjlI : ¬ (j : Int) < l.length := by omega
    have hL2 : L = l := by rw [hL.out, List.take_of_length_le (by omega)]
    rw [hL2] at ho e3
    clear hL2 hL
    repeat (first | (with_reducible first | apply x_seq | apply x_block | apply x_region | apply x_exit | apply x_ret | apply x_skip | apply t_normal | apply t_exit | apply t_ret | apply b_normal | apply b_ret | apply b_same | apply ops_nil | apply g_T | apply g_F | apply c_T | apply c_F) | (with_reducible refine b_other (by decide) ?_) | ((with_reducible apply x_draws); (with_reducible apply d_pure); (next => kernel_rfl)) | ((with_reducible first | apply ops_d | apply ops_g | apply x_c); (next => simp only [rop, opd, celsL, oneV, aadd, binV, isSh, intBin, scEq, keq, unV, fillL, oP, oA, oS, wantedA, BX, BL, BS, seval, *]; with_reducible exact rfl)))
    refine ⟨.inr rfl, _, rfl, ⟨a, c, ?_, ho⟩, hk⟩
    simp only [resOf, rop, opd, celsL, oneV, aadd, binV, isSh, intBin, scEq, keq, unV, fillL, oP, oA, oS, wantedA, BX, BL, BS, seval, *]

theorem AutoV.slices {W : World} {h : AHeap} {v : Value} {A : Aut} {vf va : Value} {vs : List Value} (hA : AutoV W h v A vf va vs) : ∃ fa n1 fc aa n2 ac, vf = .slice fa n1 fc ∧ va = .slice aa n2 ac := by
  obtain ⟨fa, fc, e1⟩ := hA.f.len
  obtain ⟨aa, ac, e2⟩ := hA.a.len
  exact ⟨fa, _, fc, aa, _, ac, e1, e2⟩

set_option maxHeartbeats 4000000 in
theorem f83_ok (W : World) (h : AHeap) (b : Nat) (A : Aut) (vf va : Value) (vs : List Value) (k : Nat) (hb : h.own.get b = some (.cells [vf, va])) (hA : AutoV W h (.agg #[vf, va]) A vf va vs) (hk : k < A.fin.length) :
    ACalls Tryz.prog W 83 [.int .i64 k, .pointer (some ⟨b, 0, some 0⟩)] h (fun r h' => r = .bool A.fin[k] ∧ Keeps h h') := by
  obtain ⟨_, hf, ha, hl, he⟩ := hA
  obtain ⟨fa, fc, hfs⟩ := hf.len
  rw [List.length_map] at hfs
  subst hfs
  refine ACalls_ofX hmix c83 (Nat.le_of_ble_eq_true rfl) ?_
  unfold r83
  simp only [envOf2]
  have hxm : (A.fin.map fun b => [Value.bool b])[k]? = some [.bool A.fin[k]] := by simp [hk]
  obtain ⟨a, ha1, _, ha3⟩ := hf.at hxm
  have hrd := (ha3 0 (.bool A.fin[k]) rfl).1
  have haa : aadd a 0 = a := rfl
  rw [haa] at hrd
  clear ha3 hxm
  repeat (first | (with_reducible first | apply x_seq | apply x_block | apply x_region | apply x_exit | apply x_ret | apply x_skip | apply t_normal | apply t_exit | apply t_ret | apply b_normal | apply b_ret | apply b_same | apply ops_nil | apply g_T | apply g_F | apply c_T | apply c_F) | (with_reducible refine b_other (by decide) ?_) | ((with_reducible apply x_draws); (with_reducible apply d_pure); (next => kernel_rfl)) | ((with_reducible first | apply ops_d | apply ops_g | apply x_c); (next => simp only [rop, opd, celsL, oneV, aadd, binV, isSh, intBin, scEq, keq, unV, fillL, oP, oA, oS, wantedA, BX, BL, BS, seval, *]; with_reducible exact rfl)))
  refine ⟨.inr rfl, _, rfl, ?_, Keeps.refl h⟩
  simp only [resOf, rop, opd, celsL, oneV, aadd, binV, isSh, intBin, scEq, keq, unV, fillL, oP, oA, oS, wantedA, BX, BL, BS, seval]

set_option maxHeartbeats 4000000 in
theorem f84_ok (W : World) (h : AHeap) (b : Nat) (A : Aut) (vf va : Value) (vs : List Value) (k : Nat) (l : List Arc3) (hb : h.own.get b = some (.cells [vf, va])) (hA : AutoV W h (.agg #[vf, va]) A vf va vs) (hk : A.arcs[k]? = some l) (hbl : l.length < 1073741824) :
    ACalls Tryz.prog W 84 [.int .i64 k, .pointer (some ⟨b, 0, some 0⟩)] h (fun r h' => (∃ a c, r = .slice a l.length c ∧ OwnV h.next h' a c 3 (l.map arcV)) ∧ Keeps h h') := by
  obtain ⟨_, hf, ha, hl, he⟩ := hA
  obtain ⟨aa, ac, has⟩ := ha.len
  rw [List.length_map] at has
  subst has
  refine ACalls_ofX hmix c84 (Nat.le_of_ble_eq_true rfl) ?_
  unfold r84
  simp only [envOf2]
  obtain ⟨x, hxs⟩ : ∃ x, vs[k]? = some x := ⟨_, List.getElem?_eq_getElem (show k < vs.length by have := (List.getElem?_eq_some_iff.1 hk).1; omega)⟩
  have hxm : (vs.map fun x => [x])[k]? = some [x] := by simp [hxs]
  obtain ⟨a, ha1, _, ha3⟩ := ha.at hxm
  have hrd := (ha3 0 x rfl).1
  have haa : aadd a 0 = a := rfl
  rw [haa] at hrd
  have h85 := f85_ok W h x l (he k x l hxs hk) hbl
  clear ha3 hxm hl
  repeat (first | (with_reducible first | apply x_seq | apply x_block | apply x_region | apply x_exit | apply x_ret | apply x_skip | apply t_normal | apply t_exit | apply t_ret | apply b_normal | apply b_ret | apply b_same | apply ops_nil | apply g_T | apply g_F | apply c_T | apply c_F) | (with_reducible refine b_other (by decide) ?_) | ((with_reducible apply x_draws); (with_reducible apply d_pure); (next => kernel_rfl)) | ((with_reducible first | apply ops_d | apply ops_g | apply x_c); (next => simp only [rop, opd, celsL, oneV, aadd, binV, isSh, intBin, scEq, keq, unV, fillL, oP, oA, oS, wantedA, BX, BL, BS, seval, *]; with_reducible exact rfl)))
  refine ops_callK (by simp only [rop, opd, celsL, oneV, aadd, binV, isSh, intBin, scEq, keq, unV, fillL, oP, oA, oS, wantedA, BX, BL, BS, seval, *]) (by simp only [List.map_cons, List.map_nil, rop, opd, celsL, oneV, aadd, binV, isSh, intBin, scEq, keq, unV, fillL, oP, oA, oS, wantedA, BX, BL, BS, seval, *]) h85 ?_
  rintro r1 h1 ⟨⟨la, lc, rfl, ho⟩, hk1⟩
  repeat (first | (with_reducible first | apply x_seq | apply x_block | apply x_region | apply x_exit | apply x_ret | apply x_skip | apply t_normal | apply t_exit | apply t_ret | apply b_normal | apply b_ret | apply b_same | apply ops_nil | apply g_T | apply g_F | apply c_T | apply c_F) | (with_reducible refine b_other (by decide) ?_) | ((with_reducible apply x_draws); (with_reducible apply d_pure); (next => kernel_rfl)) | ((with_reducible first | apply ops_d | apply ops_g | apply x_c); (next => simp only [rop, opd, celsL, oneV, aadd, binV, isSh, intBin, scEq, keq, unV, fillL, oP, oA, oS, wantedA, BX, BL, BS, seval, *]; with_reducible exact rfl)))
  refine ⟨.inr rfl, _, rfl, ⟨la, lc, ?_, ho⟩, hk1⟩
  simp only [resOf, rop, opd, celsL, oneV, aadd, binV, isSh, intBin, scEq, keq, unV, fillL, oP, oA, oS, wantedA, BX, BL, BS, seval]

/-! ### the keys that are met are all different -/
theorem expFold_nodup : ∀ (l : List Arc3) (st : List Int × List Arc3), st.1.Nodup → (l.foldl expEdge st).1.Nodup
  | [], st, h => h
  | e :: l, st, h => expFold_nodup l (expEdge st e) (by
      unfold expEdge
      simp only
      split
      · exact h
      · rename_i hn
        exact List.nodup_append.2 ⟨h, by simp, fun a ha b hb => by simp at hb; subst hb; intro e; subst e; exact hn ha⟩)
theorem rounds_nodup (E : Int → List Arc3) (k0 : Int) : ∀ i, (rounds E k0 i).1.Nodup
  | 0 => by simp [rounds]
  | i + 1 => by
    have ih := rounds_nodup E k0 i
    cases hk : (rounds E k0 i).1[i]? with
    | none =>
      have : rounds E k0 (i + 1) = rounds E k0 i := by conv => lhs; unfold rounds
                                                       rw [hk]
      rw [this]; exact ih
    | some k => rw [rounds_succ hk]; exact expFold_nodup (E k) _ ih

theorem nodup_len {α : Type} [DecidableEq α] : ∀ {l m : List α}, l.Nodup → l ⊆ m → l.length ≤ m.length
  | [], m, _, _ => Nat.zero_le _
  | a :: l, m, h, hs => by
    obtain ⟨h1, h2⟩ := List.nodup_cons.1 h
    have ha : a ∈ m := hs (by simp)
    have := nodup_len (l := l) (m := m.erase a) h2 (fun x hx => (List.mem_erase_of_ne (fun e => by subst e; exact h1 hx)).2 (hs (by simp [hx])))
    rw [List.length_erase_of_mem ha] at this
    have := List.length_pos_of_mem ha
    simp only [List.length_cons]; omega

theorem keys_bound {n : Nat} {ks : List Int} (h : ks.Nodup) (hr : ∀ k ∈ ks, 0 ≤ k ∧ k < n) : ks.length ≤ n := by
  have := nodup_len (l := ks) (m := (List.range n).map fun i : Nat => (i : Int)) h (fun k hk => by
    have := hr k hk
    rw [List.mem_map]
    exact ⟨k.toNat, by rw [List.mem_range]; omega, by omega⟩)
  simpa using this

/-- The edges, the final states of an automaton. -/
def edgesA (A : Aut) (k : Int) : List Arc3 := A.arcs.getD k.toNat []
def finA (A : Aut) (k : Int) : Bool := A.fin.getD k.toNat false
def reachA (A : Aut) (n : Nat) : Aut := ⟨(rounds (edgesA A) 0 n).1.map (finA A), (rounds (edgesA A) 0 n).2⟩

theorem edgesA_mem {A : Aut} (hlen : A.arcs.length = A.fin.length) {k : Int} (hk : 0 ≤ k ∧ k < A.fin.length) : A.arcs[k.toNat]? = some (edgesA A k) := by
  unfold edgesA
  have : k.toNat < A.arcs.length := by omega
  simp [this]

set_option maxHeartbeats 4000000 in
theorem f45_ok (W : World) (h : AHeap) (v : Value) (A : Aut) (vf va : Value) (vs : List Value) (hA : AutoV W h v A vf va vs) (hb : ∀ l ∈ A.arcs, l.length < 1048576) (hv : validate A = 0) :
    ACalls Tryz.prog W 45 [v] h (fun r h' => ∃ vf' va' vs' n, (rounds (edgesA A) 0 n).1.length = n ∧ r = .agg #[vf', va'] ∧ FreshA W h.next h' (reachA A n) vf' va' vs' ∧ Keeps h h') := by
  obtain ⟨hn1, hn2, hn3, hn4⟩ := validate_zero hv
  have hA' := hA
  obtain ⟨rfl, hf, ha, hl, he⟩ := hA
  obtain ⟨fa, fc, hfs⟩ := hf.len
  obtain ⟨aa, ac, has⟩ := ha.len
  rw [List.length_map] at hfs has
  rw [hl] at has
  subst hfs has
  refine ACalls_ofX hmix c45 (Nat.le_of_ble_eq_true rfl) ?_
  unfold r45
  simp only [envOf1]
  obtain ⟨D, hDef⟩ : ∃ D : Int → Prop, D = fun k : Int => 0 ≤ k ∧ k < (A.fin.length : Int) := ⟨_, rfl⟩
  obtain ⟨H, hH⟩ : ∃ H, H = (h.new (.cells [.slice fa A.fin.length fc, .slice aa A.arcs.length ac])).new (.cells [.slice none 0 0, .slice none 0 0]) := ⟨_, rfl⟩
  have hkH : Keeps h H := by rw [hH]; exact ((Keeps.refl h).new _).new _
  have hHn : H.next = h.next + 2 := by rw [hH]; rfl
  have hgb : H.own.get h.next = some (.cells [.slice fa A.fin.length fc, .slice aa A.arcs.length ac]) := by rw [hH, AHeap.new_get, AHeap.new_next, if_neg (by omega), AHeap.new_get, if_pos rfl]
  have hg2 : H.own.get (h.next + 1) = some (.cells [.slice none 0 0, .slice none 0 0]) := by rw [hH, AHeap.new_get, AHeap.new_next, if_pos rfl]
  have hD0 : D 0 := by rw [hDef]; exact ⟨by omega, by omega⟩
  have hin : ∀ k, D k → A.arcs[k.toNat]? = some (edgesA A k) := fun k hk => by rw [hDef] at hk; exact edgesA_mem hn3 hk
  have hsrt : ∀ k, D k → chkFrom A.fin.length none (edgesA A k) = none := fun k hk => chkAll_each hn4 _ (List.mem_of_getElem? (hin k hk))
  have hDE : ∀ k, D k → ∀ x ∈ edgesA A k, D x.2.2 := fun k hk x hx => by
    have := chkFrom_state (hsrt k hk) x hx
    rw [hDef]; simp [badArc] at this; simp only; omega
  have hEr : ∀ k, D k → InR (edgesA A k) := fun k hk x hx => by
    have := chkFrom_state (hsrt k hk) x hx
    simp [badArc] at this; omega
  have hEl : ∀ k, D k → (edgesA A k).length < 1048576 := fun k hk => hb _ (List.mem_of_getElem? (hin k hk))
  have hlim : ∀ i, ((rounds (edgesA A) 0 i).1.length : Int) ≤ A.fin.length := fun i => by
    have := keys_bound (n := A.fin.length) (rounds_nodup (edgesA A) 0 i) (fun k hk => by
      have := rounds_keys hD0 hDE i k hk
      rw [hDef] at this; exact this)
    omega
  have h82 := f82_ok W H 0 83 84 #[.pointer (some ⟨h.next, 0, some 0⟩)] #[.pointer (some ⟨h.next, 0, some 0⟩)] A.fin.length (finA A) (edgesA A) D hD0 hDE hEr hEl hlim (by omega)
    (fun h' k hk hDk => by
      have hDk' := hDk
      rw [hDef] at hDk'
      have hkk : k.toNat < A.fin.length := by omega
      have := f83_ok W h' h.next A _ _ vs k.toNat (by rw [hk.same _ (by omega)]; exact hgb) (hA'.keeps (hkH.trans hk)) hkk
      rw [Int.toNat_of_nonneg hDk'.1] at this
      have e : finA A k = A.fin[k.toNat] := by simp [finA, hkk]
      rw [e]; exact this)
    (fun h' k hk hDk => by
      have hDk' := hDk
      rw [hDef] at hDk'
      have := f84_ok W h' h.next A _ _ vs k.toNat (edgesA A k) (by rw [hk.same _ (by omega)]; exact hgb) (hA'.keeps (hkH.trans hk)) (hin k hDk) (by have := hEl k hDk; omega)
      rw [Int.toNat_of_nonneg hDk'.1] at this
      exact this)
  rw [hH] at h82
  clear hDef hD0 hDE hEr hEl hlim hsrt hin hn3
  repeat (first | (with_reducible first | apply x_seq | apply x_block | apply x_region | apply x_exit | apply x_ret | apply x_skip | apply t_normal | apply t_exit | apply t_ret | apply b_normal | apply b_ret | apply b_same | apply ops_nil | apply g_T | apply g_F | apply c_T | apply c_F) | (with_reducible refine b_other (by decide) ?_) | ((with_reducible apply x_draws); (with_reducible apply d_pure); (next => kernel_rfl)) | ((with_reducible first | apply ops_d | apply ops_g | apply x_c); (next => simp only [rop, opd, celsL, oneV, aadd, binV, isSh, intBin, scEq, keq, unV, fillL, oP, oA, oS, wantedA, BX, BL, BS, seval, *]; with_reducible exact rfl)))
  refine ops_callK (by simp only [rop, opd, celsL, oneV, aadd, binV, isSh, intBin, scEq, keq, unV, fillL, oP, oA, oS, wantedA, BX, BL, BS, seval, *]) (by simp only [List.map_cons, List.map_nil, rop, opd, celsL, oneV, aadd, binV, isSh, intBin, scEq, keq, unV, fillL, oP, oA, oS, wantedA, BX, BL, BS, seval, *]) h82 ?_
  rintro r1 h1 ⟨vf', va', vs', n, hn, rfl, hAV, hk1⟩
  rw [← hH] at hk1
  have hg21 : h1.own.get (h.next + 1) = some (.cells [.slice none 0 0, .slice none 0 0]) := by rw [hk1.same _ (by omega)]; exact hg2
  have hlt1 : h.next + 1 < h1.next := by have := hk1.le; omega
  clear h82 hH hg2 hgb
  obtain ⟨fa', n1, fc', aa', n2, ac', rfl, rfl⟩ := AutoV.slices hAV.auto
  have hld : aloadN W ((h1.new (.cells [.slice none 0 0, .slice none 0 0])).put h1.next (.cells [.slice fa' n1 fc', .slice aa' n2 ac'])) ⟨h1.next, 0, some 0⟩ 2 = some [.slice fa' n1 fc', .slice aa' n2 ac'] := aload2 (by rw [AHeap.put_get, if_pos rfl])
  have hne : ¬ h.next + 1 = h1.next := by omega
  have hkf : Keeps h (((h1.new (.cells [.slice none 0 0, .slice none 0 0])).put h1.next (.cells [.slice fa' n1 fc', .slice aa' n2 ac'])).put (h.next + 1) (.cells [.slice fa' n1 fc', .slice aa' n2 ac'])) := (((hkH.trans hk1).new _).put (by omega) _).put (by omega) _
  have hkv : Keeps h1 ((h1.new (.cells [.slice none 0 0, .slice none 0 0])).put h1.next (.cells [.slice fa' n1 fc', .slice aa' n2 ac'])) := ((Keeps.refl h1).new _).put (Nat.le_refl _) _
  have hAF : FreshA W h.next (((h1.new (.cells [.slice none 0 0, .slice none 0 0])).put h1.next (.cells [.slice fa' n1 fc', .slice aa' n2 ac'])).put (h.next + 1) (.cells [.slice fa' n1 fc', .slice aa' n2 ac'])) (reachA A n) (.slice fa' n1 fc') (.slice aa' n2 ac') vs' := by
    rw [AHeap.new_next, AHeap.new_next] at hAV
    exact ((hAV.keeps hkv).put (by omega) _).base (by omega)
  have hrs : aloadN W (((h1.new (.cells [.slice none 0 0, .slice none 0 0])).put h1.next (.cells [.slice fa' n1 fc', .slice aa' n2 ac'])).put (h.next + 1) (.cells [.slice fa' n1 fc', .slice aa' n2 ac'])) ⟨h.next + 1, 0, some 0⟩ 2 = some [.slice fa' n1 fc', .slice aa' n2 ac'] := aload2 (by rw [AHeap.put_get, if_pos rfl])
  repeat (first | (with_reducible first | apply x_seq | apply x_block | apply x_region | apply x_exit | apply x_ret | apply x_skip | apply t_normal | apply t_exit | apply t_ret | apply b_normal | apply b_ret | apply b_same | apply ops_nil | apply g_T | apply g_F | apply c_T | apply c_F) | (with_reducible refine b_other (by decide) ?_) | ((with_reducible apply x_draws); (with_reducible apply d_pure); (next => kernel_rfl)) | ((with_reducible first | apply ops_d | apply ops_g | apply x_c); (next => simp only [rop, opd, celsL, oneV, aadd, binV, isSh, intBin, scEq, keq, unV, fillL, oP, oA, oS, wantedA, BX, BL, BS, seval, *]; with_reducible exact rfl)))
  refine ⟨.inr rfl, [.agg #[.slice fa' n1 fc', .slice aa' n2 ac']], ?_, .slice fa' n1 fc', .slice aa' n2 ac', vs', n, hn, rfl, hAF, hkf⟩
  simp only [resVals, rop, opd, celsL, oneV, aadd, binV, isSh, intBin, scEq, keq, unV, fillL, oP, oA, oS, wantedA, BX, BL, BS, seval, *]
end Go.Proofs.YtlipmjpapkfaeaaGreatDoor.Fn
end
