/- corporaref20.cuts (F86) in the machine: the points at which ranges begin and end. No condition but sizes.
Merged from 2 texts. -/
import Derived.Test.YtlipmjpapkfaeaaGreatDoorZD15
import Derived.Test.YtlipmjpapkfaeaaGreatDoorZD13
section
set_option linter.unusedSimpArgs false
set_option linter.unusedVariables false
set_option maxRecDepth 100000
namespace Go.Proofs.YtlipmjpapkfaeaaGreatDoor.Fn
open Go Go.Mach Go.RowKit Go.Proofs
attribute [local irreducible] AOps WPX DOps thenS blockS AOp GOps CPick
def CutAt (ps : List Int) (x : Int × Int) : Prop := x.1 ∈ ps ∧ (x.2 + 1 ≤ 1114111 → x.2 + 1 ∈ ps)
theorem CutAt.mono {ps qs : List Int} {x : Int × Int} (h : CutAt ps x) (hs : ∀ y ∈ ps, y ∈ qs) : CutAt qs x := ⟨hs _ h.1, fun hx => hs _ (h.2 hx)⟩
set_option maxHeartbeats 8000000 in
theorem f86_ok (W : World) (h : AHeap) (a : Option Addr) (n c : Nat) (vs : List Value) (ls : List (List (Int × Int))) (hL : LsV W h 2 rngV (.slice a n c) vs ls) (hn : vs.length = n) (hr : ∀ l ∈ ls, ∀ x ∈ l, (0 ≤ x.1 ∧ x.1 ≤ 1114111) ∧ 0 ≤ x.2 ∧ x.2 ≤ 1114111)
    (hln : n < 1073741824) (hb : ∀ l ∈ ls, l.length < 1073741824) (hb2 : ls.flatten.length < 500000000) :
    ACalls Tryz.prog W 86 [.slice a n c] h (fun r h' => (∃ ps b bc, r = .slice b ps.length bc ∧ OwnV h.next h' b bc 1 (ps.map runeV) ∧ Pts ps ∧ (∀ l ∈ ls, ∀ x ∈ l, CutAt ps x) ∧ ps.length ≤ 1 + 2 * ls.flatten.length) ∧ Keeps h h') := by
  refine ACalls_ofX hmix c86 (Nat.le_of_ble_eq_true rfl) ?_
  unfold r86
  dsimp only [Rc.t, Rc.u, Rc.v, Rc.o, Rc.i, Rc.p, Rc.q, Rc.s, Rc.b, Rc.k, Rc.g, Rc.S, Rc.D]
  simp only [envOf1]
  have hP0 : Pts [0] := ⟨by simp, rfl, fun y hy => by simp at hy; subst hy; decide⟩
  have hk0 : Keeps h (h.new (.cells [.int .i32 0])) := (Keeps.refl h).new _
  have ho0 : OwnV h.next (h.new (.cells [.int .i32 0])) (some ⟨h.next, 0, some 0⟩) 1 1 (([0] : List Int).map runeV) :=
    .inr ⟨_, rfl, rfl, Nat.le_refl _, by rw [AHeap.new_get, if_pos rfl]; rfl, fun e he => by simp at he; subst he; rfl, by rw [AHeap.new_next]; omega⟩
  repeat refine zs ?_
  refine WPX.loop hmix (fun k σ => ∃ (i : Nat) (b : Option Addr) (bc : Nat) (ps : List Int), i ≤ n ∧ k = n - i ∧ eget σ.e 9 = .slice a n c ∧ eget σ.e 10 = .int .i64 n ∧ eget σ.e 11 = .int .i64 (i : Nat) ∧ eget σ.e 3 = .slice b ps.length bc ∧
    Keeps h σ.h ∧ OwnV h.next σ.h b bc 1 (ps.map runeV) ∧ Pts ps ∧ Hid (∀ l ∈ ls.take i, ∀ x ∈ l, CutAt ps x) ∧ Hid (ps.length ≤ 1 + 2 * (ls.take i).flatten.length)) n ?h0 ?round
  case h0 => exact ⟨0, _, _, [0], Nat.zero_le _, rfl, zv, zv, zv, (by simp only [rop, opd, celsL, oneV, aadd, binV, isSh, intBin, scEq, keq, unV, fillL, oP, oA, oS, wantedA, BX, BL, BS, seval, *, List.length_cons, List.length_nil]), hk0, ho0, hP0, (fun l hl => by simp at hl), by show _ ≤ _; simp⟩
  clear hP0 hk0 ho0
  rintro k ⟨e, hh⟩ ⟨i, b, bc, ps, hi, rfl, e9, e10, e11, e3, hk, ho, hP, hC, hN⟩
  dsimp only at e9 e10 e11 e3 hk ho
  by_cases hlt : i < n
  · have hltI : (i : Int) < n := by omega
    have hwi : IntKind.i64.wrap ((i : Int) + 1) = ((i + 1 : Nat) : Int) := wrap_i64 (by omega) (by omega)
    obtain ⟨x, hx⟩ : ∃ x, vs[i]? = some x := ⟨_, List.getElem?_eq_getElem (by omega)⟩
    obtain ⟨l, hl⟩ : ∃ l, ls[i]? = some l := ⟨_, List.getElem?_eq_getElem (by have := hL.len; omega)⟩
    have hlm := List.mem_of_getElem? hl
    have hll := hb l hlm
    have hlr := hr l hlm
    obtain ⟨d, hd1, hrd, _⟩ := Sl.one (f := hdrV) (hL.out.keeps hk) hx (u := x) rfl
    have hxs := hL.inner i x l hx hl
    obtain ⟨xa, xc, hxe⟩ := hxs.len
    rw [List.length_map] at hxe
    subst hxe
    obtain ⟨p, hp⟩ : ∃ p, p = l.length := ⟨_, rfl⟩
    rw [← hp] at hxs hrd hll
    replace hp : Hid (p = l.length) := hp
    have htk : ls.take (i + 1) = ls.take i ++ [l] := by rw [List.take_add_one, hl]; rfl
    have htl : (ls.take i).flatten.length + l.length ≤ ls.flatten.length := by
      have e := congrArg List.length (congrArg List.flatten (List.take_append_drop (i + 1) ls))
      rw [List.flatten_append, List.length_append, htk, List.flatten_append, List.length_append] at e
      simp only [List.flatten_cons, List.flatten_nil, List.append_nil] at e
      omega
    replace htk : Hid (ls.take (i + 1) = ls.take i ++ [l]) := htk
    clear hx hl
    repeat refine zs ?_
    refine WPX.loop hmix (fun k σ => ∃ (q : Nat) (b : Option Addr) (bc : Nat) (ps : List Int), q ≤ p ∧ k = p - q ∧ eget σ.e 9 = .slice a n c ∧ eget σ.e 10 = .int .i64 n ∧ eget σ.e 11 = .int .i64 (i : Nat) ∧ eget σ.e 3 = .slice b ps.length bc ∧
      eget σ.e 15 = .slice xa p xc ∧ eget σ.e 16 = .int .i64 p ∧ eget σ.e 17 = .int .i64 (q : Nat) ∧
      Keeps h σ.h ∧ OwnV h.next σ.h b bc 1 (ps.map runeV) ∧ Pts ps ∧ Hid ((∀ l ∈ ls.take i, ∀ x ∈ l, CutAt ps x) ∧ ∀ x ∈ l.take q, CutAt ps x) ∧ Hid (ps.length ≤ 1 + 2 * ((ls.take i).flatten.length + q))) p ?h1 ?round1
    case h1 => exact ⟨0, b, bc, ps, Nat.zero_le _, rfl, zv, zv, zv, zv, zv, zv, zv, hk, ho, hP, ⟨hC.out, fun x hx => by simp at hx⟩, hN⟩
    clear hk ho hP hC hN e9 e10 e11 e3 hd1 hrd
    rintro k ⟨e2, h2⟩ ⟨q, b, bc, ps, hq, rfl, e9, e10, e11, e3, e15, e16, e17, hk, ho, hP, hC, hN⟩
    dsimp only at e9 e10 e11 e3 e15 e16 e17 hk ho
    by_cases hqp : q < p
    · have hqpI : (q : Int) < p := by omega
      have hwq : IntKind.i64.wrap ((q : Int) + 1) = ((q + 1 : Nat) : Int) := wrap_i64 (by omega) (by omega)
      obtain ⟨⟨f, t⟩, hx⟩ : ∃ x, l[q]? = some x := ⟨_, List.getElem?_eq_getElem (by have := hp.out; omega)⟩
      have hxr := hlr _ (List.mem_of_getElem? hx)
      simp only at hxr
      obtain ⟨d, hd1, _, hd3⟩ := (hxs.keeps hk).at (i := q) (x := rngV (f, t)) (by simp [hx])
      have hld := aloadN_of _ _ hd3
      simp only [rngV, List.length_cons, List.length_nil, Nat.reduceAdd] at hld
      obtain ⟨H1, hH1⟩ : ∃ H1, H1 = (h2.new (.cells [.int .i32 0, .int .i32 0])).put h2.next (.cells [.int .i32 f, .int .i32 t]) := ⟨_, rfl⟩
      have hkk : Keeps h2 H1 := by rw [hH1]; exact ((Keeps.refl h2).new _).put (Nat.le_refl _) _
      have hn1 : H1.next = h2.next + 1 := by rw [hH1]; rfl
      have hg1 : H1.own.get h2.next = some (.cells [.int .i32 f, .int .i32 t]) := by rw [hH1, AHeap.put_get, if_pos rfl]
      have hwt : IntKind.i32.wrap (t + 1) = t + 1 := wrap_i32 (by omega) (by omega)
      have hkh := hk.le
      have hpl : ps.length < 1073741820 := by have := hN.out; have := hp.out; omega
      have h114 := f114_ok W H1 h.next b ps.length bc ps f (ho.keeps hkk) rfl (by omega) hP (by omega) (by omega)
      have htq : Hid (l.take (q + 1) = l.take q ++ [(f, t)]) := by show _ = _; rw [List.take_add_one, hx]; rfl
      rw [hH1] at h114
      clear hd3 hx
      repeat refine zs ?_
      refine x_draws (d_eff (by kernel_rfl) ?_)
      repeat refine zs ?_
      refine aop_callK rfl zv za h114 ?_
      rintro r3 h3 ⟨ps3, b3, bc3, rfl, ho3, hP3, hm3, hl3, hk3⟩
      clear h114
      rw [← hH1] at hk3
      have hg3 : h3.own.get h2.next = some (.cells [.int .i32 f, .int .i32 t]) := by rw [hk3.same _ (by omega)]; exact hg1
      have hk3n := hk3.le
      have h114 := f114_ok W h3 h.next b3 ps3.length bc3 ps3 (t + 1) ho3 rfl (by omega) hP3 (by omega) (by omega)
      refine d_chk (by kernel_rfl) ?chk1 ?_
      case chk1 =>
        intro o ho
        simp only [List.mem_cons, List.not_mem_nil, or_false] at ho
        rcases ho with rfl | rfl | rfl <;> simp only [Chk, kindOf, dval, rop, opd, celsL, oneV, aadd, binV, isSh, intBin, scEq, keq, unV, fillL, oP, oA, oS, wantedA, BX, BL, BS, seval, *]
      refine aop_callK rfl zv za h114 ?_
      rintro r4 h4 ⟨ps4, b4, bc4, rfl, ho4, hP4, hm4, hl4, hk4⟩
      clear h114
      refine d_eff (by kernel_rfl) ?_
      repeat refine zs ?_
      refine aop_do zr ?_
      refine d_pure (by kernel_rfl) ?_
      have hkf : Keeps h h4 := ((hk.trans hkk).trans hk3).trans hk4
      have hsup : ∀ y ∈ ps, y ∈ ps4 := fun y hy => (hm4 y).2 (.inl ((hm3 y).2 (.inl hy)))
      have hC' : Hid ((∀ l ∈ ls.take i, ∀ x ∈ l, CutAt ps4 x) ∧ ∀ x ∈ l.take (q + 1), CutAt ps4 x) := by
        refine ⟨fun l hl x hx => (hC.out.1 l hl x hx).mono hsup, fun x hx => ?_⟩
        rw [htq.out] at hx
        rcases List.mem_append.1 hx with hx | hx
        · exact (hC.out.2 x hx).mono hsup
        · simp at hx; subst hx
          exact ⟨(hm4 _).2 (.inl ((hm3 _).2 (.inr ⟨rfl, hxr.1.2⟩))), fun h1 => (hm4 _).2 (.inr ⟨rfl, h1⟩)⟩
      have hN' : Hid (ps4.length ≤ 1 + 2 * ((ls.take i).flatten.length + (q + 1))) := by
        show _ ≤ _
        have := hN.out; omega
      clear hC hm3 hm4
      repeat refine zs ?_
      exact ⟨p - (q + 1), by omega, q + 1, b4, bc4, ps4, by omega, rfl, zv, zv, zv, zv, zv, zv, zv, hkf, ho4, hP4, hC', hN'⟩
    · have hqpI : ¬ (q : Int) < p := by omega
      have hqe : q = p := by omega
      have hC' : Hid (∀ l ∈ ls.take (i + 1), ∀ x ∈ l, CutAt ps x) := by
        intro l2 hl2 x hx
        rw [htk.out] at hl2
        rcases List.mem_append.1 hl2 with hl2 | hl2
        · exact hC.out.1 l2 hl2 x hx
        · simp at hl2; subst hl2
          exact hC.out.2 x (by rw [hqe, hp.out, List.take_length]; exact hx)
      have hN' : Hid (ps.length ≤ 1 + 2 * (ls.take (i + 1)).flatten.length) := by
        show _ ≤ _
        rw [htk.out, List.flatten_append, List.length_append]
        have := hN.out; have := hp.out
        simp only [List.flatten_cons, List.flatten_nil, List.append_nil]
        omega
      clear hqe
      repeat refine zs ?_
      exact ⟨n - (i + 1), by omega, i + 1, b, bc, ps, by omega, rfl, zv, zv, zv, zv, hk, ho, hP, hC', hN'⟩
  · have hltI : ¬ (i : Int) < n := by omega
    have hin : ls.take i = ls := List.take_of_length_le (by have := hL.len; omega)
    have hC2 := hC.out
    have hN2 := hN.out
    rw [hin] at hC2 hN2
    clear hin hC hN
    repeat refine zs ?_
    refine ⟨.inr rfl, _, rfl, ⟨ps, b, bc, ?_, ho, hP, hC2, hN2⟩, hk⟩
    simp only [resOf, rop, opd, celsL, oneV, aadd, binV, isSh, intBin, scEq, keq, unV, fillL, oP, oA, oS, wantedA, BX, BL, BS, seval, *]
end Go.Proofs.YtlipmjpapkfaeaaGreatDoor.Fn
end
section
set_option linter.unusedSimpArgs false
set_option linter.unusedVariables false
namespace Go.Mach
open Go Go.RowKit
structure T3 {α : Type} (W : World) (N : Nat) (S : Nat → Prop) (hh : AHeap) (kz : Nat) (ka : Option Addr) (kc : Nat) (KL : List (List Value)) (fa : Option Addr) (fc : Nat) (FL : List (List Value)) (esz : Nat) (f : α → List Value) (na : Option Addr) (nc : Nat) (vs : List Value) (ls : List (List α)) (g : AHeap)
    (la : Option Addr) (lc : Nat) (l : List α) : Prop where
  nx : N ≤ hh.next
  keys : OwnV N hh ka kc kz KL
  fin : OwnV N hh fa fc 1 FL
  out : LL W N hh esz f na nc vs ls g
  row : OwnV N hh la lc esz (l.map f)
  kf : Apart ka fa
  ko : Apart ka na
  fo : Apart fa na
  lk : Apart la ka
  lf : Apart la fa
  lo : Apart la na
  gk : ∀ x, ka = some x → g.own.get x.block = none
  gf : ∀ x, fa = some x → g.own.get x.block = none
  gl : ∀ x, la = some x → g.own.get x.block = none
  st : ∀ i, S i → i < hh.next ∧ NotIn ka i ∧ NotIn fa i ∧ NotIn na i ∧ NotIn la i ∧ g.own.get i = none
theorem fresh_none {g hh : AHeap} (s : Mach.Sub g hh) {i : Nat} (h : hh.next ≤ i) : g.own.get i = none := by
  cases hg : g.own.get i with
  | none => rfl
  | some b => have := (s.same _ _ hg).1; omega
theorem new_none {g hh : AHeap} (s : Mach.Sub g hh) {a' : Option Addr} (hn : ∀ i, i < hh.next → NotIn a' i) : ∀ x, a' = some x → g.own.get x.block = none := fun x hx => by
  cases hg : g.own.get x.block with
  | none => rfl
  | some b => exact absurd rfl (hn x.block (s.same _ _ hg).1 x hx)
theorem Keeps.from {hh : AHeap} {N : Nat} (h : N ≤ hh.next) : Keeps ⟨hh.own, N⟩ hh := ⟨h, fun _ _ => rfl⟩
section
variable {α : Type} {W : World} {N : Nat} {S : Nat → Prop} {hh : AHeap} {kz : Nat} {ka : Option Addr} {kc : Nat} {KL : List (List Value)} {fa : Option Addr} {fc : Nat} {FL : List (List Value)} {esz : Nat} {f : α → List Value} {na : Option Addr} {nc : Nat} {vs : List Value} {ls : List (List α)} {g : AHeap}
  {la : Option Addr} {lc : Nat} {l : List α}
theorem LL.step {a : Option Addr} {h' : AHeap} (o : LL W N hh esz f na nc vs ls g) (hs : ∀ i, i < hh.next → NotIn a i → h'.own.get i = hh.own.get i) (hn : hh.next ≤ h'.next) (hap : Apart na a) (hg : ∀ x, a = some x → g.own.get x.block = none) : LL W N h' esz f na nc vs ls g :=
  ⟨o.out.other hs hn hap, o.sub.step hs hn hg, o.g0, o.ga, o.len, o.inner⟩
theorem T3.keeps {h' : AHeap} (T : T3 W N S hh kz ka kc KL fa fc FL esz f na nc vs ls g la lc l) (k : Keeps hh h') : T3 W N S h' kz ka kc KL fa fc FL esz f na nc vs ls g la lc l :=
  ⟨Nat.le_trans T.nx k.le, T.keys.keeps k, T.fin.keeps k, T.out.keeps k, T.row.keeps k, T.kf, T.ko, T.fo, T.lk, T.lf, T.lo, T.gk, T.gf, T.gl, fun i hi => ⟨Nat.lt_of_lt_of_le (T.st i hi).1 k.le, (T.st i hi).2⟩⟩
theorem T3.mark {h' : AHeap} (T : T3 W N S hh kz ka kc KL fa fc FL esz f na nc vs ls g la lc l) (k : Keeps hh h') {j : Nat} (hj : hh.next ≤ j) (hj' : j < h'.next) : T3 W N (fun i => S i ∨ i = j) h' kz ka kc KL fa fc FL esz f na nc vs ls g la lc l :=
  ⟨Nat.le_trans T.nx k.le, T.keys.keeps k, T.fin.keeps k, T.out.keeps k, T.row.keeps k, T.kf, T.ko, T.fo, T.lk, T.lf, T.lo, T.gk, T.gf, T.gl, fun i hi => by
    rcases hi with hi | rfl
    · exact ⟨Nat.lt_of_lt_of_le (T.st i hi).1 k.le, (T.st i hi).2⟩
    · exact ⟨hj', T.keys.notNew hj, T.fin.notNew hj, T.out.out.notNew hj, T.row.notNew hj, fresh_none T.out.sub hj⟩⟩
theorem T3.less {S' : Nat → Prop} (T : T3 W N S hh kz ka kc KL fa fc FL esz f na nc vs ls g la lc l) (hS : ∀ i, S' i → S i) : T3 W N S' hh kz ka kc KL fa fc FL esz f na nc vs ls g la lc l :=
  ⟨T.nx, T.keys, T.fin, T.out, T.row, T.kf, T.ko, T.fo, T.lk, T.lf, T.lo, T.gk, T.gf, T.gl, fun i hi => T.st i (hS i hi)⟩
theorem T3.put (T : T3 W N S hh kz ka kc KL fa fc FL esz f na nc vs ls g la lc l) {j : Nat} (hj : S j) (b : ABlk) : T3 W N S (hh.put j b) kz ka kc KL fa fc FL esz f na nc vs ls g la lc l := by
  have kb : KeepsBut (fun i => i = j) hh (hh.put j b) := KeepsBut.put (M := fun i => i = j) (KeepsBut.refl _ hh) (.inr rfl) b
  obtain ⟨h1, h2, h3, h4, h5, h6⟩ := T.st j hj
  exact ⟨T.nx, T.keys.but kb fun y hy e => h2 y hy e, T.fin.but kb fun y hy e => h3 y hy e, T.out.but kb (fun i e => by rw [e]; exact h6) fun y hy e => h4 y hy e, T.row.but kb fun y hy e => h5 y hy e, T.kf, T.ko, T.fo, T.lk, T.lf, T.lo, T.gk, T.gf, T.gl, T.st⟩
theorem T3.pushKey (T : T3 W N S hh kz ka kc KL fa fc FL esz f na nc vs ls g la lc l) {b' n : Nat} {e : List Value} (hn : KL.length = n) (hb : hh.own.get b' = some (.cells e)) (hb' : b' < hh.next) (he : e.length = kz) (h1 : e.all oneV = true) (hs : n + 1 ≤ 1073741824) :
    ∃ a' c' h', appA W hh kz (.slice ka n kc) (.slice (some ⟨b', 0, some 0⟩) 1 kz) = some (.slice a' (n + 1) c', h') ∧ T3 W N S h' kz a' c' (KL ++ [e]) fa fc FL esz f na nc vs ls g la lc l ∧ h'.next = hh.next + 1 ∧ (∀ i, S i → h'.own.get i = hh.own.get i) := by
  subst hn
  obtain ⟨a', c', h', g1, g2, g3, g4, g5, g6⟩ := OwnV.app (W := W) T.keys (Keeps.from T.nx) (Nat.le_refl _) T.nx hb hb' he h1 hs
  rw [List.length_append, List.length_singleton] at g1
  have hn' : hh.next ≤ h'.next := by omega
  refine ⟨a', c', h', g1, ⟨Nat.le_trans T.nx hn', g2, T.fin.other g5 hn' T.kf.symm, T.out.step g5 hn' T.ko.symm T.gk, T.row.other g5 hn' T.lk, (T.fin.apartNew g6).symm, (T.out.out.apartNew g6).symm, T.fo, T.row.apartNew g6, T.lf, T.lo, new_none T.out.sub g6, T.gf, T.gl, fun i hi => ?_⟩, g4, fun i hi => g5 i (T.st i hi).1 (T.st i hi).2.1⟩
  obtain ⟨h1, h2, h3⟩ := T.st i hi
  exact ⟨by omega, g6 i h1, h3⟩
theorem T3.pushFin (T : T3 W N S hh kz ka kc KL fa fc FL esz f na nc vs ls g la lc l) {b' n : Nat} {e : List Value} (hn : FL.length = n) (hb : hh.own.get b' = some (.cells e)) (hb' : b' < hh.next) (he : e.length = 1) (h1 : e.all oneV = true) (hs : n + 1 ≤ 1073741824) :
    ∃ a' c' h', appA W hh 1 (.slice fa n fc) (.slice (some ⟨b', 0, some 0⟩) 1 1) = some (.slice a' (n + 1) c', h') ∧ T3 W N S h' kz ka kc KL a' c' (FL ++ [e]) esz f na nc vs ls g la lc l ∧ h'.next = hh.next + 1 ∧ (∀ i, S i → h'.own.get i = hh.own.get i) := by
  subst hn
  obtain ⟨a', c', h', g1, g2, g3, g4, g5, g6⟩ := OwnV.app (W := W) T.fin (Keeps.from T.nx) (Nat.le_refl _) T.nx hb hb' he h1 hs
  rw [List.length_append, List.length_singleton] at g1
  have hn' : hh.next ≤ h'.next := by omega
  refine ⟨a', c', h', g1, ⟨Nat.le_trans T.nx hn', T.keys.other g5 hn' T.kf, g2, T.out.step g5 hn' T.fo.symm T.gf, T.row.other g5 hn' T.lf, T.keys.apartNew g6, T.ko, (T.out.out.apartNew g6).symm, T.lk, T.row.apartNew g6, T.lo, T.gk, new_none T.out.sub g6, T.gl, fun i hi => ?_⟩, g4, fun i hi => g5 i (T.st i hi).1 (T.st i hi).2.2.1⟩
  obtain ⟨h1, h2, h3, h4⟩ := T.st i hi
  exact ⟨by omega, h2, g6 i h1, h4⟩
theorem T3.pushRow (T : T3 W N S hh kz ka kc KL fa fc FL esz f na nc vs ls g la lc l) {b' n : Nat} {x : α} (hn : l.length = n) (hb : hh.own.get b' = some (.cells (f x))) (hb' : b' < hh.next) (he : (f x).length = esz) (h1 : (f x).all oneV = true) (hs : n + 1 ≤ 1073741824) :
    ∃ a' c' h', appA W hh esz (.slice la n lc) (.slice (some ⟨b', 0, some 0⟩) 1 esz) = some (.slice a' (n + 1) c', h') ∧ T3 W N S h' kz ka kc KL fa fc FL esz f na nc vs ls g a' c' (l ++ [x]) ∧ h'.next = hh.next + 1 ∧ (∀ i, S i → h'.own.get i = hh.own.get i) := by
  subst hn
  obtain ⟨a', c', h', g1, g2, g3, g4, g5, g6⟩ := OwnV.app (W := W) T.row (Keeps.from T.nx) (Nat.le_refl _) T.nx hb hb' he h1 (by rw [List.length_map]; exact hs)
  rw [List.length_append, List.length_singleton, List.length_map] at g1
  have e1 : l.map f ++ [f x] = (l ++ [x]).map f := by simp
  rw [e1] at g2
  have hn' : hh.next ≤ h'.next := by omega
  refine ⟨a', c', h', g1, ⟨Nat.le_trans T.nx hn', T.keys.other g5 hn' T.lk.symm, T.fin.other g5 hn' T.lf.symm, T.out.step g5 hn' T.lo.symm T.gl, g2, T.kf, T.ko, T.fo, (T.keys.apartNew g6).symm, (T.fin.apartNew g6).symm, (T.out.out.apartNew g6).symm, T.gk, T.gf, new_none T.out.sub g6, fun i hi => ?_⟩, g4, fun i hi => g5 i (T.st i hi).1 (T.st i hi).2.2.2.2.1⟩
  obtain ⟨h1, h2, h3, h4, h5, h6⟩ := T.st i hi
  exact ⟨by omega, h2, h3, h4, g6 i h1, h6⟩
theorem T3.rowBut (T : T3 W N S hh kz ka kc KL fa fc FL esz f na nc vs ls g la lc l) {h' : AHeap} {a' : Option Addr} {c' : Nat} {l' : List α} (o : OwnV N h' a' c' esz (l'.map f)) (k : KeepsBut (fun i => ∃ y, la = some y ∧ y.block = i) hh h') (hnew : ∀ x, a' = some x → (∃ y, la = some y ∧ y.block = x.block) ∨ hh.next ≤ x.block) :
    T3 W N S h' kz ka kc KL fa fc FL esz f na nc vs ls g a' c' l' ∧ (∀ i, S i → h'.own.get i = hh.own.get i) := by
  have ap : ∀ {a : Option Addr}, Apart la a → (∀ y, a = some y → y.block < hh.next) → Apart a' a := fun hap hlt x y hx hy e => by
    rcases hnew x hx with ⟨z, hz, hzx⟩ | hx'
    · exact hap z y hz hy (by omega)
    · have := hlt y hy; omega
  have nt : ∀ {a : Option Addr}, Apart la a → ∀ y, a = some y → ¬ ∃ z, la = some z ∧ z.block = y.block := fun hap y hy ⟨z, hz, e⟩ => hap z y hz hy e
  refine ⟨⟨Nat.le_trans T.nx k.le, T.keys.but k (nt T.lk), T.fin.but k (nt T.lf), T.out.but k (fun i ⟨z, hz, e⟩ => by rw [← e]; exact T.gl z hz) (nt T.lo), o, T.kf, T.ko, T.fo, ap T.lk fun y hy => (T.keys.lt hy).2, ap T.lf fun y hy => (T.fin.lt hy).2, ap T.lo fun y hy => (T.out.out.lt hy).2, T.gk, T.gf, fun x hx => ?_, fun i hi => ?_⟩, fun i hi => ?_⟩
  · rcases hnew x hx with ⟨z, hz, hzx⟩ | hx'
    · rw [← hzx]; exact T.gl z hz
    · exact fresh_none T.out.sub hx'
  · obtain ⟨h1, h2, h3, h4, h5, h6⟩ := T.st i hi
    refine ⟨Nat.lt_of_lt_of_le h1 k.le, h2, h3, h4, fun x hx e => ?_, h6⟩
    rcases hnew x hx with ⟨z, hz, hzx⟩ | hx'
    · exact h5 z hz (by omega)
    · omega
  · exact k.same i (T.st i hi).1 fun ⟨z, hz, e⟩ => (T.st i hi).2.2.2.2.1 z hz e
theorem T3.pushOut (T : T3 W N S hh kz ka kc KL fa fc FL esz f na nc vs ls g la lc l) {b' n m : Nat} (hn : vs.length = n) (hm : l.length = m) (hb : hh.own.get b' = some (.cells [.slice la m lc])) (hb' : b' < hh.next) (hs : n + 1 ≤ 1073741824) :
    ∃ a' c' h', appA W hh 1 (.slice na n nc) (.slice (some ⟨b', 0, some 0⟩) 1 1) = some (.slice a' (n + 1) c', h') ∧ (∃ g', T3 W N S h' kz ka kc KL fa fc FL esz f a' c' (vs ++ [.slice la m lc]) (ls ++ [l]) g' none 0 []) ∧ h'.next = hh.next + 1 ∧ (∀ i, S i → h'.own.get i = hh.own.get i) := by
  subst hn
  obtain ⟨a', c', h', g1, g2, g3, g4, g5, g', g6, g7⟩ := T.out.push (W := W) (Keeps.from T.nx) (Nat.le_refl _) T.nx T.row T.lo T.gl hm hb hb' hs
  have hn' : hh.next ≤ h'.next := by omega
  have hg : ∀ {a : Option Addr}, Apart la a → (∀ x, a = some x → g.own.get x.block = none) → ∀ x, a = some x → g'.own.get x.block = none := fun hap h x hx => g7 _ (h x hx) fun y hy e => hap y x hy hx e
  refine ⟨a', c', h', g1, ⟨g', Nat.le_trans T.nx hn', T.keys.other g4 hn' T.ko, T.fin.other g4 hn' T.fo, g6, OwnV.nil _ _ _, T.kf, T.keys.apartNew g5, T.fin.apartNew g5, Apart.none_l _, Apart.none_l _, Apart.none_l _, hg T.lk T.gk, hg T.lf T.gf, fun x hx => (by cases hx), fun i hi => ?_⟩, g3, fun i hi => g4 i (T.st i hi).1 (T.st i hi).2.2.2.1⟩
  obtain ⟨h1, h2, h3, h4, h5, h6⟩ := T.st i hi
  exact ⟨by omega, h2, h3, g5 i h1, fun x hx => (by cases hx), g7 i h6 fun y hy e => h5 y hy e⟩
end
end Go.Mach
end
