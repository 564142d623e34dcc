/- automaton.byClass (F81) in the machine. No condition but sizes.
Merged from 4 texts. -/
import Derived.Test.YtlipmjpapkfaeaaGreatDoorZD13
import Derived.Test.YtlipmjpapkfaeaaGreatDoorZD12
section
set_option linter.unusedSimpArgs false
set_option linter.unusedVariables false
set_option maxRecDepth 100000
namespace Go.Proofs.YtlipmjpapkfaeaaGreatDoor.Fn
open Go Go.Mach Go.RowKit Go.Proofs
attribute [local irreducible] AOps WPX DOps thenS blockS AOp GOps CPick
def InR (l : List Arc3) : Prop := ∀ x ∈ l, 0 ≤ x.1 ∧ x.1 ≤ x.2.1 ∧ x.2.1 ≤ 1114111
theorem addArc_in {l : List Arc3} {x : Arc3} (h : InR l) (hx : 0 ≤ x.1 ∧ x.1 ≤ x.2.1 ∧ x.2.1 ≤ 1114111) : InR (addArc l x) := by
  intro y hy
  rcases last_or l with rfl | ⟨l0, f, t, s, rfl⟩
  · rw [addArc_nil] at hy; simp at hy; subst hy; exact hx
  · by_cases hj : t + 1 = x.1 ∧ s = x.2.2
    · rw [addArc_join hj.1 hj.2] at hy
      rcases List.mem_append.1 hy with hy | hy
      · exact h y (by simp [hy])
      · simp at hy; subst hy
        have := h (f, t, s) (by simp)
        simp only at this ⊢; omega
    · rw [addArc_new hj] at hy
      rcases List.mem_append.1 hy with hy | hy
      · exact h y hy
      · simp at hy; subst hy; exact hx
theorem addArc_len (l : List Arc3) (x : Arc3) : (addArc l x).length ≤ l.length + 1 := by
  rcases last_or l with rfl | ⟨l0, f, t, s, rfl⟩
  · simp [addArc_nil]
  · by_cases hj : t + 1 = x.1 ∧ s = x.2.2
    · rw [addArc_join hj.1 hj.2]; simp
    · rw [addArc_new hj]; simp
def clsOf (cls : List Int) (x : Arc3) : Int := cls.getD x.2.2.toNat (-1)
def stepC (cls : List Int) (out : List Arc3) (x : Arc3) : List Arc3 := if clsOf cls x < 0 then out else addArc out (x.1, x.2.1, clsOf cls x)
def byClassM (cls : List Int) (l : List Arc3) : List Arc3 := l.foldl (stepC cls) []
theorem byClassM_succ {cls : List Int} {l : List Arc3} {j : Nat} {x : Arc3} (hx : l[j]? = some x) : byClassM cls (l.take (j + 1)) = stepC cls (byClassM cls (l.take j)) x := by
  unfold byClassM
  rw [List.take_add_one, hx, List.foldl_append]; rfl
theorem byClassM_in {cls : List Int} {l : List Arc3} (h : InR l) : InR (byClassM cls l) := by
  unfold byClassM
  have : ∀ (l out : List Arc3), InR l → InR out → InR (l.foldl (stepC cls) out) := by
    intro l
    induction l with
    | nil => intro out _ h; exact h
    | cons x l ih =>
      intro out hl ho
      refine ih _ (fun y hy => hl y (by simp [hy])) ?_
      unfold stepC; split
      · exact ho
      · exact addArc_in ho (hl x (by simp))
  exact this l [] h (fun x hx => by simp at hx)
theorem byClassM_len {cls : List Int} (l : List Arc3) : (byClassM cls l).length ≤ l.length := by
  unfold byClassM
  have : ∀ (l out : List Arc3), (l.foldl (stepC cls) out).length ≤ out.length + l.length := by
    intro l
    induction l with
    | nil => intro out; simp
    | cons x l ih =>
      intro out
      have h1 := ih (stepC cls out x)
      have h2 : (stepC cls out x).length ≤ out.length + 1 := by
        unfold stepC; split
        · omega
        · exact addArc_len _ _
      simp only [List.foldl_cons, List.length_cons]; omega
  simpa using this l []
set_option maxHeartbeats 4000000 in
theorem f81_ok (W : World) (h : AHeap) (v vc : Value) (l : List Arc3) (cls : List Int) (hs : Sl W h 3 v (l.map arcV)) (hc : Sl W h 1 vc (cls.map numV)) (hb : l.length < 1073741824) (hr : InR l)
    (hst : ∀ x ∈ l, 0 ≤ x.2.2 ∧ x.2.2.toNat < cls.length) :
    ACalls Tryz.prog W 81 [v, vc] h (fun r h' => (∃ a c, r = .slice a (byClassM cls l).length c ∧ OwnV h.next h' a c 3 ((byClassM cls l).map arcV)) ∧ Keeps h h') := by
  obtain ⟨la, lc, hls⟩ := hs.len
  rw [List.length_map] at hls
  subst hls
  obtain ⟨ca, cc, hcs⟩ := hc.len
  rw [List.length_map] at hcs
  subst hcs
  refine ACalls_ofX hmix c81 (Nat.le_of_ble_eq_true rfl) ?_
  unfold r81
  dsimp only [Rc.t, Rc.u, Rc.v, Rc.o, Rc.i, Rc.p, Rc.q, Rc.s, Rc.b, Rc.k, Rc.g, Rc.S, Rc.D]
  simp only [envOf2]
  repeat refine zs ?_
  refine WPX.loop hmix (fun k σ => ∃ (j : Nat) (L : List Arc3) (a : Option Addr) (c : Nat), j ≤ l.length ∧ k = l.length - j ∧ eget σ.e 1 = .slice ca cls.length cc ∧ eget σ.e 5 = .slice a L.length c ∧ eget σ.e 10 = .slice la l.length lc ∧ eget σ.e 11 = .int .i64 l.length ∧
    eget σ.e 12 = .int .i64 (j : Nat) ∧ Keeps h σ.h ∧ OwnV h.next σ.h a c 3 (L.map arcV) ∧ Hid (L = byClassM cls (l.take j))) l.length ?h0 ?round
  case h0 => exact ⟨0, [], none, 0, Nat.zero_le _, rfl, zv, (by simp only [rop, opd, celsL, oneV, aadd, binV, isSh, intBin, scEq, keq, unV, fillL, oP, oA, oS, wantedA, BX, BL, BS, seval, *, List.length_nil]), zv, zv, zv, Keeps.refl h, OwnV.nil _ _ _, rfl⟩
  rintro k ⟨e, hh⟩ ⟨j, L, a, c, hj, rfl, e1, e5, e10, e11, e12, hk, ho, hL⟩
  dsimp only at e1 e5 e10 e11 e12 hk ho
  by_cases hjl : j < l.length
  · have hjlI : (j : Int) < l.length := by omega
    obtain ⟨⟨f, t, s⟩, hx⟩ : ∃ x, l[j]? = some x := ⟨_, List.getElem?_eq_getElem hjl⟩
    have hxl := List.mem_of_getElem? hx
    have hxr := hr _ hxl
    have hxs := hst _ hxl
    have hxj : (l.map arcV)[j]? = some (arcV (f, t, s)) := by simp [hx]
    obtain ⟨b, hb1, _, hb3⟩ := (hs.keeps hk).at hxj
    have hld := aloadN_of _ _ hb3
    simp only [arcV, List.length_cons, List.length_nil, Nat.reduceAdd] at hld
    simp only at hxr hxs
    obtain ⟨n, rfl⟩ : ∃ n : Nat, s = n := ⟨s.toNat, by omega⟩
    have hn : n < cls.length := by omega
    have hw1 : IntKind.i64.wrap ((j : Int) + 1) = ((j + 1 : Nat) : Int) := wrap_i64 (by omega) (by omega)
    obtain ⟨H1, hH1⟩ : ∃ H1, H1 = (hh.new (.cells [.int .i32 0, .int .i32 0, .int .i64 0])).put hh.next (.cells [.int .i32 f, .int .i32 t, .int .i64 n]) := ⟨_, rfl⟩
    have hkk : Keeps hh H1 := by rw [hH1]; exact ((Keeps.refl hh).new _).put (Nat.le_refl _) _
    have hn1 : H1.next = hh.next + 1 := by rw [hH1]; rfl
    have hg1 : H1.own.get hh.next = some (.cells [.int .i32 f, .int .i32 t, .int .i64 n]) := by rw [hH1, AHeap.put_get, if_pos rfl]
    have hk1 : Keeps h H1 := hk.trans hkk
    have ho1 : OwnV h.next H1 a c 3 (L.map arcV) := ho.keeps hkk
    have hkx : (cls.map numV)[n]? = some (numV cls[n]) := by simp [hn]
    obtain ⟨d, hd1, _, hd3⟩ := (hc.keeps hk1).at hkx
    have hcl := (hd3 0 (.int .i64 cls[n]) rfl).1
    have hdd : aadd d 0 = d := rfl
    rw [hdd] at hcl
    obtain ⟨q, hq⟩ : ∃ q, q = cls[n] := ⟨_, rfl⟩
    have hqo : clsOf cls (f, t, (n : Int)) = q := by rw [hq]; simp [clsOf, hn]
    rw [← hq] at hcl
    have hnx := byClassM_succ (cls := cls) hx
    rw [← hL.out] at hnx
    have hLl : L.length ≤ j := by rw [hL.out]; exact Nat.le_trans (byClassM_len _) (by simp; omega)
    have hLr : InR L := by rw [hL.out]; exact byClassM_in fun x hx => hr x (List.mem_of_mem_take hx)
    clear hb3 hxj hkx hd3 hq hx hxl
    by_cases hq0 : q < 0
    · have hL' : Hid (L = byClassM cls (l.take (j + 1))) := by show _ = _; rw [hnx]; unfold stepC; rw [hqo, if_pos hq0]
      clear hnx hqo hg1
      rw [hH1] at hcl
      repeat refine zs ?_
      refine ⟨l.length - (j + 1), by omega, j + 1, L, a, c, by omega, rfl, zv, zv, zv, zv, zv, ?_, ?_, hL'⟩
      · rw [hH1] at hk1; exact hk1
      · rw [hH1] at ho1; exact ho1
    · have hL' : Hid (addArc L (f, t, q) = byClassM cls (l.take (j + 1))) := by show _ = _; rw [hnx]; unfold stepC; rw [hqo, if_neg hq0]
      clear hnx hqo
      have newArc : ∀ (hadd : addArc L (f, t, q) = L ++ [(f, t, q)]), ∃ a' c' h3, appA W (H1.new (.cells [.int .i32 f, .int .i32 t, .int .i64 q])) 3 (.slice a L.length c) (.slice (some ⟨hh.next + 1, 0, some 0⟩) 1 3) = some (.slice a' (addArc L (f, t, q)).length c', h3) ∧ OwnV h.next h3 a' c' 3 ((addArc L (f, t, q)).map arcV) ∧ Keeps h h3 := by
        intro hadd
        obtain ⟨a', c', h3, g1, g2, g3, _⟩ := OwnV.app (W := W) (h0 := h) (h := H1.new (.cells (arcV (f, t, q)))) (b' := hh.next + 1) (e := arcV (f, t, q)) (ho1.keeps ((Keeps.refl _).new _)) (hk1.new _) (Nat.le_refl _)
          (Nat.le_trans hk1.le (by rw [AHeap.new_next]; omega)) (by rw [AHeap.new_get, hn1, if_pos rfl]) (by rw [AHeap.new_next]; omega) rfl rfl (by simp; omega)
        refine ⟨a', c', h3, ?_, ?_, g3⟩
        · rw [List.length_map, List.length_append, List.length_map, List.length_singleton] at g1
          rw [hadd, List.length_append, List.length_singleton]
          exact g1
        · rw [hadd, List.map_append]; exact g2
      rcases last_or L with hnil | ⟨l0, f', t', s', hl0⟩
      · have hgt : ¬ (L.length : Int) > 0 := by rw [hnil]; simp
        obtain ⟨a', c', h3, happ, ho3, hk3⟩ := newArc (by rw [hnil]; rfl)
        obtain ⟨L', hLe⟩ : ∃ L', L' = addArc L (f, t, q) := ⟨_, rfl⟩
        rw [← hLe] at happ ho3 hL'
        clear hnil newArc hLr hLe hg1
        rw [hH1] at hcl happ
        repeat refine zs ?_
        exact ⟨l.length - (j + 1), by omega, j + 1, L', a', c', by omega, rfl, zv, zv, zv, zv, zv, hk3, ho3, hL'⟩
      · have hgt : (L.length : Int) > 0 := by rw [hl0]; simp <;> omega
        rcases ho1 with ⟨_, _, hnil⟩ | ⟨b', rfl, rfl, hb1', hb2'⟩
        · rw [hl0] at hnil; simp at hnil
        have hb2'' := hb2'
        rw [hl0] at hb2''
        obtain ⟨C, hC, hC1, hC2, hble, C2, hsp, ho2⟩ := Ow.lastArc hb2'' t
        obtain ⟨m, hm⟩ : ∃ m, m = l0.length := ⟨_, rfl⟩
        rw [← hm] at hC1 hC2 hble hsp
        have hLm : L.length = m + 1 := by rw [hl0, hm]; simp
        have hwm : IntKind.i64.wrap ((L.length : Int) - 1) = (m : Int) := (wrap_i64 (by omega) (by omega)).trans (by omega)
        have hidx : idxV 3 (.slice (some ⟨b', 0, some 0⟩) L.length 3) (.int .i64 m) = some (.pointer (some ⟨b', m * 3, some 0⟩)) := idx_own (by omega)
        have hlast := hLr (f', t', s') (by rw [hl0]; simp)
        simp only at hlast
        have hwt : IntKind.i32.wrap (t' + 1) = t' + 1 := wrap_i32 (by omega) (by omega)
        have hblt : b' < hh.next := (ho.lt rfl).2
        have hbne : ¬ b' = hh.next := by omega
        have hCh : hh.own.get b' = some (.cells C) := by rw [hH1, AHeap.put_get, if_neg hbne, AHeap.new_get, if_neg hbne] at hC; exact hC
        by_cases hjoin : t' + 1 = f ∧ s' = q
        · have hadd : addArc L (f, t, q) = l0 ++ [(f', t, s')] := by rw [hl0]; exact addArc_join hjoin.1 hjoin.2
          obtain ⟨L', hLe⟩ : ∃ L', L' = addArc L (f, t, q) := ⟨_, rfl⟩
          have hLe' : L' = l0 ++ [(f', t, s')] := by rw [hLe, hadd]
          rw [← hLe] at hL'
          rw [← hLe'] at ho2
          have hlen : L'.length = L.length := by rw [hLe', hl0]; simp
          have hj1 : decide (t' + 1 = f) = true := decide_eq_true hjoin.1
          have hj2 : decide (s' = q) = true := decide_eq_true hjoin.2
          have hov : OwnV h.next (H1.put b' (.cells C2)) (some ⟨b', 0, some 0⟩) 3 3 (L'.map arcV) := .inr ⟨b', rfl, rfl, hb1', ho2⟩
          have hk3 : Keeps h (H1.put b' (.cells C2)) := hk1.put hb1' _
          clear hjoin hadd hLe hLe' newArc hLr hl0 hm ho2 hb2' hb2'' hC hLm
          rw [hH1] at hcl
          repeat refine zs ?_
          refine ⟨l.length - (j + 1), by omega, j + 1, L', some ⟨b', 0, some 0⟩, 3, by omega, rfl, zv, zv, zv, zv, zv, ?_, ?_, hL'⟩
          · rw [hH1] at hk3; exact hk3
          · rw [hH1] at hov; exact hov
        · have hadd : addArc L (f, t, q) = L ++ [(f, t, q)] := by rw [hl0]; exact addArc_new hjoin
          obtain ⟨a', c', h3, happ, ho3, hk3⟩ := newArc hadd
          obtain ⟨L', hLe⟩ : ∃ L', L' = addArc L (f, t, q) := ⟨_, rfl⟩
          rw [← hLe] at happ ho3 hL'
          clear hadd hLe newArc hLr hl0 hm ho2 hb2' hb2'' hC hLm hsp hble
          rw [hH1] at hcl happ
          by_cases hj1 : t' + 1 = f
          · have hj1' : decide (t' + 1 = f) = true := decide_eq_true hj1
            have hj2 : ¬ s' = q := fun e => hjoin ⟨hj1, e⟩
            clear hj1 hjoin
            repeat refine zs ?_
            exact ⟨l.length - (j + 1), by omega, j + 1, L', a', c', by omega, rfl, zv, zv, zv, zv, zv, hk3, ho3, hL'⟩
          · clear hjoin
            repeat refine zs ?_
            exact ⟨l.length - (j + 1), by omega, j + 1, L', a', c', by omega, rfl, zv, zv, zv, zv, zv, hk3, ho3, hL'⟩
  · have hjlI : ¬ (j : Int) < l.length := by omega
    have hL2 : L = byClassM cls l := by rw [hL.out, List.take_of_length_le (by omega)]
    rw [← hL2]
    clear hL2 hL
    repeat refine zs ?_
    refine ⟨.inr rfl, _, rfl, ⟨a, c, ?_, ho⟩, hk⟩
    simp only [resOf, rop, opd, celsL, oneV, aadd, binV, isSh, intBin, scEq, keq, unV, fillL, oP, oA, oS, wantedA, BX, BL, BS, seval, *]
end Go.Proofs.YtlipmjpapkfaeaaGreatDoor.Fn
end
section
set_option linter.unusedSimpArgs false
set_option linter.unusedVariables false
namespace Go.Proofs.YtlipmjpapkfaeaaGreatDoor.Fn
open Go Go.Mach Go.RowKit
def expEdge (st : List Int × List Arc3) (e : Arc3) : List Int × List Arc3 :=
  (if e.2.2 ∈ st.1 then st.1 else st.1 ++ [e.2.2], addArc st.2 (e.1, e.2.1, (st.1.idxOf e.2.2 : Nat)))
def expState (ks : List Int) (l : List Arc3) : List Int × List Arc3 := l.foldl expEdge (ks, [])
def rounds (E : Int → List Arc3) (k0 : Int) : Nat → List Int × List (List Arc3)
  | 0 => ([k0], [])
  | i + 1 => match (rounds E k0 i).1[i]? with
    | some k => ((expState (rounds E k0 i).1 (E k)).1, (rounds E k0 i).2 ++ [(expState (rounds E k0 i).1 (E k)).2])
    | none => rounds E k0 i
theorem expState_succ {ks : List Int} {l : List Arc3} {j : Nat} {x : Arc3} (hx : l[j]? = some x) : expState ks (l.take (j + 1)) = expEdge (expState ks (l.take j)) x := by
  unfold expState
  rw [List.take_add_one, hx, List.foldl_append]; rfl
theorem rounds_succ {E : Int → List Arc3} {k0 : Int} {i : Nat} {k : Int} (hk : (rounds E k0 i).1[i]? = some k) :
    rounds E k0 (i + 1) = ((expState (rounds E k0 i).1 (E k)).1, (rounds E k0 i).2 ++ [(expState (rounds E k0 i).1 (E k)).2]) := by
  conv => lhs; unfold rounds
  rw [hk]
theorem expEdge_pre (st : List Int × List Arc3) (e : Arc3) : ∃ r, (expEdge st e).1 = st.1 ++ r := by
  unfold expEdge
  by_cases h : e.2.2 ∈ st.1
  · exact ⟨[], by simp [h]⟩
  · exact ⟨[e.2.2], by simp [h]⟩
theorem expFold_pre : ∀ (l : List Arc3) (st : List Int × List Arc3), ∃ r, (l.foldl expEdge st).1 = st.1 ++ r
  | [], st => ⟨[], by simp⟩
  | e :: l, st => by
    obtain ⟨r, hr⟩ := expEdge_pre st e
    obtain ⟨r', hr'⟩ := expFold_pre l (expEdge st e)
    exact ⟨r ++ r', by rw [List.foldl_cons, hr', hr, List.append_assoc]⟩
theorem expState_pre (ks : List Int) (l : List Arc3) : ∃ r, (expState ks l).1 = ks ++ r := expFold_pre l (ks, [])
theorem rounds_pre (E : Int → List Arc3) (k0 : Int) (i : Nat) : ∃ r, (rounds E k0 (i + 1)).1 = (rounds E k0 i).1 ++ r := by
  cases hk : (rounds E k0 i).1[i]? with
  | none =>
    refine ⟨[], ?_⟩
    conv => lhs; unfold rounds
    rw [hk]; simp
  | some k =>
    obtain ⟨r, hr⟩ := expState_pre (rounds E k0 i).1 (E k)
    exact ⟨r, by rw [rounds_succ hk]; exact hr⟩
theorem rounds_len (E : Int → List Arc3) (k0 : Int) (i : Nat) : (rounds E k0 i).1.length ≤ (rounds E k0 (i + 1)).1.length := by
  obtain ⟨r, hr⟩ := rounds_pre E k0 i
  rw [hr]; simp
theorem rounds_pos (E : Int → List Arc3) (k0 : Int) : ∀ i, 1 ≤ (rounds E k0 i).1.length
  | 0 => by simp [rounds]
  | i + 1 => Nat.le_trans (rounds_pos E k0 i) (rounds_len E k0 i)
theorem expFold_in {E : List Arc3} : ∀ (l : List Arc3) (st : List Int × List Arc3), InR l → InR st.2 → InR (l.foldl expEdge st).2
  | [], st, _, h => h
  | e :: l, st, hl, h => expFold_in (E := E) l (expEdge st e) (fun y hy => hl y (by simp [hy])) (addArc_in h (hl e (by simp)))
theorem expFold_len : ∀ (l : List Arc3) (st : List Int × List Arc3), (l.foldl expEdge st).2.length ≤ st.2.length + l.length ∧ (l.foldl expEdge st).1.length ≤ st.1.length + l.length
  | [], st => by simp
  | e :: l, st => by
    obtain ⟨h1, h2⟩ := expFold_len l (expEdge st e)
    have h3 : (expEdge st e).2.length ≤ st.2.length + 1 := addArc_len _ _
    have h4 : (expEdge st e).1.length ≤ st.1.length + 1 := by unfold expEdge; simp only; split <;> simp
    simp only [List.foldl_cons, List.length_cons]; omega
theorem expFold_keys {D : Int → Prop} : ∀ (l : List Arc3) (st : List Int × List Arc3), (∀ x ∈ l, D x.2.2) → (∀ k ∈ st.1, D k) → ∀ k ∈ (l.foldl expEdge st).1, D k
  | [], st, _, h => h
  | e :: l, st, hl, h => expFold_keys l (expEdge st e) (fun y hy => hl y (by simp [hy])) (fun k hk => by
      unfold expEdge at hk
      simp only at hk
      split at hk
      · exact h k hk
      · rcases List.mem_append.1 hk with hk | hk
        · exact h k hk
        · simp at hk; subst hk; exact hl e (by simp))
theorem rounds_keys {E : Int → List Arc3} {k0 : Int} {D : Int → Prop} (h0 : D k0) (hE : ∀ k, D k → ∀ x ∈ E k, D x.2.2) : ∀ i, ∀ k ∈ (rounds E k0 i).1, D k
  | 0 => by intro k hk; simp [rounds] at hk; subst hk; exact h0
  | i + 1 => by
    have ih := rounds_keys h0 hE i
    cases hk : (rounds E k0 i).1[i]? with
    | none =>
      have : rounds E k0 (i + 1) = rounds E k0 i := by conv => lhs; unfold rounds
                                                       rw [hk]
      rw [this]; exact ih
    | some k =>
      rw [rounds_succ hk]
      exact expFold_keys (E k) _ (hE k (ih k (List.mem_of_getElem? hk))) ih
end Go.Proofs.YtlipmjpapkfaeaaGreatDoor.Fn
end
section
set_option linter.unusedSimpArgs false
set_option linter.unusedVariables false
set_option maxRecDepth 100000
namespace Go.Proofs.YtlipmjpapkfaeaaGreatDoor.Fn
open Go Go.Mach Go.RowKit Go.Proofs
attribute [local irreducible] AOps WPX DOps thenS blockS AOp GOps CPick
theorem envOf4 (v u x y : Value) : envOf 0 [v, u, x, y] .lf = eput (eput (eput (eput .lf (some 0) v) (some 1) u) (some 2) x) (some 3) y := rfl
def boolV (b : Bool) : List Value := [.bool b]
def oneL (v : Value) : List Value := [v]
structure OutI (W : World) (h hh : AHeap) (F : Int → Bool) (i : Nat) (ks : List Int) (As : List (List Arc3)) (ka : Option Addr) (kc : Nat) (fa : Option Addr) (fc : Nat) (oa : Option Addr) (oc : Nat) (vs : List Value) (g : AHeap) : Prop where
  le : i ≤ ks.length
  b8 : hh.own.get h.next = some (.cells [.slice none 0 0, .slice none 0 0])
  b10 : hh.own.get (h.next + 1) = some (.cells [.slice fa i fc, .slice oa i oc])
  mp : hh.own.get (h.next + 2) = some (.map (mapFrom numK 0 ks))
  nx : h.next + 3 ≤ hh.next
  kp : Keeps h hh
  keys : OwnV (h.next + 3) hh ka kc 1 (ks.map numV)
  fin : OwnV (h.next + 3) hh fa fc 1 ((ks.take i).map fun k => boolV (F k))
  out : OwnV (h.next + 3) hh oa oc 1 (vs.map oneL)
  kf : Apart ka fa
  ko : Apart ka oa
  fo : Apart fa oa
  vl : vs.length = i
  al : As.length = i
  sub : Sub g hh
  inner : ∀ (j : Nat) (x : Value) (l : List Arc3), vs[j]? = some x → As[j]? = some l → Sl W g 3 x (l.map arcV)
  g0 : ∀ j, j < h.next + 3 → g.own.get j = none
  gk : ∀ x, ka = some x → g.own.get x.block = none
  gf : ∀ x, fa = some x → g.own.get x.block = none
  go : ∀ x, oa = some x → g.own.get x.block = none
theorem OutI.keeps {W : World} {h hh hh' : AHeap} {F : Int → Bool} {i : Nat} {ks : List Int} {As : List (List Arc3)} {ka : Option Addr} {kc : Nat} {fa : Option Addr} {fc : Nat} {oa : Option Addr} {oc : Nat} {vs : List Value} {g : AHeap}
    (O : OutI W h hh F i ks As ka kc fa fc oa oc vs g) (k : Keeps hh hh') : OutI W h hh' F i ks As ka kc fa fc oa oc vs g :=
  have hn := O.nx
  ⟨O.le, by rw [k.same _ (by omega)]; exact O.b8, by rw [k.same _ (by omega)]; exact O.b10, by rw [k.same _ (by omega)]; exact O.mp, Nat.le_trans hn k.le, O.kp.trans k, O.keys.keeps k, O.fin.keeps k, O.out.keeps k, O.kf, O.ko, O.fo, O.vl, O.al, O.sub.keeps k, O.inner, O.g0, O.gk, O.gf, O.go⟩
theorem lookNum {H : AHeap} {b : Nat} {ks : List Int} (hb : H.own.get b = some (.map (mapFrom numK 0 ks))) (s : Int) :
    ∃ (q0 : Int) (b0 : Bool), lookupV (.sc .i) (.int .i64 0) H (.map (some b)) (.int .i64 s) true = some (.tuple #[.int .i64 q0, .bool b0]) ∧ (b0 = true → s ∈ ks ∧ q0 = (ks.idxOf s : Nat)) ∧ (b0 = false → s ∉ ks) := by
  by_cases hs : s ∈ ks
  · exact ⟨_, true, lookup_in keyedNum hb hs _ true, fun _ => ⟨hs, rfl⟩, fun h => by cases h⟩
  · exact ⟨_, false, lookup_out keyedNum hb hs _ true, (fun h => by cases h), fun _ => hs⟩
structure InnI (h H0 hh : AHeap) (ka : Option Addr) (ks' : List Int) (L : List Arc3) (ka' : Option Addr) (kc' : Nat) (la : Option Addr) (lc : Nat) : Prop where
  but : KeepsBut (fun x => x = h.next + 2 ∨ ∃ y, ka = some y ∧ y.block = x) H0 hh
  mp : hh.own.get (h.next + 2) = some (.map (mapFrom numK 0 ks'))
  keys : OwnV (h.next + 3) hh ka' kc' 1 (ks'.map numV)
  new : ∀ x, ka' = some x → (∃ y, ka = some y ∧ y.block = x.block) ∨ H0.next ≤ x.block
  arcs : OwnV H0.next hh la lc 3 (L.map arcV)
  apart : Apart la ka'
theorem InnI.nx {h H0 hh : AHeap} {ka : Option Addr} {ks' : List Int} {L : List Arc3} {ka' : Option Addr} {kc' : Nat} {la : Option Addr} {lc : Nat} (I : InnI h H0 hh ka ks' L ka' kc' la lc) (h0 : h.next + 3 ≤ H0.next) : h.next + 3 ≤ hh.next := Nat.le_trans h0 I.but.le
theorem InnI.keeps {h H0 hh hh' : AHeap} {ka : Option Addr} {ks' : List Int} {L : List Arc3} {ka' : Option Addr} {kc' : Nat} {la : Option Addr} {lc : Nat} (I : InnI h H0 hh ka ks' L ka' kc' la lc) (h0 : h.next + 3 ≤ H0.next) (k : Keeps hh hh') : InnI h H0 hh' ka ks' L ka' kc' la lc :=
  ⟨I.but.keeps k, by rw [k.same _ (by have := I.but.le; omega)]; exact I.mp, I.keys.keeps k, I.new, I.arcs.keeps k, I.apart⟩
theorem InnI.addKey {W : World} {h H0 H1 : AHeap} {ka : Option Addr} {ks' : List Int} {L : List Arc3} {ka' : Option Addr} {kc' : Nat} {la : Option Addr} {lc : Nat} (I : InnI h H0 H1 ka ks' L ka' kc' la lc) (h0 : h.next + 3 ≤ H0.next) (kp : Keeps h H0) (hka : ∀ y, ka = some y → h.next + 3 ≤ y.block) {s : Int} (hl : ks'.length + 1 ≤ 1073741824) :
    ∃ a' c' h3, appA W ((H1.put (h.next + 2) (.map (mapFrom numK 0 (ks' ++ [s])))).new (.cells [.int .i64 s])) 1 (.slice ka' ks'.length kc') (.slice (some ⟨H1.next, 0, some 0⟩) 1 1) = some (.slice a' (ks' ++ [s]).length c', h3) ∧
      InnI h H0 h3 ka (ks' ++ [s]) L a' c' la lc ∧ H1.next < h3.next ∧ ∀ i, i < H1.next → i ≠ h.next + 2 → NotIn ka' i → h3.own.get i = H1.own.get i := by
  have hH0 := I.but.le
  obtain ⟨G1, hG1⟩ : ∃ G1, G1 = H1.put (h.next + 2) (.map (mapFrom numK 0 (ks' ++ [s]))) := ⟨_, rfl⟩
  have hG1n : G1.next = H1.next := by rw [hG1]; rfl
  have hG1g : ∀ i, i ≠ h.next + 2 → G1.own.get i = H1.own.get i := fun i hi => by rw [hG1, AHeap.put_get, if_neg hi]
  have hG1m : G1.own.get (h.next + 2) = some (.map (mapFrom numK 0 (ks' ++ [s]))) := by rw [hG1, AHeap.put_get, if_pos rfl]
  have hG1b : KeepsBut (fun x => x = h.next + 2 ∨ ∃ y, ka = some y ∧ y.block = x) H0 G1 := by rw [hG1]; exact I.but.put (.inr (.inl rfl)) _
  have hG1k : OwnV (h.next + 3) G1 ka' kc' 1 (ks'.map numV) := I.keys.same (fun i hi _ => hG1g i (by omega)) (by omega)
  have hG1l : OwnV H0.next G1 la lc 3 (L.map arcV) := I.arcs.same (fun i hi _ => hG1g i (by omega)) (by omega)
  have kpG : Keeps h G1 := hG1b.all kp (fun i hi => by
    rcases hi with rfl | ⟨y, hy, rfl⟩
    · omega
    · have := hka y hy; omega)
  rw [← hG1]
  obtain ⟨a', c', h3, g1, g2, g3, g4, g5, g6⟩ := OwnV.app (W := W) (h0 := h) (h := G1.new (.cells [.int .i64 s])) (b' := H1.next) (e := numV s) (hG1k.keeps ((Keeps.refl _).new _)) (kpG.new _) (by omega) (by rw [AHeap.new_next]; omega)
    (by rw [AHeap.new_get, hG1n, if_pos rfl]; rfl) (by rw [AHeap.new_next]; omega) rfl rfl (by simpa using hl)
  have hn3 : h3.next = H1.next + 2 := by rw [g4, AHeap.new_next, hG1n]
  have gsame : ∀ i, i < H1.next → i ≠ h.next + 2 → NotIn ka' i → h3.own.get i = H1.own.get i := fun i hi hm hn => by
    rw [g5 i (by rw [AHeap.new_next]; omega) hn, AHeap.new_get, if_neg (by omega), hG1g i hm]
  refine ⟨a', c', h3, by simpa using g1, ⟨?_, ?_, by simpa using g2, fun x hx => .inr ?_, ?_, ?_⟩, by omega, gsame⟩
  · refine (hG1b.new _).step g5 (by omega) fun y hy => ?_
    rcases I.new y hy with ⟨z, hz, e⟩ | hz
    · exact .inr (.inr ⟨z, hz, e⟩)
    · exact .inl hz
  · rw [g5 (h.next + 2) (by rw [AHeap.new_next]; omega) (hG1k.notOld (by omega)), AHeap.new_get, if_neg (by omega)]; exact hG1m
  · have hnot := g6
    rcases Nat.lt_or_ge x.block (H1.next + 1) with hlt | hge
    · exact absurd rfl (hnot x.block (by rw [AHeap.new_next]; omega) x hx)
    · omega
  · refine OwnV.other (hG1l.keeps ((Keeps.refl _).new _)) g5 (by rw [g4]; omega) I.apart
  · exact (hG1l.keeps ((Keeps.refl _).new (.cells [.int .i64 s]))).apartNew g6
theorem InnI.kp {h H0 hh : AHeap} {ka : Option Addr} {ks' : List Int} {L : List Arc3} {ka' : Option Addr} {kc' : Nat} {la : Option Addr} {lc : Nat} (I : InnI h H0 hh ka ks' L ka' kc' la lc) (kp : Keeps h H0) (hka : ∀ y, ka = some y → h.next + 3 ≤ y.block) : Keeps h hh :=
  I.but.all kp (fun i hi => by
    rcases hi with rfl | ⟨y, hy, rfl⟩
    · omega
    · have := hka y hy; omega)
theorem InnI.join {h H0 H1 : AHeap} {ka : Option Addr} {ks' : List Int} {l0 : List Arc3} {f' t' s' : Int} {ka' : Option Addr} {kc' : Nat} {la : Option Addr} {lc : Nat} (I : InnI h H0 H1 ka ks' (l0 ++ [(f', t', s')]) ka' kc' la lc) (h0 : h.next + 3 ≤ H0.next) (t : Int) :
    ∃ b C, la = some ⟨b, 0, some 0⟩ ∧ lc = 3 ∧ H0.next ≤ b ∧ b < H1.next ∧ H1.own.get b = some (.cells C) ∧ C[l0.length * 3 + 1]? = some (.int .i32 t') ∧ C[l0.length * 3 + 2]? = some (.int .i64 s') ∧ Nat.ble (l0.length * 3 + 2) C.length = true ∧
      ∃ C2, splice C (l0.length * 3 + 1) [.int .i32 t] = C2 ∧ InnI h H0 (H1.put b (.cells C2)) ka ks' (l0 ++ [(f', t, s')]) ka' kc' la lc := by
  rcases I.arcs with ⟨_, _, hnil⟩ | ⟨b, rfl, rfl, hb1, hb2⟩
  · simp at hnil
  obtain ⟨C, hC, hC1, hC2, hble, C2, hsp, ho2⟩ := Ow.lastArc hb2 t
  refine ⟨b, C, rfl, rfl, hb1, hb2.lt, hC, hC1, hC2, hble, C2, hsp, I.but.put (.inl hb1) _, ?_, ?_, I.new, .inr ⟨b, rfl, rfl, hb1, ho2⟩, I.apart⟩
  · rw [AHeap.put_get, if_neg (by omega)]; exact I.mp
  · rcases I.keys with o | ⟨b2, e1, e2, e3, e4⟩
    · exact .inl o
    · have hne : b ≠ b2 := I.apart _ _ rfl e1
      exact .inr ⟨b2, e1, e2, e3, e4.same (by rw [AHeap.put_get, if_neg (fun e => hne e.symm)]) (Nat.le_refl _)⟩
theorem InnI.newArc {W : World} {h H0 H1 : AHeap} {ka : Option Addr} {ks' : List Int} {L : List Arc3} {ka' : Option Addr} {kc' : Nat} {la : Option Addr} {lc : Nat} (I : InnI h H0 H1 ka ks' L ka' kc' la lc) (h0 : h.next + 3 ≤ H0.next) (kp : Keeps h H0) (hka : ∀ y, ka = some y → h.next + 3 ≤ y.block) (x : Arc3) (hl : L.length + 1 ≤ 1073741824) :
    ∃ a' c' h3, appA W (H1.new (.cells (arcV x))) 3 (.slice la L.length lc) (.slice (some ⟨H1.next, 0, some 0⟩) 1 3) = some (.slice a' (L ++ [x]).length c', h3) ∧ InnI h H0 h3 ka ks' (L ++ [x]) ka' kc' a' c' := by
  have hH0 := I.but.le
  obtain ⟨a', c', h3, g1, g2, g3, g4, g5, g6⟩ := OwnV.app (W := W) (h0 := h) (h := H1.new (.cells (arcV x))) (b' := H1.next) (e := arcV x) (I.arcs.keeps ((Keeps.refl _).new _)) ((I.kp kp hka).new _) (by omega) (by rw [AHeap.new_next]; omega)
    (by rw [AHeap.new_get, if_pos rfl]) (by rw [AHeap.new_next]; omega) rfl rfl (by simpa using hl)
  have hlo : ∀ y, la = some y → H0.next ≤ y.block := fun y hy => (I.arcs.lt hy).1
  refine ⟨a', c', h3, by simpa using g1, ⟨(I.but.new _).step g5 (by rw [g4]; omega) fun y hy => .inl (hlo y hy), ?_, ?_, I.new, by simpa using g2, ?_⟩⟩
  · rw [g5 (h.next + 2) (by rw [AHeap.new_next]; omega) (fun y hy => by have := hlo y hy; omega), AHeap.new_get, if_neg (by omega)]; exact I.mp
  · exact OwnV.other (I.keys.keeps ((Keeps.refl _).new _)) g5 (by rw [g4]; omega) I.apart.symm
  · exact ((I.keys.keeps ((Keeps.refl _).new (.cells (arcV x)))).apartNew g6).symm
structure Bn (h hh : AHeap) (ks : List Int) (ka : Option Addr) (kc : Nat) (fa : Option Addr) (fc : Nat) (FL : List (List Value)) (oa : Option Addr) (oc : Nat) (OL : List (List Value)) (la : Option Addr) (lc : Nat) (L : List Arc3) (g : AHeap) : Prop where
  b8 : hh.own.get h.next = some (.cells [.slice none 0 0, .slice none 0 0])
  mp : hh.own.get (h.next + 2) = some (.map (mapFrom numK 0 ks))
  nx : h.next + 3 ≤ hh.next
  kp : Keeps h hh
  keys : OwnV (h.next + 3) hh ka kc 1 (ks.map numV)
  fin : OwnV (h.next + 3) hh fa fc 1 FL
  out : OwnV (h.next + 3) hh oa oc 1 OL
  arcs : OwnV (h.next + 3) hh la lc 3 (L.map arcV)
  kf : Apart ka fa
  ko : Apart ka oa
  fo : Apart fa oa
  lk : Apart la ka
  lf : Apart la fa
  lo : Apart la oa
  sub : Sub g hh
  g0 : ∀ j, j < h.next + 3 → g.own.get j = none
  gk : ∀ x, ka = some x → g.own.get x.block = none
  gf : ∀ x, fa = some x → g.own.get x.block = none
  go : ∀ x, oa = some x → g.own.get x.block = none
  gl : ∀ x, la = some x → g.own.get x.block = none
section
variable {h hh : AHeap} {ks : List Int} {ka : Option Addr} {kc : Nat} {fa : Option Addr} {fc : Nat} {FL : List (List Value)} {oa : Option Addr} {oc : Nat} {OL : List (List Value)} {la : Option Addr} {lc : Nat} {L : List Arc3} {g : AHeap}
theorem Bn.new (B : Bn h hh ks ka kc fa fc FL oa oc OL la lc L g) (b : ABlk) : Bn h (hh.new b) ks ka kc fa fc FL oa oc OL la lc L g :=
  have k : Keeps hh (hh.new b) := (Keeps.refl hh).new b
  have hn := B.nx
  ⟨by rw [k.same _ (by omega)]; exact B.b8, by rw [k.same _ (by omega)]; exact B.mp, Nat.le_trans hn k.le, B.kp.trans k, B.keys.keeps k, B.fin.keeps k, B.out.keeps k, B.arcs.keeps k, B.kf, B.ko, B.fo, B.lk, B.lf, B.lo, B.sub.keeps k, B.g0, B.gk, B.gf, B.go, B.gl⟩
theorem Bn.put10 (B : Bn h hh ks ka kc fa fc FL oa oc OL la lc L g) (b : ABlk) : Bn h (hh.put (h.next + 1) b) ks ka kc fa fc FL oa oc OL la lc L g :=
  have hs : ∀ i, h.next + 3 ≤ i → i < hh.next → (hh.put (h.next + 1) b).own.get i = hh.own.get i := fun i hi _ => by rw [AHeap.put_get, if_neg (by omega)]
  ⟨by rw [AHeap.put_get, if_neg (by omega)]; exact B.b8, by rw [AHeap.put_get, if_neg (by omega)]; exact B.mp, B.nx, B.kp.put (by omega) _, B.keys.same hs (Nat.le_refl _), B.fin.same hs (Nat.le_refl _), B.out.same hs (Nat.le_refl _), B.arcs.same hs (Nat.le_refl _),
    B.kf, B.ko, B.fo, B.lk, B.lf, B.lo, B.sub.put (B.g0 _ (by omega)) _, B.g0, B.gk, B.gf, B.go, B.gl⟩
theorem fresh_g {g hh : AHeap} (s : Sub g hh) {a' : Option Addr} (hn : ∀ i, i < hh.next → NotIn a' i) : ∀ x, a' = some x → g.own.get x.block = none := fun x hx => by
  cases hg : g.own.get x.block with
  | none => rfl
  | some b => exact absurd rfl (hn x.block (s.same _ _ hg).1 x hx)
theorem Bn.appFin {W : World} (B : Bn h hh ks ka kc fa fc FL oa oc OL la lc L g) {b' : Nat} {v : Value} (hb : hh.own.get b' = some (.cells [v])) (hb' : b' < hh.next) (h1 : oneV v = true) (hl : FL.length + 1 ≤ 1073741824) :
    ∃ a' c' h', appA W hh 1 (.slice fa FL.length fc) (.slice (some ⟨b', 0, some 0⟩) 1 1) = some (.slice a' (FL.length + 1) c', h') ∧ Bn h h' ks ka kc a' c' (FL ++ [[v]]) oa oc OL la lc L g ∧ h'.own.get (h.next + 1) = hh.own.get (h.next + 1) := by
  have hn := B.nx
  obtain ⟨a', c', h3, g1, g2, g3, g4, g5, g6⟩ := OwnV.app (W := W) (e := [v]) B.fin B.kp (by omega) hn hb hb' rfl (by simp [h1]) hl
  have hlo : ∀ i, i < h.next + 3 → NotIn fa i := fun i hi => B.fin.notOld hi
  have hn3 : hh.next ≤ h3.next := by omega
  refine ⟨a', c', h3, by rw [g1]; simp, ⟨?_, ?_, by omega, g3, B.keys.other g5 hn3 B.kf, g2, B.out.other g5 hn3 B.fo.symm, B.arcs.other g5 hn3 B.lf, B.keys.apartNew g6, B.ko, (B.out.apartNew g6).symm, B.lk, B.arcs.apartNew g6, B.lo, B.sub.step g5 hn3 B.gf, B.g0, B.gk, fresh_g B.sub g6, B.go, B.gl⟩, ?_⟩
  · rw [g5 _ (by omega) (hlo _ (by omega))]; exact B.b8
  · rw [g5 _ (by omega) (hlo _ (by omega))]; exact B.mp
  · exact g5 _ (by omega) (hlo _ (by omega))
theorem Bn.appOut {W : World} (B : Bn h hh ks ka kc fa fc FL oa oc OL la lc L g) {b' : Nat} {v : Value} (hb : hh.own.get b' = some (.cells [v])) (hb' : b' < hh.next) (h1 : oneV v = true) (hl : OL.length + 1 ≤ 1073741824) :
    ∃ a' c' h', appA W hh 1 (.slice oa OL.length oc) (.slice (some ⟨b', 0, some 0⟩) 1 1) = some (.slice a' (OL.length + 1) c', h') ∧ Bn h h' ks ka kc fa fc FL a' c' (OL ++ [[v]]) la lc L g ∧ h'.own.get (h.next + 1) = hh.own.get (h.next + 1) := by
  have hn := B.nx
  obtain ⟨a', c', h3, g1, g2, g3, g4, g5, g6⟩ := OwnV.app (W := W) (e := [v]) B.out B.kp (by omega) hn hb hb' rfl (by simp [h1]) hl
  have hlo : ∀ i, i < h.next + 3 → NotIn oa i := fun i hi => B.out.notOld hi
  have hn3 : hh.next ≤ h3.next := by omega
  refine ⟨a', c', h3, by rw [g1]; simp, ⟨?_, ?_, by omega, g3, B.keys.other g5 hn3 B.ko, B.fin.other g5 hn3 B.fo, g2, B.arcs.other g5 hn3 B.lo, B.kf, B.keys.apartNew g6, B.fin.apartNew g6, B.lk, B.lf, B.arcs.apartNew g6, B.sub.step g5 hn3 B.go, B.g0, B.gk, B.gf, fresh_g B.sub g6, B.gl⟩, ?_⟩
  · rw [g5 _ (by omega) (hlo _ (by omega))]; exact B.b8
  · rw [g5 _ (by omega) (hlo _ (by omega))]; exact B.mp
  · exact g5 _ (by omega) (hlo _ (by omega))
end
theorem OutI.next {W : World} {h H0 h2 h3 : AHeap} {F : Int → Bool} {i : Nat} {k : Int} {ks ks' : List Int} {As : List (List Arc3)} {ka : Option Addr} {kc : Nat} {fa : Option Addr} {fc : Nat} {oa : Option Addr} {oc : Nat} {vs : List Value} {g : AHeap} {L : List Arc3} {ka' : Option Addr} {kc' : Nat} {la : Option Addr} {lc : Nat}
    (O : OutI W h H0 F i ks As ka kc fa fc oa oc vs g) (I : InnI h H0 h2 ka ks' L ka' kc' la lc) (k3 : Keeps h2 h3) (hk : ks'[i]? = some k) (hpre : ks'.take i = ks.take i) (hb : i + 1 ≤ 1073741824) :
    h2.own.get (h.next + 1) = some (.cells [.slice fa i fc, .slice oa i oc]) ∧ h3.own.get (h.next + 1) = some (.cells [.slice fa i fc, .slice oa i oc]) ∧ h.next + 1 < h3.next ∧
    ∃ fa' fc' h4, appA W (h3.new (.cells [.bool (F k)])) 1 (.slice fa i fc) (.slice (some ⟨h3.next, 0, some 0⟩) 1 1) = some (.slice fa' (i + 1) fc', h4) ∧ h4.own.get (h.next + 1) = some (.cells [.slice fa i fc, .slice oa i oc]) ∧ h.next + 1 < h4.next ∧
    ∃ oa' oc' h6, appA W ((h4.put (h.next + 1) (.cells [.slice fa' (i + 1) fc', .slice oa i oc])).new (.cells [.slice la L.length lc])) 1 (.slice oa i oc) (.slice (some ⟨h4.next, 0, some 0⟩) 1 1) = some (.slice oa' (i + 1) oc', h6) ∧
      h6.own.get (h.next + 1) = some (.cells [.slice fa' (i + 1) fc', .slice oa i oc]) ∧
    ∃ g', OutI W h (h6.put (h.next + 1) (.cells [.slice fa' (i + 1) fc', .slice oa' (i + 1) oc'])) F (i + 1) ks' (As ++ [L]) ka' kc' fa' fc' oa' oc' (vs ++ [.slice la L.length lc]) g' := by
  have hn := O.nx
  have hilt : i < ks'.length := (List.getElem?_eq_some_iff.1 hk).1
  have hle := O.le
  have I3 := I.keeps hn k3
  have hMk : ∀ y, ka = some y → h.next + 3 ≤ y.block ∧ y.block < H0.next := fun y hy => O.keys.lt hy
  have notM : ∀ j, j ≠ h.next + 2 → j < h.next + 3 → ¬ (j = h.next + 2 ∨ ∃ y, ka = some y ∧ y.block = j) := fun j h1 h2 hm => by
    rcases hm with hm | ⟨y, hy, hm⟩
    · exact h1 hm
    · have := (hMk y hy).1; omega
  have b10 : ∀ {hx}, KeepsBut (fun x => x = h.next + 2 ∨ ∃ y, ka = some y ∧ y.block = x) H0 hx → hx.own.get (h.next + 1) = some (.cells [.slice fa i fc, .slice oa i oc]) := fun kb => by
    rw [kb.same _ (by omega) (notM _ (by omega) (by omega))]; exact O.b10
  have b8 : h3.own.get h.next = some (.cells [.slice none 0 0, .slice none 0 0]) := by
    rw [I3.but.same _ (by omega) (notM _ (by omega) (by omega))]; exact O.b8
  have hfin3 := O.fin.but I3.but (fun y hy hm => by
    have := (O.fin.lt hy).1
    rcases hm with hm | ⟨z, hz, hm⟩
    · omega
    · exact O.kf z y hz hy hm)
  have hout3 := O.out.but I3.but (fun y hy hm => by
    have := (O.out.lt hy).1
    rcases hm with hm | ⟨z, hz, hm⟩
    · omega
    · exact O.ko z y hz hy hm)
  have hsub3 : Sub g h3 := O.sub.but I3.but (fun j hm => by
    rcases hm with rfl | ⟨z, hz, rfl⟩
    · exact O.g0 _ (by omega)
    · exact O.gk z hz)
  have hnew : ∀ (x : Addr), H0.next ≤ x.block → g.own.get x.block = none := fun x hx => by
    cases hg : g.own.get x.block with
    | none => rfl
    | some b => have := (O.sub.same _ _ hg).1; omega
  have hla : ∀ x, la = some x → H0.next ≤ x.block := fun x hx => (I3.arcs.lt hx).1
  have apK : ∀ {a : Option Addr} {c : Nat} {es : List (List Value)}, OwnV (h.next + 3) H0 a c 1 es → Apart ka a → Apart ka' a := fun o hap x y hx hy e => by
    rcases I.new x hx with ⟨z, hz, hzx⟩ | hz
    · exact hap z y hz hy (by omega)
    · have := (o.lt hy).2; omega
  have apL : ∀ {a : Option Addr} {c : Nat} {es : List (List Value)}, OwnV (h.next + 3) H0 a c 1 es → Apart la a := fun o x y hx hy e => by
    have := hla x hx; have := (o.lt hy).2; omega
  have B3 : Bn h h3 ks' ka' kc' fa fc ((ks.take i).map fun k => boolV (F k)) oa oc (vs.map oneL) la lc L g :=
    ⟨b8, I3.mp, I3.nx hn, I3.kp O.kp (fun y hy => (hMk y hy).1), I3.keys, hfin3, hout3, I3.arcs.base hn, apK O.fin O.kf, apK O.out O.ko, O.fo, I3.apart, apL O.fin, apL O.out, hsub3, O.g0, (fun x hx => by
      rcases I.new x hx with ⟨z, hz, hzx⟩ | hz
      · rw [← hzx]; exact O.gk z hz
      · exact hnew x hz), O.gf, O.go, fun x hx => hnew x (hla x hx)⟩
  have hFL : ((ks.take i).map fun k => boolV (F k)).length = i := by simp; omega
  have hOL : (vs.map oneL).length = i := by simp [O.vl]
  have h3n : h.next + 3 ≤ h3.next := I3.nx hn
  obtain ⟨fa', fc', h4, e1, B4, e2⟩ := (B3.new (.cells [.bool (F k)])).appFin (W := W) (b' := h3.next) (v := .bool (F k)) (by rw [AHeap.new_get, if_pos rfl]) (by rw [AHeap.new_next]; omega) rfl (by rw [hFL]; exact hb)
  rw [hFL] at e1
  have b104 : h4.own.get (h.next + 1) = some (.cells [.slice fa i fc, .slice oa i oc]) := by rw [e2, AHeap.new_get, if_neg (by omega)]; exact b10 I3.but
  have B5 := (B4.put10 (.cells [.slice fa' (i + 1) fc', .slice oa i oc])).new (.cells [.slice la L.length lc])
  obtain ⟨oa', oc', h6, e3, B6, e4⟩ := B5.appOut (W := W) (b' := h4.next) (v := .slice la L.length lc) (by rw [AHeap.new_get, AHeap.put_next, if_pos rfl]) (by rw [AHeap.new_next, AHeap.put_next]; omega) rfl (by rw [hOL]; exact hb)
  rw [hOL] at e3
  have h4n := B4.nx
  have b106 : h6.own.get (h.next + 1) = some (.cells [.slice fa' (i + 1) fc', .slice oa i oc]) := by
    rw [e4, AHeap.new_get, AHeap.put_next, if_neg (by omega), AHeap.put_get, if_pos rfl]
  refine ⟨b10 I.but, b10 I3.but, by omega, fa', fc', h4, e1, b104, by omega, oa', oc', h6, e3, b106, ?_⟩
  have B7 := B6.put10 (.cells [.slice fa' (i + 1) fc', .slice oa' (i + 1) oc'])
  have hFL' : (ks.take i).map (fun k => boolV (F k)) ++ [[.bool (F k)]] = (ks'.take (i + 1)).map fun k => boolV (F k) := by
    rw [List.take_add_one, hk, hpre]; simp [boolV]
  have hOL' : vs.map oneL ++ [[Value.slice la L.length lc]] = (vs ++ [Value.slice la L.length lc]).map oneL := by simp [oneL]
  have fin7 := B7.fin
  rw [hFL'] at fin7
  have out7 := B7.out
  rw [hOL'] at out7
  have inner' : ∀ g', (∀ (j : Nat) (x : Value) (l : List Arc3), vs[j]? = some x → As[j]? = some l → Sl W g' 3 x (l.map arcV)) → Sl W g' 3 (.slice la L.length lc) (L.map arcV) → ∀ (j : Nat) (x : Value) (l : List Arc3), (vs ++ [Value.slice la L.length lc])[j]? = some x → (As ++ [L])[j]? = some l → Sl W g' 3 x (l.map arcV) := by
    intro g' h1 h2 j x l hx hl
    have hv := O.vl
    have ha := O.al
    by_cases hj : j < i
    · rw [List.getElem?_append_left (by omega)] at hx hl
      exact h1 j x l hx hl
    · rw [List.getElem?_append_right (by omega)] at hx hl
      by_cases hj0 : j = i
      · subst hj0
        rw [hv] at hx; rw [ha] at hl
        simp at hx hl
        subst hx hl; exact h2
      · rw [List.getElem?_eq_none (by simp; omega)] at hx; cases hx
  rcases B7.arcs with ⟨hla0, hlc0, hL0⟩ | ⟨b, hb1, hb2, hb3, hb4⟩
  · refine ⟨g, by omega, B7.b8, by rw [AHeap.put_get, if_pos rfl], B7.mp, B7.nx, B7.kp, B7.keys, fin7, out7, B7.kf, B7.ko, B7.fo, by simp [O.vl], by simp [O.al], B7.sub, inner' g O.inner ?_, B7.g0, B7.gk, B7.gf, B7.go⟩
    have hL : L = [] := by simpa using hL0
    subst hla0 hlc0 hL
    exact ⟨none, 0, rfl, (fun b hb => by cases hb), fun _ => ⟨rfl, rfl⟩⟩
  · obtain ⟨g', s1, s2, s3, s4⟩ := B7.sub.freeze hb4
    have hgb : g.own.get b = none := B7.gl _ hb1
    have s5 := s4 hgb
    have nb : ∀ {a : Option Addr}, Apart la a → (∀ x, a = some x → g.own.get x.block = none) → ∀ x, a = some x → g'.own.get x.block = none := fun hap hg x hx => (s2 _).2 ⟨hg x hx, fun e => hap _ x hb1 hx e.symm⟩
    refine ⟨g', by omega, B7.b8, by rw [AHeap.put_get, if_pos rfl], B7.mp, B7.nx, B7.kp, B7.keys, fin7, out7, B7.kf, B7.ko, B7.fo, by simp [O.vl], by simp [O.al], s1, inner' g' (fun j x l hx hl => (O.inner j x l hx hl).sub s5) ?_, fun j h2 => (s2 _).2 ⟨B7.g0 j h2, by omega⟩, nb B7.lk B7.gk, nb B7.lf B7.gf, nb B7.lo B7.go⟩
    have := s3.sl (W := W)
    rw [List.length_map] at this
    rw [hb1, hb2]; exact this
end Go.Proofs.YtlipmjpapkfaeaaGreatDoor.Fn
end
section
set_option linter.unusedSimpArgs false
set_option linter.unusedVariables false
set_option maxRecDepth 100000
namespace Go.Proofs.YtlipmjpapkfaeaaGreatDoor.Fn
open Go Go.Mach Go.RowKit Go.Proofs
attribute [local irreducible] AOps WPX DOps thenS blockS AOp GOps CPick
def runeV (c : Int) : List Value := [.int .i32 c]
def endZ (ps : List Int) (i : Nat) : Int := if i + 1 < ps.length then ps.getD (i + 1) 0 - 1 else 1114111
theorem Sl.one {W : World} {h : AHeap} {α : Type} {f : α → List Value} {v : Value} {l : List α} (hs : Sl W h 1 v (l.map f)) {i : Nat} {x : α} {u : Value} (hx : l[i]? = some x) (hu : f x = [u]) :
    ∃ d, idxV 1 v (.int .i64 i) = some (.pointer (some d)) ∧ Rd W h d u := by
  obtain ⟨d, hd1, _, hd3⟩ := hs.at (i := i) (x := [u]) (by simp [hx, hu])
  exact ⟨d, hd1, by have := hd3 0 u rfl; rwa [show aadd d 0 = d from rfl] at this⟩
set_option maxHeartbeats 4000000 in
theorem f93_ok (W : World) (h : AHeap) (a : Option Addr) (n c : Nat) (ps : List Int) (i : Nat) (hs : Sl W h 1 (.slice a n c) (ps.map runeV)) (hn : ps.length = n) (hps : ∀ c ∈ ps, 0 ≤ c ∧ c ≤ 1114111) (hl : n < 1073741824) (hi : i < 1073741824) :
    ACalls Tryz.prog W 93 [.slice a n c, .int .i64 i] h (fun r h' => r = .int .i32 (endZ ps i) ∧ h' = h) := by
  refine ACalls_ofX hmix c93 (Nat.le_of_ble_eq_true rfl) ?_
  unfold r93
  dsimp only [Rc.t, Rc.u, Rc.v, Rc.o, Rc.i, Rc.p, Rc.q, Rc.s, Rc.b, Rc.k, Rc.g, Rc.S, Rc.D]
  simp only [envOf2]
  have hw : IntKind.i64.wrap ((i : Int) + 1) = ((i + 1 : Nat) : Int) := wrap_i64 (by omega) (by omega)
  by_cases hlt : i + 1 < n
  · have hltI : ((i + 1 : Nat) : Int) < n := by omega
    obtain ⟨x, hx⟩ : ∃ x, ps[i + 1]? = some x := ⟨_, List.getElem?_eq_getElem (by omega)⟩
    obtain ⟨d, hd1, hr, _⟩ := Sl.one hs hx (u := .int .i32 x) rfl
    have hxr := hps x (List.mem_of_getElem? hx)
    have hw2 : IntKind.i32.wrap (x - 1) = x - 1 := wrap_i32 (by omega) (by omega)
    have he : endZ ps i = x - 1 := by
      unfold endZ
      rw [hn, if_pos hlt, List.getD, hx]; rfl
    rw [he]
    clear hx he hxr
    repeat refine zs ?_
    refine ⟨.inr rfl, _, rfl, ?_, rfl⟩
    simp only [resOf, rop, opd, celsL, oneV, aadd, binV, isSh, intBin, scEq, keq, unV, fillL, oP, oA, oS, wantedA, BX, BL, BS, seval, *]
  · have hltI : ¬ ((i + 1 : Nat) : Int) < n := by omega
    have he : endZ ps i = 1114111 := by simp [endZ, hn, hlt]
    rw [he]
    clear he
    repeat refine zs ?_
    refine ⟨.inr rfl, _, rfl, ?_, rfl⟩
    simp only [resOf, rop, opd, celsL, oneV, aadd, binV, isSh, intBin, scEq, keq, unV, fillL, oP, oA, oS, wantedA, BX, BL, BS, seval, *]
def decideZ (x y : Bool) (op : Int) : Bool := if op = 1 then x && y else if op = 2 then x || y else if op = 3 then x && !y else if op = 4 then x != y else !x
set_option maxHeartbeats 4000000 in
theorem f88_ok (W : World) (h : AHeap) (x y : Bool) (op : Int) : ACalls Tryz.prog W 88 [.bool x, .bool y, .int .i64 op] h (fun r h' => r = .bool (decideZ x y op) ∧ h' = h) := by
  refine ACalls_ofX hmix c88 (Nat.le_of_ble_eq_true rfl) ?_
  unfold r88
  dsimp only [Rc.t, Rc.u, Rc.v, Rc.o, Rc.i, Rc.p, Rc.q, Rc.s, Rc.b, Rc.k, Rc.g, Rc.S, Rc.D]
  simp only [envOf3]
  unfold decideZ
  by_cases h1 : op = 1
  · subst h1
    cases x <;> cases y <;>
    · repeat refine zs ?_
      refine ⟨.inr rfl, _, rfl, ?_, rfl⟩
      simp only [resOf, rop, opd, celsL, oneV, aadd, binV, isSh, intBin, scEq, keq, unV, fillL, oP, oA, oS, wantedA, BX, BL, BS, seval, *] <;> rfl
  by_cases h2 : op = 2
  · subst h2
    cases x <;> cases y <;>
    · repeat refine zs ?_
      refine ⟨.inr rfl, _, rfl, ?_, rfl⟩
      simp only [resOf, rop, opd, celsL, oneV, aadd, binV, isSh, intBin, scEq, keq, unV, fillL, oP, oA, oS, wantedA, BX, BL, BS, seval, *] <;> rfl
  by_cases h3 : op = 3
  · subst h3
    cases x <;> cases y <;>
    · repeat refine zs ?_
      refine ⟨.inr rfl, _, rfl, ?_, rfl⟩
      simp only [resOf, rop, opd, celsL, oneV, aadd, binV, isSh, intBin, scEq, keq, unV, fillL, oP, oA, oS, wantedA, BX, BL, BS, seval, *] <;> rfl
  by_cases h4 : op = 4
  · subst h4
    cases x <;> cases y <;>
    · repeat refine zs ?_
      refine ⟨.inr rfl, _, rfl, ?_, rfl⟩
      simp only [resOf, rop, opd, celsL, oneV, aadd, binV, isSh, intBin, scEq, keq, unV, fillL, oP, oA, oS, wantedA, BX, BL, BS, seval, *] <;> rfl
  rw [if_neg h1, if_neg h2, if_neg h3, if_neg h4]
  cases x <;>
  · repeat refine zs ?_
    refine ⟨.inr rfl, _, rfl, ?_, rfl⟩
    simp only [resOf, rop, opd, celsL, oneV, aadd, binV, isSh, intBin, scEq, keq, unV, fillL, oP, oA, oS, wantedA, BX, BL, BS, seval, *]
def acceptsQ (A : Aut) (q : Int) : Bool := decide (0 ≤ q) && A.fin.getD q.toNat false
set_option maxHeartbeats 4000000 in
theorem f89_ok (W : World) (h : AHeap) (v : Value) (A : Aut) (vf va : Value) (vs : List Value) (q : Int) (hA : AutoV W h v A vf va vs) (hq : q < 0 ∨ q.toNat < A.fin.length) :
    ACalls Tryz.prog W 89 [v, .int .i64 q] h (fun r h' => r = .bool (acceptsQ A q) ∧ Keeps h h') := by
  obtain ⟨rfl, hf, ha, hl, he⟩ := hA
  obtain ⟨fa, fc, hfs⟩ := hf.len
  obtain ⟨aa, ac, has⟩ := ha.len
  rw [List.length_map] at hfs has
  rw [hl] at has
  subst hfs has
  refine ACalls_ofX hmix c89 (Nat.le_of_ble_eq_true rfl) ?_
  unfold r89
  dsimp only [Rc.t, Rc.u, Rc.v, Rc.o, Rc.i, Rc.p, Rc.q, Rc.s, Rc.b, Rc.k, Rc.g, Rc.S, Rc.D]
  simp only [envOf2]
  by_cases hq0 : 0 ≤ q
  · obtain ⟨n, rfl⟩ : ∃ n : Nat, q = n := ⟨q.toNat, by omega⟩
    have hn : n < A.fin.length := by omega
    obtain ⟨x, hx⟩ : ∃ x, A.fin[n]? = some x := ⟨_, List.getElem?_eq_getElem hn⟩
    have hk : Keeps h (h.new (.cells [.slice fa A.fin.length fc, .slice aa A.arcs.length ac])) := (Keeps.refl h).new _
    obtain ⟨d, hd1, hr, _⟩ := Sl.one (hf.keeps hk) hx (u := .bool x) rfl
    have hv : acceptsQ A n = x := by simp [acceptsQ, List.getD, hx]
    have hge : (n : Int) ≥ 0 := by omega
    rw [hv]
    clear hx hv hq0 hq
    repeat refine zs ?_
    refine ⟨.inr rfl, _, rfl, ?_, hk⟩
    simp only [resOf, rop, opd, celsL, oneV, aadd, binV, isSh, intBin, scEq, keq, unV, fillL, oP, oA, oS, wantedA, BX, BL, BS, seval, *]
  · have hv : acceptsQ A q = false := by simp [acceptsQ, hq0]
    have hge : ¬ q ≥ 0 := hq0
    rw [hv]
    clear hv
    repeat refine zs ?_
    refine ⟨.inr rfl, _, rfl, ?_, (Keeps.refl h).new _⟩
    simp only [resOf, rop, opd, celsL, oneV, aadd, binV, isSh, intBin, scEq, keq, unV, fillL, oP, oA, oS, wantedA, BX, BL, BS, seval, *]
def ExtR (h : AHeap) (N : Nat) (a : Option Addr) (L' : List Arc3) (r : Value) (h' : AHeap) : Prop :=
  ∃ a' c', r = .slice a' L'.length c' ∧ OwnV N h' a' c' 3 (L'.map arcV) ∧ KeepsBut (fun i => ∃ y, a = some y ∧ y.block = i) h h' ∧ ∀ x, a' = some x → (∃ y, a = some y ∧ y.block = x.block) ∨ h.next ≤ x.block
set_option maxHeartbeats 4000000 in
theorem f92_ok (W : World) (h : AHeap) (N : Nat) (a : Option Addr) (n c : Nat) (L : List Arc3) (f t s : Int) (ho : OwnV N h a c 3 (L.map arcV)) (hn : L.length = n) (hN : N ≤ h.next) (hf : 0 ≤ f ∧ f ≤ 1114111) (hLr : ∀ x ∈ L, 0 ≤ x.2.1 ∧ x.2.1 ≤ 1114111) (hl : n < 1073741824) :
    ACalls Tryz.prog W 92 [.slice a n c, .int .i32 f, .int .i32 t, .int .i64 s] h (fun r h' => ExtR h N a (addArc L (f, t, s)) r h') := by
  refine ACalls_ofX hmix c92 (Nat.le_of_ble_eq_true rfl) ?_
  unfold r92
  dsimp only [Rc.t, Rc.u, Rc.v, Rc.o, Rc.i, Rc.p, Rc.q, Rc.s, Rc.b, Rc.k, Rc.g, Rc.S, Rc.D]
  simp only [envOf4]
  have newArc : ∀ (hadd : addArc L (f, t, s) = L ++ [(f, t, s)]), ∃ a' c' h3, appA W (h.new (.cells [.int .i32 f, .int .i32 t, .int .i64 s])) 3 (.slice a n c) (.slice (some ⟨h.next, 0, some 0⟩) 1 3) = some (.slice a' (addArc L (f, t, s)).length c', h3) ∧ ExtR h N a (addArc L (f, t, s)) (.slice a' (addArc L (f, t, s)).length c') h3 := by
    intro hadd
    obtain ⟨a', c', h3, g1, g2, g3, g4, g5, g6⟩ := OwnV.app (W := W) (h0 := ⟨h.own, N⟩) (h := h.new (.cells (arcV (f, t, s)))) (b' := h.next) (e := arcV (f, t, s)) (ho.keeps ((Keeps.refl _).new _)) ⟨by rw [AHeap.new_next]; show N ≤ _; omega, fun i hi => by have hi : i < N := hi; rw [AHeap.new_get, if_neg (by omega)]⟩ (Nat.le_refl _)
      (by rw [AHeap.new_next]; omega) (by rw [AHeap.new_get, if_pos rfl]) (by rw [AHeap.new_next]; omega) rfl rfl (by simp; omega)
    rw [List.length_map, List.length_append, List.length_map, List.length_singleton, hn] at g1
    refine ⟨a', c', h3, ?_, a', c', rfl, ?_, ?_, fun x hx => .inr ?_⟩
    · rw [hadd, List.length_append, List.length_singleton, hn]
      exact g1
    · rw [hadd, List.map_append]; exact g2
    · exact ((KeepsBut.refl _ h).new _).step g5 (by rw [g4]; omega) (fun y hy => .inr ⟨y, hy, rfl⟩)
    · rcases Nat.lt_or_ge x.block (h.next + 1) with hlt | hge
      · exact absurd rfl (g6 x.block (by rw [AHeap.new_next]; omega) x hx)
      · omega
  have hwf : IntKind.i32.wrap (f - 1) = f - 1 := wrap_i32 (by omega) (by omega)
  rcases last_or L with hnil | ⟨l0, f', t', s', hl0⟩
  · obtain ⟨a', c', h3, happ, hE⟩ := newArc (by rw [hnil]; rfl)
    have hn0 : n = 0 := by rw [← hn, hnil]; rfl
    obtain ⟨L', hLe⟩ : ∃ L', L' = addArc L (f, t, s) := ⟨_, rfl⟩
    rw [← hLe] at happ hE ⊢
    subst hn0
    have hw : IntKind.i64.wrap (-1) = -1 := by decide
    have hge : ¬ (-1 : Int) ≥ 0 := by decide
    clear hnil newArc hLr hLe hn
    repeat refine zs ?_
    refine ⟨.inr rfl, _, rfl, ?_⟩
    simp only [resOf, rop, opd, celsL, oneV, aadd, binV, isSh, intBin, scEq, keq, unV, fillL, oP, oA, oS, wantedA, BX, BL, BS, seval, *]
  · obtain ⟨m, hm⟩ : ∃ m, m = l0.length := ⟨_, rfl⟩
    have hLm : n = m + 1 := by rw [← hn, hl0, hm]; simp
    rcases ho with ⟨_, _, hnil⟩ | ⟨b', rfl, rfl, hb1', hb2'⟩
    · rw [hl0] at hnil; simp at hnil
    have hb2'' := hb2'
    rw [hl0] at hb2''
    obtain ⟨C, hC, hC1, hC2, hble, C2, hsp, ho2⟩ := Ow.lastArc hb2'' t
    rw [← hm] at hC1 hC2 hble hsp
    have hwm : IntKind.i64.wrap ((n : Int) - 1) = (m : Int) := (wrap_i64 (by omega) (by omega)).trans (by omega)
    have hidx : idxV 3 (.slice (some ⟨b', 0, some 0⟩) n 3) (.int .i64 m) = some (.pointer (some ⟨b', m * 3, some 0⟩)) := idx_own (by omega)
    have hge : (m : Int) ≥ 0 := by omega
    have hlast := hLr (f', t', s') (by rw [hl0]; simp)
    simp only at hlast
    by_cases hjoin : t' + 1 = f ∧ s' = s
    · have hadd : addArc L (f, t, s) = l0 ++ [(f', t, s')] := by rw [hl0]; exact addArc_join hjoin.1 hjoin.2
      obtain ⟨L', hLe⟩ : ∃ L', L' = addArc L (f, t, s) := ⟨_, rfl⟩
      have hLe' : L' = l0 ++ [(f', t, s')] := by rw [hLe, hadd]
      rw [← hLe]
      rw [← hLe'] at ho2
      have hlen : L'.length = n := by rw [hLe', ← hn, hl0]; simp
      have hj1 : decide (t' = f - 1) = true := decide_eq_true (by omega)
      have hj2 : decide (s' = s) = true := decide_eq_true hjoin.2
      have hE : ExtR h N (some ⟨b', 0, some 0⟩) L' (.slice (some ⟨b', 0, some 0⟩) n 3) (h.put b' (.cells C2)) :=
        ⟨_, _, by rw [hlen], .inr ⟨b', rfl, rfl, hb1', ho2⟩, (KeepsBut.refl _ h).put (.inr ⟨_, rfl, rfl⟩) _, fun x hx => .inl ⟨_, rfl, by cases hx; rfl⟩⟩
      clear hjoin hadd hLe hLe' newArc hLr hl0 hm ho2 hb2' hb2'' hLm hn hlen hlast
      repeat refine zs ?_
      refine ⟨.inr rfl, _, rfl, ?_⟩
      simp only [resOf, rop, opd, celsL, oneV, aadd, binV, isSh, intBin, scEq, keq, unV, fillL, oP, oA, oS, wantedA, BX, BL, BS, seval, *]
    · have hadd : addArc L (f, t, s) = L ++ [(f, t, s)] := by rw [hl0]; exact addArc_new hjoin
      obtain ⟨a', c', h3, happ, hE⟩ := newArc hadd
      obtain ⟨L', hLe⟩ : ∃ L', L' = addArc L (f, t, s) := ⟨_, rfl⟩
      rw [← hLe] at happ hE ⊢
      clear hadd hLe newArc hLr hl0 hm ho2 hb2' hb2'' hLm hsp hble hn
      by_cases hj1 : t' + 1 = f
      · have hj1' : decide (t' = f - 1) = true := decide_eq_true (by omega)
        have hj2 : ¬ s' = s := fun e => hjoin ⟨hj1, e⟩
        clear hj1 hjoin hlast
        repeat refine zs ?_
        refine ⟨.inr rfl, _, rfl, ?_⟩
        simp only [resOf, rop, opd, celsL, oneV, aadd, binV, isSh, intBin, scEq, keq, unV, fillL, oP, oA, oS, wantedA, BX, BL, BS, seval, *]
      · have hj1' : decide (t' = f - 1) = false := decide_eq_false (by omega)
        clear hjoin hj1 hlast
        repeat refine zs ?_
        refine ⟨.inr rfl, _, rfl, ?_⟩
        simp only [resOf, rop, opd, celsL, oneV, aadd, binV, isSh, intBin, scEq, keq, unV, fillL, oP, oA, oS, wantedA, BX, BL, BS, seval, *]
end Go.Proofs.YtlipmjpapkfaeaaGreatDoor.Fn
end
