/- automaton.minimal (F44) in the machine: it answers the canonical automaton. No condition but sizes.
Merged from 3 texts. -/
import Derived.Test.YtlipmjpapkfaeaaGreatDoorZD33
import Derived.Test.YtlipmjpapkfaeaaGreatDoorZD13
import Derived.Test.YtlipmjpapkfaeaaGreatDoorZD31
import Derived.Test.YtlipmjpapkfaeaaGreatDoorZD32
section
set_option linter.unusedSimpArgs false
set_option linter.unusedVariables false
set_option maxRecDepth 100000
namespace Go.Proofs.YtlipmjpapkfaeaaGreatDoor.Fn
open Go Go.Mach Go.RowKit Go.Proofs
attribute [local irreducible] AOps WPX DOps thenS blockS AOp GOps CPick
theorem keyA_len {E : Int → List Arc3} {F : Int → Bool} {D : Int → Prop} {k0 : Int} {N : Nat} (K : Keyed2 E F D k0 N) : ∀ l ∈ (keyA E F k0 N).arcs, ∃ k, D k ∧ l.length ≤ (E k).length := by
  intro l hl
  obtain ⟨i, hi⟩ := List.mem_iff_getElem?.1 hl
  have hlt : i < N := by
    have := (List.getElem?_eq_some_iff.1 hi).1
    rwa [show (keyA E F k0 N).arcs.length = N from rounds_arcs K.fin N (Nat.le_refl _)] at this
  obtain ⟨k, h1, h2, h3, h4⟩ := rounds_arc K.fin hlt
  have hD := rounds_keys K.d0 K.dE N k (List.mem_of_getElem? h1)
  rw [show (keyA E F k0 N).arcs[i]? = (rounds E k0 N).2[i]? from rfl, h3] at hi
  cases hi
  have := (expFold_len (E k) ((rounds E k0 i).1, [])).1
  simp only [List.length_nil, Nat.zero_add] at this
  exact ⟨k, hD, this⟩
set_option maxHeartbeats 8000000 in
theorem f44_ok (W : World) (h : AHeap) (v : Value) (A : Aut) (vf va : Value) (vs : List Value) (limit : Int) (hA : AutoV W h v A vf va vs) (w : Wf A) (hn0 : 0 < A.fin.length) (hn : A.fin.length ≤ 256) (hb : ∀ l ∈ A.arcs, l.length < 1048576) (hlim : (A.fin.length : Int) ≤ limit) (hlimit : limit < 1048576) :
    ACalls Tryz.prog W 44 [v, .int .i64 limit] h (fun r h' => ∃ M vf va vs, r = .tuple #[.agg #[vf, va], .bool true] ∧ Canon M ∧ (∀ cs, acc M 0 cs = acc A 0 cs) ∧ (M.fin.length ≤ A.fin.length ∧ ∀ l ∈ M.arcs, l.length < 1048576) ∧ FreshA W h.next h' M vf va vs ∧ Keeps h h') := by
  have hA' := hA
  obtain ⟨rfl, hf, ha, hl, he⟩ := hA
  obtain ⟨fa, fc, hfs⟩ := hf.len
  obtain ⟨aa, ac, has⟩ := ha.len
  rw [List.length_map] at hfs has
  rw [hl, w.len] at has
  subst hfs has
  rw [w.len] at hl
  refine ACalls_ofX hmix c44 (Nat.le_of_ble_eq_true rfl) ?_
  unfold r44
  dsimp only [Rc.t, Rc.u, Rc.v, Rc.o, Rc.i, Rc.p, Rc.q, Rc.s, Rc.b, Rc.k, Rc.g, Rc.S, Rc.D]
  simp only [envOf2]
  obtain ⟨n, hnn⟩ : ∃ n, n = A.fin.length := ⟨_, rfl⟩
  obtain ⟨H, hH⟩ : ∃ H, H = (h.new (.cells [.slice fa n fc, .slice aa n ac])).new (.cells [.slice none 0 0, .slice none 0 0]) := ⟨_, rfl⟩
  have hHn : H.next = h.next + 2 := by rw [hH]; rfl
  have hkH : Keeps h H := by rw [hH]; exact ((Keeps.refl h).new _).new _
  have hbH : H.own.get h.next = some (.cells [.slice fa n fc, .slice aa n ac]) := by rw [hH, AHeap.new_get, AHeap.new_next, if_neg (by omega), AHeap.new_get, if_pos rfl]
  have hb4 : H.own.get (h.next + 1) = some (.cells [.slice none 0 0, .slice none 0 0]) := by rw [hH, AHeap.new_get, AHeap.new_next, if_pos rfl]
  have h78 := f78_ok W H _ A _ _ vs limit (hA'.keeps hkH) w hn hb hlim
  rw [← hnn] at hf ha hA' hl hn hn0 h78 hlim ⊢
  have hldH : aloadN W H ⟨h.next, 0, some 0⟩ 2 = some [.slice fa n fc, .slice aa n ac] := aload2 hbH
  rw [hH] at h78 hldH
  replace hnn : Hid (n = A.fin.length) := hnn
  repeat refine zs ?_
  refine ops_callK zv za h78 ?_
  rintro r1 h1 ⟨⟨ca, cc, cl, rfl, hoc, hCl⟩, hk1⟩
  rw [← hH] at hk1 hoc
  have hcl : cl.length = n := by rw [hCl.len]; exact hnn.out.symm
  have hk01 : Keeps h h1 := hkH.trans hk1
  have hlt1 : h.next + 1 < h1.next := by have := hk1.le; omega
  have hb1 : h1.own.get h.next = some (.cells [.slice fa n fc, .slice aa n ac]) := by rw [hk1.same _ (by omega)]; exact hbH
  have hb41 : h1.own.get (h.next + 1) = some (.cells [.slice none 0 0, .slice none 0 0]) := by rw [hk1.same _ (by omega)]; exact hb4
  have hcs := hoc.sl (W := W)
  rw [List.length_map, hcl] at hcs
  have hc0 : (cl.map numV)[0]? = some (numV (cl.getD 0 (-1))) := by
    have : 0 < cl.length := by omega
    simp [List.getD, this]
  obtain ⟨d, hd1, _, hd3⟩ := hcs.at hc0
  have hr0 := (hd3 0 (.int .i64 (cl.getD 0 (-1))) rfl).1
  have hdd : aadd d 0 = d := rfl
  rw [hdd] at hr0
  have hd10 : idxV 1 (.slice ca n cc) (.int .i64 0) = some (.pointer (some d)) := hd1
  obtain ⟨k0, hk0⟩ : ∃ k0, k0 = cl.getD 0 (-1) := ⟨_, rfl⟩
  rw [← hk0] at hr0
  have hspot : d.spot ≠ none → d.block < h1.next := (hd3 0 (.int .i64 (cl.getD 0 (-1))) rfl).2
  have hr0k : ∀ g, Keeps h1 g → aload1 W g d = some (.int .i64 k0) := fun g hg => (Rd.keeps ⟨hr0, hspot⟩ hg).1
  have hw1 : IntKind.i64.wrap (1 : Int) = 1 := by decide
  replace hk0 : Hid (k0 = cl.getD 0 (-1)) := hk0
  replace hcl : Hid (cl.length = n) := hcl
  clear h78 hldH hd1 hd3 hc0 hH
  have hkc : Keeps h1 ((h1.new (.cells [.slice none 0 0])).put h1.next (.cells [.slice ca n cc])) := ((Keeps.refl h1).new _).put (Nat.le_refl _) _
  have hr1 := hr0k _ hkc
  by_cases hk00 : k0 < 0
  · -- nothing is accepted
    have hdead : ¬ Live A 0 := (hCl.dead 0 (by rw [← hnn.out]; exact hn0)).1 (by rw [← hk0.out]; exact hk00)
    obtain ⟨hcan, hacc⟩ := none_canon hdead
    obtain ⟨G, hG⟩ : ∃ G, G = (h1.new (.cells [.slice none 0 0])).put h1.next (.cells [.slice ca n cc]) := ⟨_, rfl⟩
    have hGn : G.next = h1.next + 1 := by rw [hG]; rfl
    have hkG : Keeps h1 G := by rw [hG]; exact hkc
    obtain ⟨G2, hG2⟩ : ∃ G2, G2 = (G.new (.cells [.bool false])).new (.cells (repL [.slice none 0 0] 1)) := ⟨_, rfl⟩
    have hkG2 : Keeps G G2 := by rw [hG2]; exact ((Keeps.refl G).new _).new _
    have hG2n : G2.next = h1.next + 3 := by rw [hG2]; simp only [AHeap.new_next, hGn]
    have o1 : Ow G2 (h1.next + 1) 1 [[.bool false]] := ⟨by rw [hG2, AHeap.new_get, AHeap.new_next, if_neg (by omega), AHeap.new_get, if_pos hGn.symm]; rfl, fun e he => by simp at he; subst he; rfl, by omega⟩
    have o2 : Ow G2 (h1.next + 2) 1 [[.slice none 0 0]] := ⟨by rw [hG2, AHeap.new_get, AHeap.new_next, if_pos (by omega)]; rfl, fun e he => by simp at he; subst he; rfl, by omega⟩
    obtain ⟨G3, hG3⟩ : ∃ G3, G3 = G2.put (h.next + 1) (.cells [.slice (some ⟨h1.next + 1, 0, some 0⟩) 1 1, .slice (some ⟨h1.next + 2, 0, some 0⟩) 1 1]) := ⟨_, rfl⟩
    have hput : ∀ i, h.next + 2 ≤ i → G3.own.get i = G2.own.get i := fun i hi => by rw [hG3, AHeap.put_get, if_neg (by omega)]
    have hG3n : G3.next = G2.next := by rw [hG3]; rfl
    have hk3 : Keeps h G3 := by rw [hG3]; exact (hk01.trans (hkG.trans hkG2)).put (by omega) _
    obtain ⟨g1, s1, s2, p1, n1, q1⟩ := OwnV.freeze (g := AHeap.empty) (N := h.next) (h := G3) (a := some ⟨h1.next + 1, 0, some 0⟩) (c := 1) (esz := 1) (es := [[.bool false]]) (.inr ⟨_, rfl, rfl, by omega, o1.same (hput _ (by omega)) (by omega)⟩) ⟨Nat.zero_le _, fun i b hb => by cases hb⟩ (fun x _ => rfl)
    obtain ⟨g2, s3, s4, p2, n2, _⟩ := OwnV.freeze (g := g1) (N := h.next) (h := G3) (a := some ⟨h1.next + 2, 0, some 0⟩) (c := 1) (esz := 1) (es := [[.slice none 0 0]]) (.inr ⟨_, rfl, rfl, by omega, o2.same (hput _ (by omega)) (by omega)⟩) s1 (q1 (some ⟨h1.next + 2, 0, some 0⟩) (fun x y hx hy => by cases hx; cases hy; show h1.next + 1 ≠ h1.next + 2; omega) (fun x _ => rfl))
    have hF : FreshA W h.next G3 noneA (.slice (some ⟨h1.next + 1, 0, some 0⟩) 1 1) (.slice (some ⟨h1.next + 2, 0, some 0⟩) 1 1) [.slice none 0 0] := by
      refine ⟨g2, s3, fun j hj => n2 j hj (n1 j hj rfl), rfl, ?_, ?_, rfl, fun i x l hx hl => ?_⟩
      · exact (p1.sub s4).sl
      · exact p2.sl
      · have hi0 : i = 0 := by have := (List.getElem?_eq_some_iff.1 hx).1; simp at this; exact this
        subst hi0
        simp [noneA] at hx hl
        subst hx hl
        exact ⟨none, 0, rfl, (fun b hb => by cases hb), fun _ => ⟨rfl, rfl⟩⟩
    have hbG : G2.own.get (h.next + 1) = some (.cells [.slice none 0 0, .slice none 0 0]) := by rw [hkG2.same _ (by omega), hkG.same _ (by omega)]; exact hb41
    have hrs : aloadN W G3 ⟨h.next + 1, 0, some 0⟩ 2 = some [.slice (some ⟨h1.next + 1, 0, some 0⟩) 1 1, .slice (some ⟨h1.next + 2, 0, some 0⟩) 1 1] := aload2 (by rw [hG3, AHeap.put_get, if_pos rfl])
    have e1 : ¬ h.next = h1.next := by omega
    have e2 : ¬ h.next = h1.next + 1 := by omega
    have e3 : ¬ h.next + 1 = h1.next := by omega
    have e4 : ¬ h.next + 1 = h1.next + 1 := by omega
    have e5 : ¬ h.next + 1 = h1.next + 2 := by omega
    have hM1 : noneA.fin.length ≤ n ∧ ∀ l ∈ noneA.arcs, l.length < 1048576 := ⟨by show 1 ≤ n; omega, fun l hl => by simp [noneA] at hl; subst hl; decide⟩
    have h0 : (0 : Int) ≤ 1 := by decide
    have ht1 : (1 : Int).toNat = 1 := rfl
    rw [hG3, hG2, hG] at hF hk3 hrs
    clear hcs hoc hr0k hr0 hspot hkc q1 s1 s2 s3 s4 p1 p2 n1 n2 hput o1 o2 hbG
    repeat refine zs ?_
    refine ⟨.inr rfl, [.agg #[.slice (some ⟨h1.next + 1, 0, some 0⟩) 1 1, .slice (some ⟨h1.next + 2, 0, some 0⟩) 1 1], .bool true], ?_, noneA, _, _, _, rfl, hcan, hacc, hM1, hF, hk3⟩
    simp only [resVals, rop, opd, celsL, oneV, aadd, binV, isSh, intBin, scEq, keq, unV, fillL, oP, oA, oS, wantedA, BX, BL, BS, seval, *]
  · have hk0p : 0 ≤ cl.getD 0 (-1) := by have := hk0.out; omega
    obtain ⟨G, hG⟩ : ∃ G, G = (h1.new (.cells [.slice none 0 0])).put h1.next (.cells [.slice ca n cc]) := ⟨_, rfl⟩
    have hGn : G.next = h1.next + 1 := by rw [hG]; rfl
    have hkG : Keeps h1 G := by rw [hG]; exact hkc
    have hG6 : G.own.get h1.next = some (.cells [.slice ca n cc]) := by rw [hG, AHeap.put_get, if_pos rfl]
    obtain ⟨H2, hH2⟩ : ∃ H2, H2 = ((G.new (.map [])).new (.cells [.map none])).put (h1.next + 2) (.cells [.map (some (h1.next + 1))]) := ⟨_, rfl⟩
    have hH2n : H2.next = h1.next + 3 := by rw [hH2]; simp only [AHeap.put_next, AHeap.new_next, hGn]
    have hkH2 : Keeps h1 H2 := by rw [hH2]; exact ((hkG.new _).new _).put (by omega) _
    have hm2 : H2.own.get (h1.next + 1) = some (.map (mapOf [])) := by rw [hH2, AHeap.put_get, if_neg (by omega), AHeap.new_get, AHeap.new_next, if_neg (by omega), AHeap.new_get, if_pos hGn.symm]; rfl
    have h82c : H2.own.get (h1.next + 2) = some (.cells [.map (some (h1.next + 1))]) := by rw [hH2, AHeap.put_get, if_pos rfl]
    have h62 : H2.own.get h1.next = some (.cells [.slice ca n cc]) := by rw [hH2, AHeap.put_get, if_neg (by omega), AHeap.new_get, AHeap.new_next, if_neg (by omega), AHeap.new_get, if_neg (by omega)]; exact hG6
    have hS0 : StM cl 0 [] := ⟨fun p hp => by simp at hp, fun q k hq => by omega⟩
    have hn2 : h1.next + 3 ≤ H2.next := by omega
    have e1 : ¬ h1.next = h1.next + 1 := by omega
    rw [hH2, hG] at hkH2 hm2 h82c h62 hn2
    repeat refine zs ?_
    refine WPX.loop hmix (fun k σ => ∃ i st, i ≤ n ∧ k = n - i ∧ eget σ.e 1 = .int .i64 limit ∧ eget σ.e 2 = .pointer (some ⟨h.next, 0, some 0⟩) ∧ eget σ.e 4 = .pointer (some ⟨h.next + 1, 0, some 0⟩) ∧ eget σ.e 6 = .pointer (some ⟨h1.next, 0, some 0⟩) ∧ eget σ.e 8 = .pointer (some ⟨h1.next + 2, 0, some 0⟩) ∧
      eget σ.e 30 = .slice ca n cc ∧ eget σ.e 31 = .int .i64 n ∧ eget σ.e 32 = .int .i64 (i : Nat) ∧ Keeps h1 σ.h ∧ σ.h.own.get (h1.next + 1) = some (.map (mapOf st)) ∧ σ.h.own.get (h1.next + 2) = some (.cells [.map (some (h1.next + 1))]) ∧ σ.h.own.get h1.next = some (.cells [.slice ca n cc]) ∧ h1.next + 3 ≤ σ.h.next ∧ StM cl i st) n ?h1 ?round1
    case h1 => exact ⟨0, [], Nat.zero_le _, rfl, zv, zv, zv, zv, zv, zv, zv, zv, hkH2, hm2, h82c, h62, hn2, hS0⟩
    clear hkH2 hm2 h82c h62 hn2 hS0 hH2 hH2n hG hGn hkG hG6 hr1 hkc e1
    rintro K ⟨e, g⟩ ⟨i, st, hi, rfl, e1, e2, e4, e6, e8, e30, e31, e32, hkg, hmg, h8g, h6g, hgn, hS⟩
    dsimp only at e1 e2 e4 e6 e8 e30 e31 e32 hkg hmg h8g h6g hgn
    by_cases hlt : i < n
    · have hltI : (i : Int) < n := by omega
      have hw2 : IntKind.i64.wrap ((i : Int) + 1) = ((i + 1 : Nat) : Int) := wrap_i64 (by omega) (by omega)
      obtain ⟨k, hk⟩ : ∃ k, cl[i]? = some k := ⟨_, List.getElem?_eq_getElem (by rw [hcl.out]; exact hlt)⟩
      have hx : (cl.map numV)[i]? = some (numV k) := by simp [hk]
      obtain ⟨d2, hd21, _, hd23⟩ := ((hoc.keeps hkg).sl (W := W)).at hx
      rw [List.length_map, hcl.out] at hd21
      have hr2 := (hd23 0 (.int .i64 k) rfl).1
      have hdd2 : aadd d2 0 = d2 := rfl
      rw [hdd2] at hr2
      obtain ⟨st', hmu, hS'⟩ := hS.upd hmg hk
      have hkf : Keeps h1 (g.put (h1.next + 1) (.map (mapOf st'))) := hkg.put (by omega) _
      have f1 : (g.put (h1.next + 1) (.map (mapOf st'))).own.get (h1.next + 1) = some (.map (mapOf st')) := by rw [AHeap.put_get, if_pos rfl]
      have f2 : (g.put (h1.next + 1) (.map (mapOf st'))).own.get (h1.next + 2) = some (.cells [.map (some (h1.next + 1))]) := by rw [AHeap.put_get, if_neg (by omega)]; exact h8g
      have f3 : (g.put (h1.next + 1) (.map (mapOf st'))).own.get h1.next = some (.cells [.slice ca n cc]) := by rw [AHeap.put_get, if_neg (by omega)]; exact h6g
      clear hd23 hx hk hS
      repeat refine zs ?_
      exact ⟨n - (i + 1), by omega, i + 1, st', by omega, rfl, zv, zv, zv, zv, zv, zv, zv, zv, hkf, f1, f2, f3, hgn, hS'⟩
    · have hltI : ¬ (i : Int) < n := by omega
      have hin : i = n := by omega
      rw [hin] at hS
      clear hin
      have hrep : ∀ k : Int, (∃ q : Nat, q < n ∧ cl.getD q (-1) = k) → _ := fun k hk => hS.rep hcl.out hk
      have hI : MinI A cl (repOf st) := ⟨w, hCl, fun k _ hk => by
        rw [← hnn.out] at hk ⊢
        obtain ⟨a, b, _⟩ := hrep k hk
        exact ⟨a, b⟩⟩
      have hbg : g.own.get h.next = some (.cells [.slice fa n fc, .slice aa n ac]) := by rw [hkg.same _ (by omega)]; exact hb1
      have hb4g : g.own.get (h.next + 1) = some (.cells [.slice none 0 0, .slice none 0 0]) := by rw [hkg.same _ (by omega)]; exact hb41
      have hkhg : Keeps h g := hk01.trans hkg
      have hrg := hr0k g hkg
      have hDn : ∀ k, minD A cl k → ∃ q : Nat, q < n ∧ cl.getD q (-1) = k := fun k hk => by have := hk.2; rw [← hnn.out] at this; exact this
      have hkey : ∀ N, (rounds (minE A cl (repOf st)) (cl.getD 0 (-1)) N).1.length ≤ n := fun N => by
        refine keys_bound (rounds_nodup _ _ N) (fun k hk => ?_)
        have hd0 : minD A cl (cl.getD 0 (-1)) := ⟨hk0p, 0, by rw [← hnn.out]; exact hn0, rfl⟩
        have hdE : ∀ k, minD A cl k → ∀ y ∈ minE A cl (repOf st) k, minD A cl y.2.2 := fun k hk y hy => by
          obtain ⟨r1, r2⟩ := hI.rep k hk.1 hk.2
          obtain ⟨h1, z, hz, e⟩ := byClass_keys cl _ y hy
          have hzr := (w.range (List.mem_of_getElem? (getD_arcs w r1)) hz).2
          exact ⟨h1, z.2.2.toNat, by omega, e.symm⟩
        obtain ⟨h2, q, hq, e⟩ := rounds_keys hd0 hdE N k hk
        have := hCl.bound q hq
        have := hnn.out
        omega
      have h82 := f82_ok W g (cl.getD 0 (-1)) 79 80 #[.pointer (some ⟨h.next, 0, some 0⟩), .pointer (some ⟨h1.next + 2, 0, some 0⟩)] #[.pointer (some ⟨h.next, 0, some 0⟩), .pointer (some ⟨h1.next + 2, 0, some 0⟩), .pointer (some ⟨h1.next, 0, some 0⟩)] limit (minF A (repOf st)) (minE A cl (repOf st)) (minD A cl)
        ⟨hk0p, 0, by rw [← hnn.out]; exact hn0, rfl⟩
        (fun k hk y hy => by
          obtain ⟨r1, r2⟩ := hI.rep k hk.1 hk.2
          obtain ⟨h1, z, hz, e⟩ := byClass_keys cl _ y hy
          have hzr := (w.range (List.mem_of_getElem? (getD_arcs w r1)) hz).2
          exact ⟨h1, z.2.2.toNat, by omega, e.symm⟩)
        (fun k hk => by
          obtain ⟨r1, r2⟩ := hI.rep k hk.1 hk.2
          exact byClassM_in (arcs_in w r1).2)
        (fun k hk => by
          obtain ⟨r1, r2⟩ := hI.rep k hk.1 hk.2
          exact Nat.lt_of_le_of_lt (byClassM_len _) (hb _ (List.mem_of_getElem? (getD_arcs w r1))))
        (fun N => by have := hkey N; omega) hlimit
        (fun h' k hk hDk => by
          obtain ⟨r1, r2, r3⟩ := hrep k (hDn k hDk)
          exact f79_ok W h' h.next (h1.next + 1) (h1.next + 2) A _ _ vs k (repOf st k) (by rw [hk.same _ (by omega)]; exact hbg) (hA'.keeps (hkhg.trans hk)) (by rw [hk.same _ (by omega)]; exact h8g)
            (r3 (by rw [hk.same _ (by omega)]; exact hmg)) (by rw [← hnn.out]; exact r1))
        (fun h' k hk hDk => by
          obtain ⟨r1, r2, r3⟩ := hrep k (hDn k hDk)
          have hcs' := (hoc.keeps (hkg.trans hk)).sl (W := W)
          rw [List.length_map, hcl.out] at hcs'
          exact f80_ok W h' h.next (h1.next + 1) (h1.next + 2) h1.next A _ _ vs k (repOf st k) cl _ (by rw [hk.same _ (by omega)]; exact hbg) (hA'.keeps (hkhg.trans hk)) (by rw [hk.same _ (by omega)]; exact h8g) (by rw [hk.same _ (by omega)]; exact h6g) hcs'
            (by rw [hcl.out]; exact hnn.out) w hb (r3 (by rw [hk.same _ (by omega)]; exact hmg)) (by rw [← hnn.out]; exact r1))
      rw [← hk0.out] at h82
      clear hrep hDn
      repeat refine zs ?_
      refine ops_callK zv za h82 ?_
      rintro r2 g2 ⟨vf', va', vs', N, hN, rfl, hAV, hk2⟩
      clear h82
      rw [hk0.out] at hN hAV
      obtain ⟨hcan, hacc⟩ := min_canon hI (by rw [← hnn.out]; exact hn0) hk0p hN
      have hMl : (keyA (minE A cl (repOf st)) (minF A (repOf st)) (cl.getD 0 (-1)) N).fin.length ≤ n ∧ ∀ l ∈ (keyA (minE A cl (repOf st)) (minF A (repOf st)) (cl.getD 0 (-1)) N).arcs, l.length < 1048576 := by
        refine ⟨?_, fun l hl => ?_⟩
        rotate_left
        · obtain ⟨k, hk, hle⟩ := keyA_len (min_keyed hI (by rw [← hnn.out]; exact hn0) hk0p hN) l hl
          obtain ⟨r1, r2⟩ := hI.rep k hk.1 hk.2
          exact Nat.lt_of_le_of_lt hle (Nat.lt_of_le_of_lt (byClassM_len _) (hb _ (List.mem_of_getElem? (getD_arcs w r1))))
        show ((rounds (minE A cl (repOf st)) (cl.getD 0 (-1)) N).1.map (minF A (repOf st))).length ≤ n
        rw [List.length_map]; exact hkey N
      obtain ⟨fa', n1, fc', aa', n2, ac', rfl, rfl⟩ := AutoV.slices hAV.auto
      have hb42 : g2.own.get (h.next + 1) = some (.cells [.slice none 0 0, .slice none 0 0]) := by rw [hk2.same _ (by omega)]; exact hb4g
      have hkf : Keeps h (g2.put (h.next + 1) (.cells [.slice fa' n1 fc', .slice aa' n2 ac'])) := (hkhg.trans hk2).put (by omega) _
      have hF : FreshA W h.next (g2.put (h.next + 1) (.cells [.slice fa' n1 fc', .slice aa' n2 ac'])) (keyA (minE A cl (repOf st)) (minF A (repOf st)) (cl.getD 0 (-1)) N) (.slice fa' n1 fc') (.slice aa' n2 ac') vs' := (FreshA.put hAV (by omega) _).base (by omega)
      have hrs : aloadN W (g2.put (h.next + 1) (.cells [.slice fa' n1 fc', .slice aa' n2 ac'])) ⟨h.next + 1, 0, some 0⟩ 2 = some [.slice fa' n1 fc', .slice aa' n2 ac'] := aload2 (by rw [AHeap.put_get, if_pos rfl])
      repeat refine zs ?_
      refine ⟨.inr rfl, [.agg #[.slice fa' n1 fc', .slice aa' n2 ac'], .bool true], ?_, _, _, _, vs', rfl, hcan, hacc, hMl, hF, hkf⟩
      simp only [resVals, rop, opd, celsL, oneV, aadd, binV, isSh, intBin, scEq, keq, unV, fillL, oP, oA, oS, wantedA, BX, BL, BS, seval, *]
end Go.Proofs.YtlipmjpapkfaeaaGreatDoor.Fn
end
section
set_option linter.unusedSimpArgs false
set_option linter.unusedVariables false
namespace Go.Proofs.YtlipmjpapkfaeaaGreatDoor.Fn
open Go Go.Mach Go.RowKit Go.Proofs
section
variable {ps : List Int} {F : List Bool} {rows : List (List Int)} {d : List Int} {lv : List Bool}
def rawP (ps : List Int) (rows : List (List Int)) (d : List Int) (lv : List Bool) (s q : Nat) : List Arc3 := ((rawL ps (rows.getD s [])).take q).filterMap (keepE d lv)
theorem rawP_zero (s : Nat) : rawP ps rows d lv s 0 = [] := by simp [rawP]
theorem rawP_full (s : Nat) {q : Nat} (hq : ps.length ≤ q) : rawP ps rows d lv s q = rawE ps rows d lv s := by
  unfold rawP rawE
  rw [List.take_of_length_le (by rw [rawL_len]; exact hq)]
theorem rawP_succ (t : TabOk ps F rows) {s q : Nat} (hs : s < F.length) (hq : q < ps.length) : rawP ps rows d lv s (q + 1) = rawP ps rows d lv s q ++ if bt lv (cel rows s q) = true then [(ps.getD q 0, endZ ps q, nm d (cel rows s q))] else [] := by
  unfold rawP
  rw [List.take_add_one, rawL_get ps _ hq, List.filterMap_append]
  congr 1
  have hc := (t.cell_lt hs hq).2
  have e : keepE d lv (ps.getD q 0, endZ ps q, (rows.getD s []).getD q 0) = if bt lv (cel rows s q) = true then some (ps.getD q 0, endZ ps q, nm d (cel rows s q)) else none := by
    unfold keepE
    simp only [hc, Int.toNat_natCast]
  show List.filterMap (keepE d lv) [(ps.getD q 0, endZ ps q, (rows.getD s []).getD q 0)] = _
  rw [List.filterMap_cons, e]
  by_cases h : bt lv (cel rows s q) = true
  · simp [h]
  · simp [h]
theorem rawP_len (s q : Nat) : (rawP ps rows d lv s q).length ≤ q := by
  unfold rawP
  refine Nat.le_trans (List.length_filterMap_le _ _) ?_
  rw [List.length_take]; omega
theorem rawE_len (s : Nat) : (rawE ps rows d lv s).length ≤ ps.length := by
  unfold rawE
  refine Nat.le_trans (List.length_filterMap_le _ _) ?_
  rw [rawL_len]; omega
theorem rawP_in (t : TabOk ps F rows) (s q : Nat) : InR (rawP ps rows d lv s q) := fun y hy => by
  obtain ⟨x, hx, _, rfl⟩ := keepE_mem hy
  exact raw_in t.pts _ x (List.mem_of_mem_take hx)
theorem expState_snoc (ks : List Int) (l : List Arc3) (e : Arc3) : expState ks (l ++ [e]) = expEdge (expState ks l) e := by
  unfold expState; rw [List.foldl_append]; rfl
def clsE (ps : List Int) (rows : List (List Int)) (d : List Int) (lv : List Bool) (k : Int) : List Arc3 := rawE ps rows d lv (repI d k)
def clsF (F : List Bool) (d : List Int) (k : Int) : Bool := bt F (repI d k)
theorem rep_of (hd : ClsL ps F rows d) {s : Nat} (hs : s < F.length) : repI d (nm d s) < F.length ∧ nm d (repI d (nm d s)) = nm d s := by
  have := repI_ok (d := d) (q := s) (by rw [hd.len]; exact hs) rfl
  rwa [hd.len] at this
theorem clsE_of (t : TabOk ps F rows) (hd : ClsL ps F rows d) (hl : LiveL ps F rows lv) {s : Nat} (hs : s < F.length) : clsE ps rows d lv (nm d s) = rawE ps rows d lv s := by
  obtain ⟨r1, r2⟩ := rep_of hd hs
  exact rawE_same t hd hl r1 hs r2
theorem clsF_of (t : TabOk ps F rows) (hd : ClsL ps F rows d) {s : Nat} (hs : s < F.length) : clsF F d (nm d s) = bt F s := by
  obtain ⟨r1, r2⟩ := rep_of hd hs
  have := (hd.eqv _ s r1 hs).1 r2 []
  rwa [tab_nil, tab_nil] at this
theorem rounds_cls (t : TabOk ps F rows) (hd : ClsL ps F rows d) (h0 : 0 < F.length) (i : Nat) : ∀ k ∈ (rounds (clsE ps rows d lv) (nm d 0) i).1, 0 ≤ k ∧ k < F.length := by
  refine rounds_keys (D := fun k => (0 ≤ k ∧ k < F.length) ∧ ∃ s : Nat, s < F.length ∧ nm d s = k) ⟨hd.rng 0 h0, 0, h0, rfl⟩ (fun k hk x hx => ?_) i |> fun h k hk => (h k hk).1
  obtain ⟨y, hy, _, rfl⟩ := keepE_mem hx
  obtain ⟨_, s, hs, rfl⟩ := hk
  obtain ⟨q, hq, e⟩ := rawL_tgt y hy
  have hc := t.cell_lt (rep_of hd hs).1 hq
  rw [hc.2] at e
  simp only [e, Int.toNat_natCast]
  exact ⟨hd.rng _ hc.1, _, hc.1, rfl⟩
theorem rounds_clsN (t : TabOk ps F rows) (hd : ClsL ps F rows d) (h0 : 0 < F.length) (i : Nat) : (rounds (clsE ps rows d lv) (nm d 0) i).1.length ≤ F.length :=
  keys_bound (rounds_nodup _ _ i) (rounds_cls t hd h0 i)
theorem tab_result (t : TabOk ps F rows) (hd : ClsL ps F rows d) (hl : LiveL ps F rows lv) (h0 : 0 < F.length) {N : Nat} (hN : (rounds (clsE ps rows d lv) (nm d 0) N).1.length = N) :
    Canon (keyA (clsE ps rows d lv) (clsF F d) (nm d 0) N) ∧ (∀ cs, acc (keyA (clsE ps rows d lv) (clsF F d) (nm d 0) N) 0 cs = acc (tabA ps F rows) 0 cs) ∧ N ≤ F.length ∧ ∀ l ∈ (keyA (clsE ps rows d lv) (clsF F d) (nm d 0) N).arcs, l.length ≤ ps.length := by
  have hNn : N ≤ F.length := by have := rounds_clsN (lv := lv) t hd h0 N; omega
  have g : ∀ q, q < F.length → (clsL d lv).getD q (-1) = if bt lv q then nm d q else -1 := fun q hq => clsL_get d lv (by rw [hd.len]; exact hq)
  by_cases hb : bt lv 0 = true
  · have hk0 : (clsL d lv).getD 0 (-1) = nm d 0 := by rw [g 0 h0, if_pos hb]
    have I := tab_min t hd hl
    have hpos : 0 ≤ (clsL d lv).getD 0 (-1) := by rw [hk0]; exact (hd.rng 0 h0).1
    have hN' : (rounds (fun k => rawE ps rows d lv (repI d k)) ((clsL d lv).getD 0 (-1)) N).1.length = N := by rw [hk0]; exact hN
    have h1 := minG_canon I (by exact h0) hpos hN'
    have h2 := keyA_len (minG_keyed I (by exact h0) hpos hN')
    rw [hk0] at h1 h2
    refine ⟨h1.1, h1.2, hNn, fun l hl => ?_⟩
    obtain ⟨k, _, hle⟩ := h2 l hl
    exact Nat.le_trans hle (rawE_len _)
  · have hdead : ¬ Live (tabA ps F rows) 0 := fun hh => hb ((hl.2 0 h0).2 hh)
    have hE : clsE ps rows d lv (nm d 0) = [] := by
      rw [clsE_of t hd hl h0]
      refine List.eq_nil_iff_forall_not_mem.2 fun y hy => ?_
      obtain ⟨x, hx, hbx, _⟩ := keepE_mem hy
      obtain ⟨q, hq, e⟩ := rawL_tgt x hx
      have hc := t.cell_lt h0 hq
      rw [hc.2] at e
      rw [e, Int.toNat_natCast] at hbx
      obtain ⟨cs, hcs⟩ := (hl.2 _ hc.1).1 hbx
      exact hdead ⟨ps.getD q 0 :: cs, by have := t.stepQ h0 hq cs; exact this.trans hcs⟩
    have r1 : rounds (clsE ps rows d lv) (nm d 0) 1 = ([nm d 0], [[]]) := by
      have := rounds_succ (E := clsE ps rows d lv) (k0 := nm d 0) (i := 0) (k := nm d 0) rfl
      rw [this, hE]; rfl
    have hN1 : N = 1 := by
      rcases Nat.eq_zero_or_pos N with h | h
      · rw [h] at hN; simp [rounds] at hN
      · have := rounds_stop (E := clsE ps rows d lv) (k0 := nm d 0) (i := 1) (by rw [r1]; simp) (N - 1)
        rw [show 1 + (N - 1) = N by omega] at this
        rw [this, r1] at hN; simpa using hN.symm
    have hF0 : bt F 0 = false := by
      cases hf : bt F 0 with
      | false => rfl
      | true => exact absurd ⟨[], by rw [show ((0 : Int)) = ((0 : Nat) : Int) from rfl, tab_nil]; exact hf⟩ hdead
    have hK : keyA (clsE ps rows d lv) (clsF F d) (nm d 0) N = noneA := by
      unfold keyA
      rw [hN1, r1]
      simp only [List.map_cons, List.map_nil, clsF_of t hd h0, hF0]
      rfl
    rw [hK]
    obtain ⟨a, b⟩ := none_canon (x := tabA ps F rows) hdead
    exact ⟨a, b, hNn, fun l hl => by simp [noneA] at hl; subst hl; simp⟩
end
end Go.Proofs.YtlipmjpapkfaeaaGreatDoor.Fn
end
section
set_option linter.unusedSimpArgs false
set_option linter.unusedVariables false
set_option maxRecDepth 100000
namespace Go.Proofs.YtlipmjpapkfaeaaGreatDoor.Fn
open Go Go.Mach Go.RowKit Go.Proofs
attribute [local irreducible] AOps WPX DOps thenS blockS AOp GOps CPick
def MinTR (W : World) (N : Nat) (ps : List Int) (F : List Bool) (rows : List (List Int)) (r : Value) (h' : AHeap) : Prop :=
  ∃ M vf va ws, r = .agg #[vf, va] ∧ FreshA W N h' M vf va ws ∧ Canon M ∧ (∀ cs, acc M 0 cs = acc (tabA ps F rows) 0 cs) ∧ M.fin.length ≤ F.length ∧ ∀ l ∈ M.arcs, l.length ≤ ps.length
def cls' (d : List Int) (x : Int) : Int := nm d x.toNat
def finB (F : List Bool) (x : Int) : List Value := boolV (bt F x.toNat)
set_option maxHeartbeats 32000000 in
theorem f48_ok (W : World) (h : AHeap) (pv fv nv : Value) (vs : List Value) (ps : List Int) (F : List Bool) (rows : List (List Int)) (t : TabV W h pv fv nv vs ps F rows) (ok : TabOk ps F rows) (hpl : ps.length < 500000000) (hF0 : 0 < F.length) (hF : F.length ≤ 100000) :
    ACalls Tryz.prog W 48 [.agg #[pv, fv, nv]] h (fun r h' => MinTR W h.next ps F rows r h' ∧ Keeps h h') := by
  refine ACalls_ofX hmix c48 (Nat.le_of_ble_eq_true rfl) ?_
  unfold r48
  dsimp only [Rc.t, Rc.u, Rc.v, Rc.o, Rc.i, Rc.p, Rc.q, Rc.s, Rc.b, Rc.k, Rc.g, Rc.S, Rc.D]
  simp only [envOf1]
  obtain ⟨pa, pc, hpe⟩ := t.pts.len
  obtain ⟨fa, fc, hfe⟩ := t.fin.len
  obtain ⟨na0, nc0, hne⟩ := t.nxt.out.len
  rw [List.length_map] at hpe hfe hne
  obtain ⟨np, hnp⟩ : ∃ nf, nf = ps.length := ⟨_, rfl⟩
  obtain ⟨nn, hnn2⟩ : ∃ nn, nn = vs.length := ⟨_, rfl⟩
  obtain ⟨n, hnn⟩ : ∃ n, n = F.length := ⟨_, rfl⟩
  rw [← hnp] at hpe
  rw [← hnn2] at hne
  rw [← hnn] at hfe hF hF0
  subst hfe hpe hne
  clear hnn2
  obtain ⟨H0, hH0⟩ : ∃ H0, H0 = (h.new (.cells [.slice pa np pc, .slice fa n fc, .slice na0 nn nc0])).new (.cells [.slice none 0 0, .slice none 0 0]) := ⟨_, rfl⟩
  have hk0 : Keeps h H0 := by rw [hH0]; exact ((Keeps.refl h).new _).new _
  have hn0 : H0.next = h.next + 2 := by rw [hH0]; rfl
  have hbx0 : H0.own.get h.next = some (.cells [.slice pa np pc, .slice fa n fc, .slice na0 nn nc0]) := by rw [hH0, AHeap.new_get, AHeap.new_next, if_neg (by omega), AHeap.new_get, if_pos rfl]
  have hby0 : H0.own.get (h.next + 1) = some (.cells [.slice none 0 0, .slice none 0 0]) := by rw [hH0, AHeap.new_get, AHeap.new_next, if_pos rfl]
  have hld0 : aloadN W H0 ⟨h.next, 0, some 0⟩ 3 = some [.slice pa np pc, .slice fa n fc, .slice na0 nn nc0] := aload3 hbx0
  replace hnn : Hid (n = F.length) := hnn
  replace hnp : Hid (np = ps.length) := hnp
  have hpl' : np < 500000000 := by have := hnp.out; omega
  have h90 := f90_ok W H0 _ _ _ vs ps F rows (t.keeps hk0) ok (by omega) (by have := hnn.out; omega)
  rw [← hnn.out] at h90
  rw [hH0] at hld0 h90
  repeat refine zs ?_
  refine x_draws (d_eff (by kernel_rfl) ?_)
  repeat refine zs ?_
  refine aop_callK rfl zv za h90 ?_
  rintro r1 h1 ⟨⟨bd, d, rfl, hbd, hod, hd⟩, hk1⟩
  rw [← hH0] at hk1 hbd
  clear h90 hld0
  have hbx1 : h1.own.get h.next = some (.cells [.slice pa np pc, .slice fa n fc, .slice na0 nn nc0]) := by rw [hk1.same _ (by omega)]; exact hbx0
  have hld1 : aloadN W h1 ⟨h.next, 0, some 0⟩ 3 = some [.slice pa np pc, .slice fa n fc, .slice na0 nn nc0] := aload3 hbx1
  have h91 := f91_ok W h1 _ _ _ vs ps F rows (t.keeps (hk0.trans hk1)) ok (by omega) (by have := hnn.out; omega) (by have := hnn.out; omega)
  rw [← hnn.out] at h91
  refine d_chk (by kernel_rfl) ?chk1 ?_
  case chk1 =>
    intro o ho
    simp only [List.mem_cons, List.not_mem_nil, or_false] at ho
    rcases ho with rfl
    simp only [Chk, kindOf, dval, rop, opd, celsL, oneV, aadd, binV, isSh, intBin, scEq, keq, unV, fillL, oP, oA, oS, wantedA, BX, BL, BS, seval, *]
  refine aop_callK rfl zv za h91 ?_
  rintro r2 h2 ⟨⟨bl, lv, rfl, hbl, hol, hl⟩, hk2⟩
  clear h91 hld1
  refine d_pure (by kernel_rfl) ?_
  have hod2 := hod.keeps hk2
  have hdl : d.length = n := hd.len.trans hnn.out.symm
  have hlvl : lv.length = n := hl.1.trans hnn.out.symm
  replace hdl : Hid (d.length = n) := hdl
  replace hlvl : Hid (lv.length = n) := hlvl
  have hk12 : Keeps H0 h2 := hk1.trans hk2
  have hn2 : h.next + 2 ≤ h2.next := by have := hk12.le; omega
  have hbx2 : h2.own.get h.next = some (.cells [.slice pa np pc, .slice fa n fc, .slice na0 nn nc0]) := by rw [hk12.same _ (by omega)]; exact hbx0
  have hby2 : h2.own.get (h.next + 1) = some (.cells [.slice none 0 0, .slice none 0 0]) := by rw [hk12.same _ (by omega)]; exact hby0
  have hkt : Keeps h h2 := hk0.trans hk12
  clear hod hbx1 hk1 hk2 hbx0 hby0
  obtain ⟨B, hB⟩ : ∃ B, B = h2.next := ⟨_, rfl⟩
  have hid0 : idxV 1 (.slice (some ⟨bd, 0, some 0⟩) n 1) (.int .i64 0) = some (.pointer (some ⟨bd, 0 * 1, some 0⟩)) := idx_own hF0
  rw [Nat.zero_mul] at hid0
  have hodM : Ow (h2.new (.map [])) bd 1 (d.map numV) := hod2.keeps ((Keeps.refl h2).new _)
  obtain ⟨C, hC, hC0⟩ := Ow.rd1 hodM (i := 0) (by rw [hdl.out]; exact hF0)
  rw [Nat.zero_mul] at hC0
  have hmu : mapUpdH (.sc .i) (h2.new (.map [])) (.map (some h2.next)) (.int .i64 (nm d 0)) (.int .i64 0) = some ((h2.new (.map [])).put h2.next (.map (mapFrom numK 0 [nm d 0]))) :=
    mapUpd_out keyedNum (ks := []) (by rw [AHeap.new_get, if_pos rfl]; rfl) (by simp)
  obtain ⟨G0, hG0⟩ : ∃ G0, G0 = ((((h2.new (.map [])).put h2.next (.map (mapFrom numK 0 [nm d 0]))).new (.cells [.int .i64 0])).new (.cells [.slice none 0 0, .slice none 0 0])).put (h2.next + 1 + 1) (.cells [.slice none 0 0, .slice none 0 0]) := ⟨_, rfl⟩
  have hGn : G0.next = h2.next + 3 := by rw [hG0]; rfl
  have hkG : Keeps h2 G0 := by rw [hG0]; exact (((((Keeps.refl h2).new _).put (Nat.le_refl _) _).new _).new _).put (by omega) _
  have hmG : G0.own.get h2.next = some (.map (mapFrom numK 0 [nm d 0])) := by
    rw [hG0, AHeap.put_get, if_neg (by omega), AHeap.new_get, AHeap.new_next, AHeap.put_next, AHeap.new_next, if_neg (by omega), AHeap.new_get, AHeap.put_next, AHeap.new_next, if_neg (by omega), AHeap.put_get, if_pos rfl]
  have htG : G0.own.get (h2.next + 2) = some (.cells [.slice none 0 0, .slice none 0 0]) := by rw [hG0, AHeap.put_get, if_pos rfl]
  have T0 : T3 W (h2.next + 1) (fun i => i < h2.next + 1 ∨ i = h2.next + 2) G0 1 (some ⟨h2.next + 1, 0, some 0⟩) 1 (([(0 : Int)]).map numV) none 0 ((([(0 : Int)]).take 0).map (finB F)) 3 arcV none 0 [] [] AHeap.empty none 0 [] := by
    refine ⟨by omega, .inr ⟨h2.next + 1, rfl, rfl, Nat.le_refl _, ?_, fun e he => by simp at he; subst he; rfl, by omega⟩, OwnV.nil _ _ _, LL.nil _ _ _, OwnV.nil _ _ _, Apart.none_r _, Apart.none_r _, Apart.none_l _, Apart.none_l _, Apart.none_l _, Apart.none_l _, fun x hx => rfl, fun x hx => (by cases hx), fun x hx => (by cases hx), fun i hi => ⟨by omega, fun x hx => by cases hx; show h2.next + 1 ≠ i; omega, fun x hx => (by cases hx), fun x hx => (by cases hx), fun x hx => (by cases hx), rfl⟩⟩
    rw [hG0, AHeap.put_get, if_neg (by omega), AHeap.new_get, AHeap.new_next, AHeap.put_next, AHeap.new_next, if_neg (by omega), AHeap.new_get, AHeap.put_next, AHeap.new_next, if_pos rfl]; rfl
  have hR0 : Hid (rounds (clsE ps rows d lv) (nm d 0) 0 = ([nm d 0], [])) := rfl
  have hcl0 : Hid ([nm d 0] = ([(0 : Int)]).map (cls' d)) := rfl
  have hrg0 : Hid (∀ x ∈ ([(0 : Int)]), 0 ≤ x ∧ x < n) := fun x hx => by simp at hx; subst hx; omega
  rw [hG0] at hkG hmG htG T0
  clear hB hodM hGn
  repeat refine zs ?_
  refine WPX.loop hmix (fun k σ => ∃ (i : Nat) (os ks : List Int) (As : List (List Arc3)) (ws : List Value) (ka : Option Addr) (kc : Nat) (ya : Option Addr) (yc : Nat) (na : Option Addr) (nc : Nat) (g : AHeap), i ≤ os.length ∧ k = n + 1 - i ∧
    eget σ.e 1 = .pointer (some ⟨h.next, 0, some 0⟩) ∧ eget σ.e 2 = .pointer (some ⟨h.next + 1, 0, some 0⟩) ∧ eget σ.e 3 = .slice (some ⟨bd, 0, some 0⟩) n 1 ∧ eget σ.e 4 = .slice (some ⟨bl, 0, some 0⟩) n 1 ∧ eget σ.e 5 = .map (some h2.next) ∧ eget σ.e 6 = .slice ka os.length kc ∧
    eget σ.e 7 = .pointer (some ⟨h2.next + 2, 0, some 0⟩) ∧ eget σ.e 8 = .int .i64 (i : Nat) ∧
    Keeps h2 σ.h ∧ σ.h.own.get h2.next = some (.map (mapFrom numK 0 ks)) ∧ σ.h.own.get (h2.next + 2) = some (.cells [.slice ya i yc, .slice na i nc]) ∧
    T3 W (h2.next + 1) (fun i => i < h2.next + 1 ∨ i = h2.next + 2) σ.h 1 ka kc (os.map numV) ya yc ((os.take i).map (finB F)) 3 arcV na nc ws As g none 0 [] ∧
    Hid (rounds (clsE ps rows d lv) (nm d 0) i = (ks, As)) ∧ Hid (ks = os.map (cls' d)) ∧ Hid (∀ x ∈ os, 0 ≤ x ∧ x < n) ∧ Hid (As.length = i)) (n + 1) ?h0 ?round
  case h0 => exact ⟨0, [0], [nm d 0], [], [], _, _, none, 0, none, 0, AHeap.empty, Nat.zero_le _, rfl, zv, zv, zv, zv, zv, (by simp only [rop, opd, celsL, oneV, aadd, binV, isSh, intBin, scEq, keq, unV, fillL, oP, oA, oS, wantedA, BX, BL, BS, seval, *, List.length_cons, List.length_nil]), zv, zv, hkG, hmG, htG, T0, hR0, hcl0, hrg0, rfl⟩
  clear hkG hmG htG T0 hR0 hcl0 hrg0 hmu hG0 hC hC0 hid0
  rintro K ⟨e, hh⟩ ⟨i, os, ks, As, ws, ka, kc, ya, yc, na, nc, g, hi, rfl, e1, e2, e3, e4, e5, e6, e7, e8, hk, hm, ht, T, hR, hcl, hrg, hAl⟩
  dsimp only at e1 e2 e3 e4 e5 e6 e7 e8 hk hm ht T
  have hosk : os.length = ks.length := by rw [hcl.out, List.length_map]
  have hksn : ks.length ≤ n := by
    have := rounds_clsN (lv := lv) ok hd (by have := hnn.out; omega) i
    rw [hR.out] at this; rw [hnn.out]; exact this
  replace hosk : Hid (os.length = ks.length) := hosk
  have hosn : os.length ≤ n := by rw [hosk.out]; exact hksn
  have hkn := hk.le
  by_cases hlt : i < os.length
  · have hltI : (i : Int) < os.length := by omega
    have hwi : IntKind.i64.wrap ((i : Int) + 1) = ((i + 1 : Nat) : Int) := wrap_i64 (by omega) (by omega)
    obtain ⟨si, hsi⟩ : ∃ s, os[i]? = some s := ⟨_, List.getElem?_eq_getElem hlt⟩
    have hsr := hrg.out si (List.mem_of_getElem? hsi)
    obtain ⟨s, rfl⟩ : ∃ s : Nat, si = s := ⟨si.toNat, by omega⟩
    have hsn : s < n := by omega
    have hsF : s < F.length := by have := hnn.out; omega
    have hks := T.keys.sl (W := W)
    rw [List.length_map] at hks
    obtain ⟨d1, hd1, hr1, _⟩ := Sl.one (f := numV) hks hsi (u := .int .i64 s) rfl
    have hkh : Keeps h hh := hkt.trans hk
    obtain ⟨d2, hd2, hr2, _⟩ := Sl.one (f := boolV) (t.fin.keeps hkh) (getD_of (d := false) hsF) (u := .bool (bt F s)) rfl
    have hbx : hh.own.get h.next = some (.cells [.slice pa np pc, .slice fa n fc, .slice na0 nn nc0]) := by rw [hk.same _ (by omega)]; exact hbx2
    obtain ⟨fb, hfb⟩ : ∃ b, b = bt F s := ⟨_, rfl⟩
    rw [← hfb] at hr2
    have hne1 : ¬ h2.next + 2 = hh.next := by have := (T.st (h2.next + 2) (.inr rfl)).1; omega
    have hFl : ((os.take i).map (finB F)).length = i := by rw [List.length_map, List.length_take]; omega
    obtain ⟨ya', yc', h6, happ, T8, hn8, hs8⟩ := (T.keeps ((Keeps.refl hh).new (.cells [.bool fb]))).pushFin (W := W) (b' := hh.next) (e := [.bool fb]) hFl (by rw [AHeap.new_get, if_pos rfl]) (by rw [AHeap.new_next]; omega) rfl rfl (by omega)
    have hlt2 := (T.st (h2.next + 2) (.inr rfl)).1
    have ht8 : h6.own.get (h2.next + 2) = some (.cells [.slice ya i yc, .slice na i nc]) := by rw [hs8 _ (.inr rfl), AHeap.new_get, if_neg (by omega)]; exact ht
    have hm8 : h6.own.get h2.next = some (.map (mapFrom numK 0 ks)) := by rw [hs8 _ (.inl (by omega)), AHeap.new_get, if_neg (by omega)]; exact hm
    have hk8 : Keeps h2 h6 := ⟨by have := T8.nx; omega, fun j hj => by rw [hs8 _ (.inl (by omega)), AHeap.new_get, if_neg (by omega)]; exact hk.same _ hj⟩
    have hFL : ((os.take i).map (finB F)) ++ [[Value.bool fb]] = (os.take (i + 1)).map (finB F) := by
      rw [List.take_add_one, hsi, hfb]; simp [boolV, finB]
    rw [hFL] at T8
    clear hks hFl hFL hfb
    repeat refine zs ?_
    refine x_draws (d_eff (by kernel_rfl) ?_)
    repeat refine zs ?_
    refine aop_do zr ?_
    refine d_chk (by kernel_rfl) ?chk2 ?_
    case chk2 =>
      intro o ho
      simp only [List.mem_cons, List.not_mem_nil, or_false] at ho
      rcases ho with rfl | rfl <;> simp only [Chk, kindOf, dval, rop, opd, celsL, oneV, aadd, binV, isSh, intBin, scEq, keq, unV, fillL, oP, oA, oS, wantedA, BX, BL, BS, seval, *]
    refine aop_do zr ?_
    refine d_eff (by kernel_rfl) ?_
    repeat refine zs ?_
    refine aop_do zr ?_
    refine d_end ?_
    have T9 := T8.put (j := h2.next + 2) (.inr rfl) (.cells [.slice ya' (i + 1) yc', .slice na i nc])
    have ht9 : (h6.put (h2.next + 2) (.cells [.slice ya' (i + 1) yc', .slice na i nc])).own.get (h2.next + 2) = some (.cells [.slice ya' (i + 1) yc', .slice na i nc]) := by rw [AHeap.put_get, if_pos rfl]
    have hm9 : (h6.put (h2.next + 2) (.cells [.slice ya' (i + 1) yc', .slice na i nc])).own.get h2.next = some (.map (mapFrom numK 0 ks)) := by rw [AHeap.put_get, if_neg (by omega)]; exact hm8
    have hk9 : Keeps h2 (h6.put (h2.next + 2) (.cells [.slice ya' (i + 1) yc', .slice na i nc])) := hk8.put (by omega) _
    have hbx9 : (h6.put (h2.next + 2) (.cells [.slice ya' (i + 1) yc', .slice na i nc])).own.get h.next = some (.cells [.slice pa np pc, .slice fa n fc, .slice na0 nn nc0]) := by rw [hk9.same _ (by omega)]; exact hbx2
    have hne2 : ¬ h.next = h2.next + 2 := by omega
    have hbx6 : h6.own.get h.next = some (.cells [.slice pa np pc, .slice fa n fc, .slice na0 nn nc0]) := by rw [hk8.same _ (by omega)]; exact hbx2
    clear T8 hn8 hs8 happ ht8 hm8 hk8 hd1 hr1 hd2 hr2 hbx T hm ht hk
    have hX0 : Hid (expState ks (rawP ps rows d lv s 0) = (ks, [])) := by show _ = _; rw [rawP_zero]; rfl
    repeat refine zs ?_
    refine WPX.loop hmix (fun k σ => ∃ (q : Nat) (os' ks' : List Int) (L : List Arc3) (ka : Option Addr) (kc : Nat) (la : Option Addr) (lc : Nat), q ≤ np ∧ k = np - q ∧
      eget σ.e 1 = .pointer (some ⟨h.next, 0, some 0⟩) ∧ eget σ.e 2 = .pointer (some ⟨h.next + 1, 0, some 0⟩) ∧ eget σ.e 3 = .slice (some ⟨bd, 0, some 0⟩) n 1 ∧ eget σ.e 4 = .slice (some ⟨bl, 0, some 0⟩) n 1 ∧ eget σ.e 5 = .map (some h2.next) ∧ eget σ.e 6 = .slice ka os'.length kc ∧
      eget σ.e 7 = .pointer (some ⟨h2.next + 2, 0, some 0⟩) ∧ eget σ.e 8 = .int .i64 (i : Nat) ∧ eget σ.e 9 = .int .i64 (s : Nat) ∧ eget σ.e 10 = .slice la L.length lc ∧ eget σ.e 48 = .slice pa np pc ∧ eget σ.e 49 = .int .i64 np ∧ eget σ.e 50 = .int .i64 (q : Nat) ∧
      Keeps h2 σ.h ∧ σ.h.own.get h2.next = some (.map (mapFrom numK 0 ks')) ∧ σ.h.own.get (h2.next + 2) = some (.cells [.slice ya' (i + 1) yc', .slice na i nc]) ∧
      T3 W (h2.next + 1) (fun i => i < h2.next + 1 ∨ i = h2.next + 2) σ.h 1 ka kc (os'.map numV) ya' yc' ((os.take (i + 1)).map (finB F)) 3 arcV na nc ws As g la lc L ∧
      Hid (expState ks (rawP ps rows d lv s q) = (ks', L)) ∧ Hid (ks' = os'.map (cls' d)) ∧ Hid (∀ x ∈ os', 0 ≤ x ∧ x < n) ∧ Hid (os'.take (i + 1) = os.take (i + 1)) ∧ Hid (i < os'.length)) np ?h1 ?round1
    case h1 => exact ⟨0, os, ks, [], ka, kc, none, 0, Nat.zero_le _, rfl, zv, zv, zv, zv, zv, zv, zv, zv, zv, (by simp only [rop, opd, celsL, oneV, aadd, binV, isSh, intBin, scEq, keq, unV, fillL, oP, oA, oS, wantedA, BX, BL, BS, seval, *, List.length_nil]), zv, zv, zv, hk9, hm9, ht9, T9, hX0, hcl, hrg, rfl, hlt⟩
    clear hk9 hm9 ht9 T9 hX0 e1 e2 e3 e4 e5 e6 e7 e8 hltI hkn hbx9 hbx6 hlt2 hkh
    replace hlt : Hid (i < os.length) := hlt
    rintro K ⟨e, h6⟩ ⟨q, os', ks', L, ka, kc, la, lc, hq, rfl, e1, e2, e3, e4, e5, e6, e7, e8, e9, e10, e48, e49, e50, hk, hm, ht, T, hX, hcl', hrg', htk, hil⟩
    dsimp only at e1 e2 e3 e4 e5 e6 e7 e8 e9 e10 e48 e49 e50 hk hm ht T
    have hkn := hk.le
    have hlt2 := (T.st (h2.next + 2) (.inr rfl)).1
    have hosk' : os'.length = ks'.length := by rw [hcl'.out, List.length_map]
    have hbnd : ks'.length ≤ ks.length + q ∧ L.length ≤ q := by
      have h1 := expFold_len (rawP ps rows d lv s q) (ks, [])
      have h2 := rawP_len (ps := ps) (rows := rows) (d := d) (lv := lv) s q
      have h3 : List.foldl expEdge (ks, []) (rawP ps rows d lv s q) = (ks', L) := hX.out
      rw [h3] at h1
      simp only [List.length_nil] at h1
      omega
    have hLr : InR L := by
      have h1 := expFold_in (E := []) (rawP ps rows d lv s q) (ks, []) (rawP_in ok s q) (fun y hy => by simp at hy)
      have h3 : List.foldl expEdge (ks, []) (rawP ps rows d lv s q) = (ks', L) := hX.out
      rw [h3] at h1; exact h1
    replace hosk' : Hid (os'.length = ks'.length) := hosk'
    have hos'n : os'.length ≤ n + q := by have := hosk'.out; omega
    by_cases hlq : q < np
    · have hlqI : (q : Int) < np := by omega
      have hwq : IntKind.i64.wrap ((q : Int) + 1) = ((q + 1 : Nat) : Int) := wrap_i64 (by omega) (by omega)
      have hqp : q < ps.length := by have := hnp.out; omega
      have hkh6 : Keeps h h6 := hkt.trans hk
      have hbx : h6.own.get h.next = some (.cells [.slice pa np pc, .slice fa n fc, .slice na0 nn nc0]) := by rw [hk.same _ (by omega)]; exact hbx2
      obtain ⟨dp, hdp, hrp, _⟩ := Sl.one (f := runeV) (t.pts.keeps hkh6) (getD_of (d := 0) hqp) (u := .int .i32 (ps.getD q 0)) rfl
      obtain ⟨x, dx, hdx, ⟨hrx, _⟩, ⟨xa, xc, hxe⟩, hxq⟩ := (t.keeps hkh6).rd ok hsF
      obtain ⟨dy, hdy, hry, _⟩ := hxq q hqp
      have hcl1 := (ok.cell_lt hsF hqp).1
      obtain ⟨m, hmm⟩ : ∃ m, m = cel rows s q := ⟨_, rfl⟩
      rw [← hmm] at hry hcl1
      have hmn : m < n := by have := hnn.out; omega
      have hol6 := hol.keeps hk
      have hod6 := hod2.keeps hk
      have hidl : idxV 1 (.slice (some ⟨bl, 0, some 0⟩) n 1) (.int .i64 m) = some (.pointer (some ⟨bl, m * 1, some 0⟩)) := idx_own hmn
      have hidd : idxV 1 (.slice (some ⟨bd, 0, some 0⟩) n 1) (.int .i64 m) = some (.pointer (some ⟨bd, m * 1, some 0⟩)) := idx_own hmn
      obtain ⟨Cl, hCl, hClm⟩ := Ow.rdb hol6 (i := m) (by rw [hlvl.out]; exact hmn)
      obtain ⟨Cd, hCd, hCdm⟩ := Ow.rd1 hod6 (i := m) (by rw [hdl.out]; exact hmn)
      have hsuc := rawP_succ (d := d) (lv := lv) ok hsF hqp
      rw [← hmm] at hsuc
      have hpr := (Pts.rngQ ok.pts hqp)
      subst hxe
      obtain ⟨c, hc⟩ : ∃ c, c = ps.getD q 0 := ⟨_, rfl⟩
      rw [← hc] at hrp hsuc hpr
      obtain ⟨cd, hcd⟩ : ∃ cd, cd = nm d m := ⟨_, rfl⟩
      rw [← hcd] at hCdm hsuc
      cases hlm : bt lv m with
      | false =>
        have hX' : Hid (expState ks (rawP ps rows d lv s (q + 1)) = (ks', L)) := by
          show _ = _
          rw [hsuc, hlm]; simpa using hX.out
        rw [hlm] at hClm
        clear hlm hsuc hxq hX hmm hc hcd
        repeat refine zs ?_
        exact ⟨np - (q + 1), by omega, q + 1, os', ks', L, ka, kc, la, lc, by omega, rfl, zv, zv, zv, zv, zv, zv, zv, zv, zv, zv, zv, zv, zv, hk, hm, ht, T, hX', hcl', hrg', htk, hil⟩
      | true =>
        have hX' : expState ks (rawP ps rows d lv s (q + 1)) = expEdge (ks', L) (c, endZ ps q, cd) := by
          rw [hsuc, hlm, if_pos rfl, expState_snoc, hX.out]
        rw [hlm] at hClm
        replace hcd : Hid (cd = nm d m) := hcd
        replace hX' : Hid (expState ks (rawP ps rows d lv s (q + 1)) = expEdge (ks', L) (c, endZ ps q, cd)) := hX'
        obtain ⟨q0, b0, hlk, hlk1, hlk2⟩ := lookNum hm cd
        clear hlm hsuc hxq hX hmm hc
        repeat refine zs ?_
        refine c_mid (fun σ => ∃ os2 ks2 ka2 kc2, ∃ z : Nat, Hid (ks2 = (expEdge (ks', L) (c, endZ ps q, cd)).1 ∧ z = ks'.idxOf cd) ∧
          eget σ.e 1 = .pointer (some ⟨h.next, 0, some 0⟩) ∧ eget σ.e 2 = .pointer (some ⟨h.next + 1, 0, some 0⟩) ∧ eget σ.e 3 = .slice (some ⟨bd, 0, some 0⟩) n 1 ∧ eget σ.e 4 = .slice (some ⟨bl, 0, some 0⟩) n 1 ∧ eget σ.e 5 = .map (some h2.next) ∧ eget σ.e 6 = .slice ka2 (List.length os2) kc2 ∧
          eget σ.e 7 = .pointer (some ⟨h2.next + 2, 0, some 0⟩) ∧ eget σ.e 8 = .int .i64 (i : Nat) ∧ eget σ.e 9 = .int .i64 (s : Nat) ∧ eget σ.e 10 = .slice la L.length lc ∧ eget σ.e 11 = .int .i64 (q : Nat) ∧ eget σ.e 12 = .int .i32 c ∧ eget σ.e 14 = .int .i64 (z : Nat) ∧ eget σ.e 48 = .slice pa np pc ∧ eget σ.e 49 = .int .i64 np ∧ eget σ.e 50 = .int .i64 (q : Nat) ∧
          Keeps h2 σ.h ∧ σ.h.own.get h2.next = some (.map (mapFrom numK 0 ks2)) ∧ σ.h.own.get (h2.next + 2) = some (.cells [.slice ya' (i + 1) yc', .slice na i nc]) ∧
          T3 W (h2.next + 1) (fun i => i < h2.next + 1 ∨ i = h2.next + 2) σ.h 1 ka2 kc2 (os2.map numV) ya' yc' ((os.take (i + 1)).map (finB F)) 3 arcV na nc ws As g la lc L ∧
          Hid (ks2 = os2.map (cls' d)) ∧ Hid (∀ x ∈ os2, 0 ≤ x ∧ x < n) ∧ Hid (os2.take (i + 1) = os.take (i + 1)) ∧ Hid (i < os2.length)) ?key ?rest
        case key =>
          cases b0 with
          | true =>
            obtain ⟨hmem, rfl⟩ := hlk1 rfl
            have hee : Hid (ks' = (expEdge (ks', L) (c, endZ ps q, cd)).1 ∧ ks'.idxOf cd = ks'.idxOf cd) := ⟨by simp [expEdge, hmem], rfl⟩
            clear hlk hlk1 hlk2 hmem hX'
            refine c_isF rfl ?_
            repeat refine zs ?_
            exact ⟨rfl, os', ks', ka, kc, _, hee, zv, zv, zv, zv, zv, zv, zv, zv, zv, zv, zv, zv, zv, zv, zv, zv, hk, hm, ht, T, hcl', hrg', htk, hil⟩
          | false =>
            have hmem := hlk2 rfl
            have hee : Hid (ks' ++ [cd] = (expEdge (ks', L) (c, endZ ps q, cd)).1 ∧ os'.length = ks'.idxOf cd) := ⟨by simp [expEdge, hmem], by rw [List.idxOf_eq_length hmem]; exact hosk'.out⟩
            have hmu := mapUpd_out keyedNum hm hmem
            rw [← hosk'.out] at hmu
            simp only [numK] at hmu
            obtain ⟨H7, hH7⟩ : ∃ H7, H7 = h6.put h2.next (.map (mapFrom numK 0 (ks' ++ [cd]))) := ⟨_, rfl⟩
            have T7 := T.put (j := h2.next) (.inl (by omega)) (.map (mapFrom numK 0 (ks' ++ [cd])))
            rw [← hH7] at T7
            have hn7 : H7.next = h6.next := by rw [hH7]; rfl
            have hm7 : H7.own.get h2.next = some (.map (mapFrom numK 0 (ks' ++ [cd]))) := by rw [hH7, AHeap.put_get, if_pos rfl]
            have ht7 : H7.own.get (h2.next + 2) = some (.cells [.slice ya' (i + 1) yc', .slice na i nc]) := by rw [hH7, AHeap.put_get, if_neg (by omega)]; exact ht
            have hk7 : Keeps h2 H7 := by rw [hH7]; exact hk.put (Nat.le_refl _) _
            obtain ⟨ka', kc', h8, happ, T8, hn8, hs8⟩ := (T7.keeps ((Keeps.refl H7).new (.cells [.int .i64 m]))).pushKey (W := W) (b' := H7.next) (n := os'.length) (e := numV (m : Nat)) (by rw [List.length_map]) (by rw [AHeap.new_get, if_pos rfl]; rfl) (by rw [AHeap.new_next]; omega) rfl rfl (by omega)
            have hm8 : h8.own.get h2.next = some (.map (mapFrom numK 0 (ks' ++ [cd]))) := by rw [hs8 _ (.inl (by omega)), AHeap.new_get, if_neg (by omega)]; exact hm7
            have ht8 : h8.own.get (h2.next + 2) = some (.cells [.slice ya' (i + 1) yc', .slice na i nc]) := by rw [hs8 _ (.inr rfl), AHeap.new_get, if_neg (by omega)]; exact ht7
            have hk8 : Keeps h2 h8 := ⟨by have := T8.nx; omega, fun j hj => by rw [hs8 _ (.inl (by omega)), AHeap.new_get, if_neg (by omega)]; exact hk7.same _ hj⟩
            have hKL : os'.map numV ++ [numV (m : Nat)] = (os' ++ [(m : Int)]).map numV := by simp
            rw [hKL] at T8
            have hcl2 : Hid (ks' ++ [cd] = (os' ++ [(m : Int)]).map (cls' d)) := by show _ = _; rw [List.map_append, ← hcl'.out, hcd.out]; rfl
            have hrg2 : Hid (∀ x ∈ os' ++ [(m : Int)], 0 ≤ x ∧ x < n) := fun x hx => by
              rcases List.mem_append.1 hx with hx | hx
              · exact hrg'.out x hx
              · simp at hx; subst hx; omega
            have htk2 : Hid ((os' ++ [(m : Int)]).take (i + 1) = os.take (i + 1)) := by show _ = _; rw [List.take_append_of_le_length (by have := hil.out; omega)]; exact htk.out
            have hil2 : Hid (i < (os' ++ [(m : Int)]).length) := by show _ < _; rw [List.length_append]; have := hil.out; simp; omega
            have hlen : (os' ++ [(m : Int)]).length = os'.length + 1 := by simp
            have hnei : ¬ bd = h2.next := by have := hod2.lt; omega
            rw [hn7] at happ
            rw [hH7] at happ
            clear hlk hlk1 hlk2 hmem hX' T7 hn7 hm7 ht7 hk7 hs8 hKL hH7
            refine c_isT rfl ?_
            repeat refine zs ?_
            exact ⟨rfl, os' ++ [(m : Int)], ks' ++ [cd], ka', kc', _, hee, zv, zv, zv, zv, zv, zv, zv, zv, zv, zv, zv, zv, zv, zv, zv, zv, hk8, hm8, ht8, T8, hcl2, hrg2, htk2, hil2⟩
        case rest =>
          clear hdx hrx hdy hry hidl hidd hCl hClm hCd hCdm hdp hrp hol6 hod6 hbx T hm ht hk e1 e2 e3 e4 e5 e6 e7 e8 e9 e10 e48 e49 e50 hlk hlk1 hlk2 hcl' hrg' htk hil hkh6 hkn hlt2
          rintro ⟨e', h7⟩ ⟨os2, ks2, ka2, kc2, z, hz, e1, e2, e3, e4, e5, e6, e7, e8, e9, e10, e11, e12, e14, e48, e49, e50, hk, hm, ht, T, hcl2, hrg2, htk2, hil2⟩
          dsimp only at e1 e2 e3 e4 e5 e6 e7 e8 e9 e10 e11 e12 e14 e48 e49 e50 hk hm ht T
          have hkh7 : Keeps h h7 := hkt.trans hk
          have hkn := hk.le
          have hlt2 := (T.st (h2.next + 2) (.inr rfl)).1
          have hbx : h7.own.get h.next = some (.cells [.slice pa np pc, .slice fa n fc, .slice na0 nn nc0]) := by rw [hk.same _ (by omega)]; exact hbx2
          have h93 := f93_ok W h7 pa np pc ps q (t.pts.keeps hkh7) hnp.out.symm ok.pts.rng (by omega) (by omega)
          have h92 := f92_ok W h7 (h2.next + 1) la L.length lc L c (endZ ps q) (z : Nat) T.row rfl T.nx ⟨hpr.1.1, by have := hpr.1.2; have := hpr.2; omega⟩ (fun x hx => by have := hLr x hx; omega) (by omega)
          have hX'' : Hid (expState ks (rawP ps rows d lv s (q + 1)) = (ks2, addArc L (c, endZ ps q, (z : Nat)))) := by
            show _ = _
            rw [hX'.out, hz.out.1, hz.out.2]; rfl
          clear hX' hz
          refine t_normal ?_
          repeat refine zs ?_
          refine ops_callK zv za h93 ?_
          rintro r3 h8 ⟨rfl, hh8⟩
          rw [hh8]
          clear h93 hh8 h8
          repeat refine zs ?_
          refine ops_callK zv za h92 ?_
          rintro r4 h8 ⟨la', lc', rfl, hoR, hkb, hnew⟩
          clear h92
          obtain ⟨T8, hs8⟩ := T.rowBut hoR hkb hnew
          have hm8 : h8.own.get h2.next = some (.map (mapFrom numK 0 ks2)) := by rw [hs8 _ (.inl (by omega))]; exact hm
          have ht8 : h8.own.get (h2.next + 2) = some (.cells [.slice ya' (i + 1) yc', .slice na i nc]) := by rw [hs8 _ (.inr rfl)]; exact ht
          have hk8 : Keeps h2 h8 := ⟨by have := T8.nx; omega, fun j hj => by rw [hs8 _ (.inl (by omega))]; exact hk.same _ hj⟩
          clear hs8 hoR hkb hnew T hm ht hk
          repeat refine zs ?_
          exact ⟨np - (q + 1), by omega, q + 1, os2, ks2, _, ka2, kc2, la', lc', by omega, rfl, zv, zv, zv, zv, zv, zv, zv, zv, zv, zv, zv, zv, zv, hk8, hm8, ht8, T8, hX'', hcl2, hrg2, htk2, hil2⟩
    · have hlqI : ¬ (q : Int) < np := by omega
      have hvl : ws.length = i := by rw [T.out.len]; exact hAl.out
      have hRk : (rounds (clsE ps rows d lv) (nm d 0) i).1[i]? = some (nm d s) := by rw [hR.out]; show ks[i]? = _; rw [hcl.out, List.getElem?_map, hsi]; rfl
      have hR' : Hid (rounds (clsE ps rows d lv) (nm d 0) (i + 1) = (ks', As ++ [L])) := by
        show _ = _
        have hX2 := hX.out
        rw [rawP_full s (by have := hnp.out; omega), ← clsE_of ok hd hl hsF] at hX2
        rw [rounds_succ hRk, hR.out]
        simp only [hX2]
      have hAl' : Hid ((As ++ [L]).length = i + 1) := by show _ = _; rw [List.length_append, hAl.out]; rfl
      obtain ⟨na', nc', h12, happ, ⟨g', T12⟩, hn12, hs12⟩ := (T.keeps ((Keeps.refl h6).new (.cells [.slice la L.length lc]))).pushOut (W := W) (b' := h6.next) (n := i) (m := L.length) hvl rfl (by rw [AHeap.new_get, if_pos rfl]) (by rw [AHeap.new_next]; omega) (by have := hil.out; omega)
      have ht12 : h12.own.get (h2.next + 2) = some (.cells [.slice ya' (i + 1) yc', .slice na i nc]) := by rw [hs12 _ (.inr rfl), AHeap.new_get, if_neg (by omega)]; exact ht
      have hm12 : h12.own.get h2.next = some (.map (mapFrom numK 0 ks')) := by rw [hs12 _ (.inl (by omega)), AHeap.new_get, if_neg (by omega)]; exact hm
      have hk12' : Keeps h2 h12 := ⟨by have := T12.nx; omega, fun j hj => by rw [hs12 _ (.inl (by omega)), AHeap.new_get, if_neg (by omega)]; exact hk.same _ hj⟩
      have T13 := T12.put (j := h2.next + 2) (.inr rfl) (.cells [.slice ya' (i + 1) yc', .slice na' (i + 1) nc'])
      have ht13 : (h12.put (h2.next + 2) (.cells [.slice ya' (i + 1) yc', .slice na' (i + 1) nc'])).own.get (h2.next + 2) = some (.cells [.slice ya' (i + 1) yc', .slice na' (i + 1) nc']) := by rw [AHeap.put_get, if_pos rfl]
      have hm13 : (h12.put (h2.next + 2) (.cells [.slice ya' (i + 1) yc', .slice na' (i + 1) nc'])).own.get h2.next = some (.map (mapFrom numK 0 ks')) := by rw [AHeap.put_get, if_neg (by omega)]; exact hm12
      have hk13 : Keeps h2 (h12.put (h2.next + 2) (.cells [.slice ya' (i + 1) yc', .slice na' (i + 1) nc'])) := hk12'.put (by omega) _
      rw [← htk.out] at T13
      have hile : i + 1 ≤ os'.length := hil.out
      have hne4 : ¬ h2.next + 2 = h6.next := by omega
      clear T12 hs12 hn12 hm12 hk12' hX hvl hRk hm hk T htk hil hR hcl hrg
      repeat refine zs ?_
      exact ⟨n + 1 - (i + 1), by omega, i + 1, os', ks', _, _, ka, kc, ya', yc', na', nc', g', hile, rfl, zv, zv, zv, zv, zv, zv, zv, zv, hk13, hm13, ht13, T13, hR', hcl', hrg', hAl'⟩
  · obtain rfl : i = os.length := by omega
    have hltI : ¬ (os.length : Int) < os.length := by omega
    have hvl : ws.length = os.length := by rw [T.out.len]; exact hAl.out
    have hN : (rounds (clsE ps rows d lv) (nm d 0) os.length).1.length = os.length := by rw [hR.out]; exact hosk.out.symm
    obtain ⟨c1, c2, c3, c4⟩ := tab_result (lv := lv) ok hd hl (by have := hnn.out; omega) hN
    have hM : keyA (clsE ps rows d lv) (clsF F d) (nm d 0) os.length = ⟨ks.map (clsF F d), As⟩ := by unfold keyA; rw [hR.out]
    rw [hM] at c1 c2 c4
    obtain ⟨H7, hH7⟩ : ∃ H7, H7 = hh.put (h.next + 1) (.cells [.slice ya os.length yc, .slice na os.length nc]) := ⟨_, rfl⟩
    have T7 := T.put (j := h.next + 1) (.inl (by omega)) (.cells [.slice ya os.length yc, .slice na os.length nc])
    rw [← hH7] at T7
    obtain ⟨g1, s1, n1, hn7, p1⟩ := T7.out.fresh
    obtain ⟨g2, s3, s4, o2, n2, p2⟩ := T7.fin.freeze s1 (p1 _ T7.fo.symm T7.gf)
    have hf7 := o2.sl (W := W)
    replace hn7 := hn7.sub s4
    rw [List.length_map, List.take_length] at hf7
    rw [hvl] at hn7
    have ef : os.map (finB F) = (ks.map (clsF F d)).map fun b => [Value.bool b] := by
      rw [hcl.out, List.map_map, List.map_map]
      refine List.map_congr_left fun x hx => ?_
      have hxr := hrg.out x hx
      have := clsF_of ok hd (s := x.toNat) (by have := hnn.out; omega)
      show boolV (bt F x.toNat) = [Value.bool (clsF F d (cls' d x))]
      unfold cls'
      rw [this]; rfl
    rw [ef] at hf7
    have l7 : aloadN W H7 ⟨h.next + 1, 0, some 0⟩ 2 = some [.slice ya os.length yc, .slice na os.length nc] := aload2 (by rw [hH7, AHeap.put_get, if_pos rfl])
    have lt := aload2 (W := W) ht
    have hby : hh.own.get (h.next + 1) = some (.cells [.slice none 0 0, .slice none 0 0]) := by rw [hk.same _ (by omega)]; exact hby2
    have hkf : Keeps h H7 := by rw [hH7]; exact (hkt.trans hk).put (by omega) _
    have hR7 : MinTR W h.next ps F rows (.agg #[.slice ya os.length yc, .slice na os.length nc]) H7 :=
      ⟨⟨ks.map (clsF F d), As⟩, _, _, ws, rfl, ⟨g2, s3, fun j hj => n2 j (by omega) (n1 j (by omega)), rfl, hf7, hn7.out, hvl.trans hAl.out.symm, fun j x l hx hl => hn7.inner j x l hx hl⟩, c1, c2, by show (ks.map (clsF F d)).length ≤ _; rw [List.length_map]; have := hosk.out; omega, c4⟩
    rw [hH7] at l7 hR7 hkf
    clear hf7 hn7 ef T7 T hH7 s1 n1 p1 s3 s4 o2 n2 p2 hvl hN c1 c2 c3 c4 hM
    repeat refine zs ?_
    refine ⟨.inr rfl, [.agg #[.slice ya os.length yc, .slice na os.length nc]], ?_, hR7, hkf⟩
    simp only [resVals, rop, opd, celsL, oneV, aadd, binV, isSh, intBin, scEq, keq, unV, fillL, oP, oA, oS, wantedA, BX, BL, BS, seval, *]
end Go.Proofs.YtlipmjpapkfaeaaGreatDoor.Fn
end
