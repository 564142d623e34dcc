/- automaton.Minimize (F21) in the machine: the error, or the canonical automaton. No condition but sizes.
Merged from 1 texts. -/
import Derived.Test.YtlipmjpapkfaeaaGreatDoorZD34
import Derived.Test.YtlipmjpapkfaeaaGreatDoorZD13
section
set_option linter.unusedSimpArgs false
set_option linter.unusedVariables false
set_option maxRecDepth 100000
namespace Go.Proofs.YtlipmjpapkfaeaaGreatDoor.Fn
open Go Go.Mach Go.RowKit Go.Proofs
attribute [local irreducible] AOps WPX DOps thenS blockS AOp GOps CPick
theorem reach_len {A : Aut} (w : Wf A) (h0 : 0 < A.fin.length) {N M : Nat} (hN : (rounds (edgesA A) 0 N).1.length = N) (hb : ∀ l ∈ A.arcs, l.length < M) : ∀ l ∈ (reachA A N).arcs, l.length < M := by
  intro l hl
  have K := edgesA_keyed w h0 hN
  obtain ⟨i, hi⟩ := List.mem_iff_getElem?.1 hl
  have hlt : i < N := by
    have := (List.getElem?_eq_some_iff.1 hi).1
    rwa [show (reachA A N).arcs.length = N from rounds_arcs hN N (Nat.le_refl _)] at this
  obtain ⟨k, h1, h2, h3, h4⟩ := rounds_arc hN hlt
  have hD := rounds_keys K.d0 K.dE N k (List.mem_of_getElem? h1)
  rw [show (reachA A N).arcs[i]? = (rounds (edgesA A) 0 N).2[i]? from rfl, h3] at hi
  cases hi
  have := (expFold_len (edgesA A k) ((rounds (edgesA A) 0 i).1, [])).1
  have h5 := hb _ (List.mem_of_getElem? (edgesA_mem w.len hD))
  simp only [List.length_nil] at this
  unfold expState
  omega
def MinR (W : World) (h : AHeap) (A : Aut) (r : Value) (h' : AHeap) : Prop :=
  (validate A ≠ 0 ∧ r = .tuple #[.agg #[.slice none 0 0, .slice none 0 0], .int .i64 1]) ∨
  (validate A = 0 ∧ ∃ M vf va vs, r = .tuple #[.agg #[vf, va], .int .i64 0] ∧ Canon M ∧ (∀ cs, acc M 0 cs = acc A 0 cs) ∧ (M.fin.length ≤ A.fin.length ∧ ∀ l ∈ M.arcs, l.length < 1048576) ∧ FreshA W h.next h' M vf va vs)
set_option maxHeartbeats 8000000 in
theorem f21_ok (W : World) (h : AHeap) (v : Value) (A : Aut) (vf va : Value) (vs : List Value) (hA : AutoV W h v A vf va vs) (hb : ∀ l ∈ A.arcs, l.length < 1048576) :
    ACalls Tryz.prog W 21 [v] h (fun r h' => MinR W h A r h' ∧ Keeps h h') := by
  have hA' := hA
  obtain ⟨rfl, hf, ha, hl, he⟩ := hA
  obtain ⟨fa, fc, hfs⟩ := hf.len
  obtain ⟨aa, ac, has⟩ := ha.len
  rw [List.length_map] at hfs has
  rw [hl] at has
  subst hfs has
  refine ACalls_ofX hmix c21 (Nat.le_of_ble_eq_true rfl) ?_
  unfold r21
  dsimp only [Rc.t, Rc.u, Rc.v, Rc.o, Rc.i, Rc.p, Rc.q, Rc.s, Rc.b, Rc.k, Rc.g, Rc.S, Rc.D]
  simp only [envOf1]
  obtain ⟨H, hH⟩ : ∃ H, H = (h.new (.cells [.slice fa A.fin.length fc, .slice aa A.arcs.length ac])).new (.cells [.slice none 0 0, .slice none 0 0]) := ⟨_, rfl⟩
  have hHn : H.next = h.next + 2 := by rw [hH]; rfl
  have hkH : Keeps h H := by rw [hH]; exact ((Keeps.refl h).new _).new _
  have hbH : H.own.get h.next = some (.cells [.slice fa A.fin.length fc, .slice aa A.arcs.length ac]) := by rw [hH, AHeap.new_get, AHeap.new_next, if_neg (by omega), AHeap.new_get, if_pos rfl]
  have hb2 : H.own.get (h.next + 1) = some (.cells [.slice none 0 0, .slice none 0 0]) := by rw [hH, AHeap.new_get, AHeap.new_next, if_pos rfl]
  have h16 := f16_ok W H _ A _ _ vs (hA'.keeps hkH) (fun l hl => by have := hb l hl; omega)
  have hldH : aloadN W H ⟨h.next, 0, some 0⟩ 2 = some [.slice fa A.fin.length fc, .slice aa A.arcs.length ac] := aload2 hbH
  rw [hH] at h16 hldH
  repeat refine zs ?_
  refine ops_callK zv za h16 ?_
  rintro r1 h1 ⟨rfl, hk1⟩
  rw [← hH] at hk1
  clear h16 hldH
  have hk01 : Keeps h h1 := hkH.trans hk1
  have hlt1 : h.next + 1 < h1.next := by have := hk1.le; omega
  have hb1 : h1.own.get h.next = some (.cells [.slice fa A.fin.length fc, .slice aa A.arcs.length ac]) := by rw [hk1.same _ (by omega)]; exact hbH
  have hb21 : h1.own.get (h.next + 1) = some (.cells [.slice none 0 0, .slice none 0 0]) := by rw [hk1.same _ (by omega)]; exact hb2
  by_cases hv0 : validate A = 0
  case neg =>
    have hkf : Keeps h (h1.put (h.next + 1) (.cells [.slice none 0 0, .slice none 0 0])) := hk01.put (by omega) _
    have hrs : aloadN W (h1.put (h.next + 1) (.cells [.slice none 0 0, .slice none 0 0])) ⟨h.next + 1, 0, some 0⟩ 2 = some [.slice none 0 0, .slice none 0 0] := aload2 (by rw [AHeap.put_get, if_pos rfl])
    repeat refine zs ?_
    refine ⟨.inr rfl, [.agg #[.slice none 0 0, .slice none 0 0], .int .i64 1], ?_, .inl ⟨hv0, rfl⟩, hkf⟩
    simp only [resVals, rop, opd, celsL, oneV, aadd, binV, isSh, intBin, scEq, keq, unV, fillL, oP, oA, oS, wantedA, BX, BL, BS, seval, *]
  have hv0' : (!decide (validate A = 0)) = false := by simp [hv0]
  have w := Wf.of_validate hv0
  obtain ⟨hn1, hn2, _, _⟩ := validate_zero hv0
  have hn0 : 0 < A.fin.length := by omega
  have h45 := f45_ok W h1 _ A _ _ vs (hA'.keeps hk01) hb hv0
  have hld1 : aloadN W h1 ⟨h.next, 0, some 0⟩ 2 = some [.slice fa A.fin.length fc, .slice aa A.arcs.length ac] := aload2 hb1
  replace hv0 : Hid (validate A = 0) := hv0
  repeat refine zs ?_
  refine ops_callK zv za h45 ?_
  rintro r2 h2 ⟨vf2, va2, vs2, N, hN, rfl, hF2, hk2⟩
  clear h45 hld1
  obtain ⟨w2, hl2, hN0, hNn, hacc2⟩ := reach_wf w hn0 hN
  have hlen2 := reach_len w hn0 hN hb
  have h44 := f44_ok W h2 _ (reachA A N) _ _ vs2 256 hF2.auto w2 (by omega) (by omega) hlen2 (by omega) (by omega)
  have hb22 : h2.own.get (h.next + 1) = some (.cells [.slice none 0 0, .slice none 0 0]) := by rw [hk2.same _ (by omega)]; exact hb21
  have hlt2 : h.next + 1 < h2.next := by have := hk2.le; omega
  replace hN : True := trivial
  repeat refine zs ?_
  refine ops_callK zv za h44 ?_
  rintro r3 h3 ⟨M, vf3, va3, vs3, rfl, hcan, hacc3, hMl, hF3, hk3⟩
  clear h44
  obtain ⟨fa3, n3, fc3, aa3, m3, ac3, rfl, rfl⟩ := AutoV.slices hF3.auto
  have hb23 : h3.own.get (h.next + 1) = some (.cells [.slice none 0 0, .slice none 0 0]) := by rw [hk3.same _ (by omega)]; exact hb22
  have hlt3 : h.next + 1 < h3.next := by have := hk3.le; omega
  have hne : ¬ h.next + 1 = h3.next := by omega
  obtain ⟨G, hG⟩ : ∃ G, G = (h3.new (.cells [.slice none 0 0, .slice none 0 0])).put h3.next (.cells [.slice fa3 n3 fc3, .slice aa3 m3 ac3]) := ⟨_, rfl⟩
  have hkG : Keeps h3 G := by rw [hG]; exact ((Keeps.refl h3).new _).put (Nat.le_refl _) _
  have hldG : aloadN W G ⟨h3.next, 0, some 0⟩ 2 = some [.slice fa3 n3 fc3, .slice aa3 m3 ac3] := aload2 (by rw [hG, AHeap.put_get, if_pos rfl])
  have hkf : Keeps h (G.put (h.next + 1) (.cells [.slice fa3 n3 fc3, .slice aa3 m3 ac3])) := (((hk01.trans hk2).trans hk3).trans hkG).put (by omega) _
  have hFf : FreshA W h.next (G.put (h.next + 1) (.cells [.slice fa3 n3 fc3, .slice aa3 m3 ac3])) M (.slice fa3 n3 fc3) (.slice aa3 m3 ac3) vs3 := ((hF3.keeps hkG).put (by omega) _).base (by omega)
  have hrs : aloadN W (G.put (h.next + 1) (.cells [.slice fa3 n3 fc3, .slice aa3 m3 ac3])) ⟨h.next + 1, 0, some 0⟩ 2 = some [.slice fa3 n3 fc3, .slice aa3 m3 ac3] := aload2 (by rw [AHeap.put_get, if_pos rfl])
  rw [hG] at hldG hkf hFf hrs
  repeat refine zs ?_
  refine ⟨.inr rfl, [.agg #[.slice fa3 n3 fc3, .slice aa3 m3 ac3], .int .i64 0], ?_, .inr ⟨hv0.out, M, _, _, vs3, rfl, hcan, fun cs => (hacc3 cs).trans (hacc2 cs), ⟨by have := hMl.1; omega, hMl.2⟩, hFf⟩, hkf⟩
  simp only [resVals, rop, opd, celsL, oneV, aadd, binV, isSh, intBin, scEq, keq, unV, fillL, oP, oA, oS, wantedA, BX, BL, BS, seval, *]
end Go.Proofs.YtlipmjpapkfaeaaGreatDoor.Fn
end
