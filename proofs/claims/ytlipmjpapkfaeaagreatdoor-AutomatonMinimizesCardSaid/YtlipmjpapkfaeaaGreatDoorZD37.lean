/- corporaref20.Same (F23) in the machine, at one automaton in two places: true. No condition but sizes.
Merged from 2 texts. -/
import Derived.Test.YtlipmjpapkfaeaaGreatDoorZD35
import Derived.Test.YtlipmjpapkfaeaaGreatDoorZD13
import Derived.Test.YtlipmjpapkfaeaaGreatDoorZD36
import Derived.Test.YtlipmjpapkfaeaaGreatDoorZD25
section
set_option linter.unusedSimpArgs false
set_option linter.unusedVariables false
set_option maxRecDepth 100000
namespace Go.Proofs.YtlipmjpapkfaeaaGreatDoor.Fn
open Go Go.Mach Go.RowKit Go.Proofs
attribute [local irreducible] AOps WPX DOps thenS blockS AOp GOps CPick
set_option maxHeartbeats 8000000 in
theorem f23_ok (W : World) (h : AHeap) (A : Aut) (vf va vf' va' : Value) (vs vs' : List Value) (hA : AutoV W h (.agg #[vf, va]) A vf va vs) (hB : AutoV W h (.agg #[vf', va']) A vf' va' vs') (hn : A.fin.length < 1073741824) (hm : A.arcs.length < 1073741824) (hb : ∀ l ∈ A.arcs, l.length < 1073741824) :
    ACalls Tryz.prog W 23 [.agg #[vf, va], .agg #[vf', va']] h (fun r h' => r = .bool true ∧ Keeps h h') := by
  obtain ⟨_, hf, ha, hl, he⟩ := hA
  obtain ⟨_, hf', ha', hl', he'⟩ := hB
  obtain ⟨fa, fc, hfs⟩ := hf.len
  obtain ⟨aa, ac, has⟩ := ha.len
  obtain ⟨fa', fc', hfs'⟩ := hf'.len
  obtain ⟨aa', ac', has'⟩ := ha'.len
  rw [List.length_map] at hfs has hfs' has'
  rw [hl] at has
  rw [hl'] at has'
  subst hfs has hfs' has'
  refine ACalls_ofX hmix c23 (Nat.le_of_ble_eq_true rfl) ?_
  unfold r23
  dsimp only [Rc.t, Rc.u, Rc.v, Rc.o, Rc.i, Rc.p, Rc.q, Rc.s, Rc.b, Rc.k, Rc.g, Rc.S, Rc.D]
  simp only [envOf2]
  obtain ⟨H, hH⟩ : ∃ H, H = (h.new (.cells [.slice fa A.fin.length fc, .slice aa A.arcs.length ac])).new (.cells [.slice fa' A.fin.length fc', .slice aa' A.arcs.length ac']) := ⟨_, rfl⟩
  have hkH : Keeps h H := by rw [hH]; exact ((Keeps.refl h).new _).new _
  have hb1 : H.own.get h.next = some (.cells [.slice fa A.fin.length fc, .slice aa A.arcs.length ac]) := by rw [hH, AHeap.new_get, AHeap.new_next, if_neg (by omega), AHeap.new_get, if_pos rfl]
  have hb2 : H.own.get (h.next + 1) = some (.cells [.slice fa' A.fin.length fc', .slice aa' A.arcs.length ac']) := by rw [hH, AHeap.new_get, AHeap.new_next, if_pos rfl]
  have hse : ∀ a : Int, decide (a = a) = true := fun a => by simp
  have hse2 : ∀ a : Int, (a == a) = true := fun a => by simp
  have hkx : ∀ a b c : Int, keq (.agg [.i, .i, .i]) (.agg #[.int .i32 a, .int .i32 b, .int .i64 c]) (.agg #[.int .i32 a, .int .i32 b, .int .i64 c]) = some true := fun a b c => by simp [keq, scEqs, scEq]
  have hsq : ∀ a b c : Int, scEqs [.i, .i, .i] [.int .i32 a, .int .i32 b, .int .i64 c] [.int .i32 a, .int .i32 b, .int .i64 c] = some true := fun a b c => by simp [scEqs, scEq]
  have e1 : ¬ h.next = h.next + 1 := by omega
  rw [hH] at hb1 hb2
  repeat refine zs ?_
  refine WPX.loop hmix (fun k σ => ∃ i, i ≤ A.fin.length ∧ k = A.fin.length - i ∧ eget σ.e 2 = .pointer (some ⟨h.next, 0, some 0⟩) ∧ eget σ.e 3 = .pointer (some ⟨h.next + 1, 0, some 0⟩) ∧ eget σ.e 26 = .int .i64 A.fin.length ∧ eget σ.e 27 = .int .i64 (i : Nat) ∧ σ.h = H) A.fin.length ?h0 ?round
  case h0 => exact ⟨0, Nat.zero_le _, rfl, zv, zv, zv, zv, hH.symm⟩
  rw [← hH] at hb1 hb2
  clear hH
  rintro k ⟨e, hh⟩ ⟨i, hi, rfl, q2, q3, q26, q27, rfl⟩
  dsimp only at q2 q3 q26 q27 hb1 hb2 hkH
  by_cases hlt : i < A.fin.length
  · have hltI : (i : Int) < A.fin.length := by omega
    have hw1 : IntKind.i64.wrap ((i : Int) + 1) = ((i + 1 : Nat) : Int) := wrap_i64 (by omega) (by omega)
    have hx : (A.fin.map fun b => [Value.bool b])[i]? = some [.bool A.fin[i]] := by simp [hlt]
    obtain ⟨d, hd1, _, hd3⟩ := (hf.keeps hkH).at hx
    have hr := (hd3 0 (.bool A.fin[i]) rfl).1
    have hdd : aadd d 0 = d := rfl
    rw [hdd] at hr
    obtain ⟨d', hd1', _, hd3'⟩ := (hf'.keeps hkH).at hx
    have hr' := (hd3' 0 (.bool A.fin[i]) rfl).1
    have hdd' : aadd d' 0 = d' := rfl
    rw [hdd'] at hr'
    clear hx hd3 hd3'
    repeat refine zs ?_
    exact ⟨A.fin.length - (i + 1), by omega, i + 1, by omega, rfl, zv, zv, zv, zv, rfl⟩
  · have hltI : ¬ (i : Int) < A.fin.length := by omega
    repeat refine zs ?_
    refine WPX.loop hmix (fun k σ => ∃ i, i ≤ A.arcs.length ∧ k = A.arcs.length - i ∧ eget σ.e 2 = .pointer (some ⟨h.next, 0, some 0⟩) ∧ eget σ.e 3 = .pointer (some ⟨h.next + 1, 0, some 0⟩) ∧ eget σ.e 44 = .int .i64 A.arcs.length ∧ eget σ.e 45 = .int .i64 (i : Nat) ∧ σ.h = hh) A.arcs.length ?h1 ?round1
    case h1 => exact ⟨0, Nat.zero_le _, rfl, zv, zv, zv, zv, rfl⟩
    clear q2 q3 q26 q27 hltI hlt hi
    rintro k ⟨e, hh2⟩ ⟨i, hi, rfl, q2, q3, q44, q45, rfl⟩
    dsimp only at q2 q3 q44 q45 hb1 hb2 hkH
    by_cases hlt : i < A.arcs.length
    · have hltI : (i : Int) < A.arcs.length := by omega
      have hw1 : IntKind.i64.wrap ((i : Int) + 1) = ((i + 1 : Nat) : Int) := wrap_i64 (by omega) (by omega)
      obtain ⟨l, hll⟩ : ∃ l, A.arcs[i]? = some l := ⟨_, List.getElem?_eq_getElem hlt⟩
      obtain ⟨x, hxs⟩ : ∃ x, vs[i]? = some x := ⟨_, List.getElem?_eq_getElem (show i < vs.length by omega)⟩
      obtain ⟨x', hxs'⟩ : ∃ x, vs'[i]? = some x := ⟨_, List.getElem?_eq_getElem (show i < vs'.length by omega)⟩
      have hx : (vs.map fun x => [x])[i]? = some [x] := by simp [hxs]
      have hx' : (vs'.map fun x => [x])[i]? = some [x'] := by simp [hxs']
      obtain ⟨d, hd1, _, hd3⟩ := (ha.keeps hkH).at hx
      have hr := (hd3 0 x rfl).1
      have hdd : aadd d 0 = d := rfl
      rw [hdd] at hr
      obtain ⟨d', hd1', _, hd3'⟩ := (ha'.keeps hkH).at hx'
      have hr' := (hd3' 0 x' rfl).1
      have hdd' : aadd d' 0 = d' := rfl
      rw [hdd'] at hr'
      have hs := (he i x l hxs hll).keeps hkH
      have hs' := (he' i x' l hxs' hll).keeps hkH
      have hbl := hb l (List.mem_of_getElem? hll)
      obtain ⟨la, lc, hls⟩ := hs.len
      obtain ⟨la', lc', hls'⟩ := hs'.len
      rw [List.length_map] at hls hls'
      subst hls hls'
      clear hx hx' hd3 hd3' hxs hxs' hll
      repeat refine zs ?_
      refine WPX.loop hmix (fun k σ => ∃ j, j ≤ l.length ∧ k = l.length - j ∧ eget σ.e 2 = .pointer (some ⟨h.next, 0, some 0⟩) ∧ eget σ.e 3 = .pointer (some ⟨h.next + 1, 0, some 0⟩) ∧ eget σ.e 6 = .int .i64 (i : Nat) ∧ eget σ.e 44 = .int .i64 A.arcs.length ∧ eget σ.e 45 = .int .i64 (i : Nat) ∧
        eget σ.e 66 = .int .i64 l.length ∧ eget σ.e 67 = .int .i64 (j : Nat) ∧ σ.h = hh2) l.length ?h2 ?round2
      case h2 => exact ⟨0, Nat.zero_le _, rfl, zv, zv, zv, zv, zv, zv, zv, rfl⟩
      clear q2 q3 q44 q45
      rintro k ⟨e, hh3⟩ ⟨j, hj, rfl, q2, q3, q6, q44, q45, q66, q67, rfl⟩
      dsimp only at q2 q3 q6 q44 q45 q66 q67 hb1 hb2 hkH hr hr' hs hs'
      by_cases hjl : j < l.length
      · have hjlI : (j : Int) < l.length := by omega
        have hw2 : IntKind.i64.wrap ((j : Int) + 1) = ((j + 1 : Nat) : Int) := wrap_i64 (by omega) (by omega)
        obtain ⟨⟨f, t, s⟩, hx⟩ : ∃ x, l[j]? = some x := ⟨_, List.getElem?_eq_getElem hjl⟩
        have hxj : (l.map arcV)[j]? = some (arcV (f, t, s)) := by simp [hx]
        obtain ⟨b, hbb1, _, hbb3⟩ := hs.at hxj
        have hld := aloadN_of _ _ hbb3
        obtain ⟨b', hbb1', _, hbb3'⟩ := hs'.at hxj
        have hld' := aloadN_of _ _ hbb3'
        simp only [arcV, List.length_cons, List.length_nil, Nat.reduceAdd] at hld hld'
        clear hbb3 hbb3' hxj hx
        repeat refine zs ?_
        exact ⟨l.length - (j + 1), by omega, j + 1, by omega, rfl, zv, zv, zv, zv, zv, zv, zv, rfl⟩
      · have hjlI : ¬ (j : Int) < l.length := by omega
        repeat refine zs ?_
        exact ⟨A.arcs.length - (i + 1), by omega, i + 1, by omega, rfl, zv, zv, zv, zv, rfl⟩
    · have hltI : ¬ (i : Int) < A.arcs.length := by omega
      repeat refine zs ?_
      refine ⟨.inr rfl, _, rfl, ?_, hkH⟩
      simp only [resOf, rop, opd, celsL, oneV, aadd, binV, isSh, intBin, scEq, keq, unV, fillL, oP, oA, oS, wantedA, BX, BL, BS, seval]
end Go.Proofs.YtlipmjpapkfaeaaGreatDoor.Fn
end
section
set_option linter.unusedSimpArgs false
set_option linter.unusedVariables false
set_option maxRecDepth 100000
namespace Go.Proofs.YtlipmjpapkfaeaaGreatDoor.Fn
open Go Go.Mach Go.RowKit Go.Proofs Go.Proofs.YtlipmjpapkfaeaaGreatDoor.Orc
attribute [local irreducible] AOps WPX DOps thenS blockS AOp GOps CPick
end Go.Proofs.YtlipmjpapkfaeaaGreatDoor.Fn
end
