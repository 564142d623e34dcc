/- corporalaw20.large (F15) in the machine.
Merged from 1 texts. -/
import Derived.Test.YtlipmjpapkfaeaaGreatDoorZD8
import Derived.Test.YtlipmjpapkfaeaaGreatDoorZD13
import Derived.Test.YtlipmjpapkfaeaaGreatDoorZD38
import Derived.KernelRfl
section
set_option linter.unusedSimpArgs false
set_option linter.unusedVariables false
set_option maxRecDepth 100000
namespace Go.Proofs.YtlipmjpapkfaeaaGreatDoor.Fn
open Go Go.Mach Go.RowKit
attribute [local irreducible] AOps WPX DOps thenS blockS GOps CPick
def largeA (most : Int) (A : Aut) : Bool := decide ((A.fin.length : Int) > most) || decide ((A.arcs.length : Int) > most + 1) || A.arcs.any (fun l => decide ((l.length : Int) > 12))
set_option maxHeartbeats 4000000 in
theorem f15_ok (W : World) (h : AHeap) (most : Int) (vl : Value) (As : List Aut) (cs : List (Value × Value × List Value)) (hm0 : 0 ≤ most) (hm : most < 1073741824) (hn : As.length < 1073741824) (hlen : cs.length = As.length)
    (hsl : Sl W h 2 vl (cs.map fun c => [c.1, c.2.1]))
    (hA : ∀ (i : Nat) c A, cs[i]? = some c → As[i]? = some A → AutoV W h (.agg #[c.1, c.2.1]) A c.1 c.2.1 c.2.2) :
    ACalls Tryz.prog W 15 [.int .i64 most, vl] h (fun r h' => r = .bool (As.any (largeA most)) ∧ Keeps h h') := by
  obtain ⟨la, lc, hls⟩ := hsl.len
  rw [List.length_map, hlen] at hls
  subst hls
  refine ACalls_ofX hmix c15 (Nat.le_of_ble_eq_true rfl) ?_
  unfold r15
  dsimp only [Rc.t, Rc.u, Rc.v, Rc.o, Rc.i, Rc.p, Rc.q, Rc.s, Rc.b, Rc.k, Rc.g, Rc.S, Rc.D]
  simp only [envOf2]
  repeat refine zs ?_
  refine WPX.loop hmix (fun k σ => ∃ i, i ≤ As.length ∧ k = As.length - i ∧ eget σ.e 0 = .int .i64 most ∧ eget σ.e 9 = .slice la As.length lc ∧ eget σ.e 10 = .int .i64 As.length ∧ eget σ.e 11 = .int .i64 (i : Nat) ∧ Keeps h σ.h ∧ (As.take i).any (largeA most) = false)
    As.length ?h0 ?round
  case h0 => exact ⟨0, Nat.zero_le _, rfl, zv, zv, zv, zv, Keeps.refl h, rfl⟩
  rintro k ⟨e, hh⟩ ⟨i, hi, rfl, e0, e9, e10, e11, hk, hc⟩
  dsimp only at e0 e9 e10 e11 hk
  by_cases hlt : i < As.length
  · have hltI : (i : Int) < As.length := by omega
    obtain ⟨A, hAi⟩ : ∃ A, As[i]? = some A := ⟨_, List.getElem?_eq_getElem hlt⟩
    obtain ⟨⟨vf, va, vs⟩, hci⟩ : ∃ c, cs[i]? = some c := ⟨_, List.getElem?_eq_getElem (show i < cs.length by omega)⟩
    have hx : (cs.map fun c => [c.1, c.2.1])[i]? = some [vf, va] := by simp [hci]
    obtain ⟨a, ha1, _, ha2⟩ := (hsl.keeps hk).at hx
    have hld := aloadN_of _ _ ha2
    simp only [List.length_cons, List.length_nil, Nat.reduceAdd] at hld
    obtain ⟨_, hvf, hva, hvl, hve⟩ := hA i _ _ hci hAi
    simp only at hvf hva hvl hve
    obtain ⟨fa, fc, hfs⟩ := hvf.len
    obtain ⟨aa, ac, has⟩ := hva.len
    rw [List.length_map] at hfs has
    rw [hvl] at has
    subst hfs has
    have hnextA : largeA most A = true → As.any (largeA most) = true := fun h => List.any_eq_true.2 ⟨A, List.mem_of_getElem? hAi, h⟩
    clear hx ha2
    have hkk : Keeps h ((hh.new (.cells [.slice none 0 0, .slice none 0 0])).put hh.next (.cells [.slice fa A.fin.length fc, .slice aa A.arcs.length ac])) := (hk.new _).put hk.le _
    have hw0 : IntKind.i64.wrap (most + 1) = most + 1 := wrap_i64 (by omega) (by omega)
    by_cases b1 : (A.fin.length : Int) > most
    · have hv := hnextA (by simp [largeA, b1])
      repeat refine zs ?_
      refine ⟨.inr rfl, _, rfl, ?_, hkk⟩
      simp only [resOf, rop, opd, celsL, oneV, aadd, binV, isSh, intBin, scEq, keq, unV, fillL, oP, oA, oS, wantedA, BX, BL, BS, seval, hv]
    by_cases b2 : (A.arcs.length : Int) > most + 1
    · have hv := hnextA (by simp [largeA, b2])
      repeat refine zs ?_
      refine ⟨.inr rfl, _, rfl, ?_, hkk⟩
      simp only [resOf, rop, opd, celsL, oneV, aadd, binV, isSh, intBin, scEq, keq, unV, fillL, oP, oA, oS, wantedA, BX, BL, BS, seval, hv]
    repeat refine zs ?_
    refine WPX.loop hmix (fun k σ => ∃ j, j ≤ A.arcs.length ∧ k = A.arcs.length - j ∧ eget σ.e 0 = .int .i64 most ∧ eget σ.e 9 = .slice la As.length lc ∧ eget σ.e 10 = .int .i64 As.length ∧ eget σ.e 11 = .int .i64 (i : Nat) ∧
      eget σ.e 29 = .slice aa A.arcs.length ac ∧ eget σ.e 30 = .int .i64 A.arcs.length ∧ eget σ.e 31 = .int .i64 (j : Nat) ∧ Keeps h σ.h ∧ (A.arcs.take j).any (fun l => decide ((l.length : Int) > 12)) = false) A.arcs.length ?h1 ?round1
    case h1 => exact ⟨0, Nat.zero_le _, rfl, zv, zv, zv, zv, zv, zv, zv, hkk, rfl⟩
    rintro k2 ⟨e', hh'⟩ ⟨j, hj, rfl, q0, q9, q10, q11, q29, q30, q31, hk', hc'⟩
    clear e0 e9 e10 e11 hld ha1
    dsimp only at q0 q9 q10 q11 q29 q30 q31 hk'
    by_cases hjl : j < A.arcs.length
    · have hjlI : (j : Int) < A.arcs.length := by omega
      obtain ⟨l, hll⟩ : ∃ l, A.arcs[j]? = some l := ⟨_, List.getElem?_eq_getElem hjl⟩
      obtain ⟨x, hxs⟩ : ∃ x, vs[j]? = some x := ⟨_, List.getElem?_eq_getElem (show j < vs.length by omega)⟩
      have hxm : (vs.map fun x => [x])[j]? = some [x] := by simp [hxs]
      obtain ⟨b, hb1, _, hb3⟩ := (hva.keeps hk').at hxm
      have hrd := (hb3 0 x rfl).1
      have hbb : aadd b 0 = b := rfl
      rw [hbb] at hrd
      obtain ⟨ll, lc', hlv⟩ := (hve j x l hxs hll).len
      rw [List.length_map] at hlv
      subst hlv
      have hw1 : IntKind.i64.wrap ((j : Int) + 1) = ((j + 1 : Nat) : Int) := wrap_i64 (by omega) (by omega)
      clear hxm hb3
      by_cases b3 : (l.length : Int) > 12
      · have hv := hnextA (by simp only [largeA, Bool.or_eq_true]; exact .inr (List.any_eq_true.2 ⟨l, List.mem_of_getElem? hll, decide_eq_true b3⟩))
        repeat refine zs ?_
        refine ⟨.inr rfl, _, rfl, ?_, hk'⟩
        simp only [resOf, rop, opd, celsL, oneV, aadd, binV, isSh, intBin, scEq, keq, unV, fillL, oP, oA, oS, wantedA, BX, BL, BS, seval, hv]
      · have hn2 : (A.arcs.take (j + 1)).any (fun l => decide ((l.length : Int) > 12)) = false := by
          rw [List.take_add_one, hll, List.any_append, hc']; simp [b3]
        repeat refine zs ?_
        refine ⟨A.arcs.length - (j + 1), by omega, j + 1, by omega, rfl, ?_⟩
        simp only [rop, opd, celsL, oneV, aadd, binV, isSh, intBin, scEq, keq, unV, fillL, oP, oA, oS, wantedA, BX, BL, BS, seval, and_self, *]
    · have hjlI : ¬ (j : Int) < A.arcs.length := by omega
      have hn2 : (As.take (i + 1)).any (largeA most) = false := by
        rw [List.take_add_one, hAi, List.any_append, hc]
        rw [List.take_of_length_le (by omega)] at hc'
        simp only [Option.toList_some, List.any_cons, List.any_nil, Bool.or_false, Bool.false_or, largeA, hc', b1, b2, decide_false]
      have hw1 : IntKind.i64.wrap ((i : Int) + 1) = ((i + 1 : Nat) : Int) := wrap_i64 (by omega) (by omega)
      repeat refine zs ?_
      refine ⟨As.length - (i + 1), by omega, i + 1, by omega, rfl, ?_⟩
      simp only [rop, opd, celsL, oneV, aadd, binV, isSh, intBin, scEq, keq, unV, fillL, oP, oA, oS, wantedA, BX, BL, BS, seval, and_self, *]
  · have hltI : ¬ (i : Int) < As.length := by omega
    have hv : As.any (largeA most) = false := by rw [List.take_of_length_le (by omega)] at hc; exact hc
    repeat refine zs ?_
    refine ⟨.inr rfl, _, rfl, ?_, hk⟩
    simp only [resOf, rop, opd, celsL, oneV, aadd, binV, isSh, intBin, scEq, keq, unV, fillL, oP, oA, oS, wantedA, BX, BL, BS, seval, hv]
end Go.Proofs.YtlipmjpapkfaeaaGreatDoor.Fn
end
