/- corporalaw20.AutomatonKeeps (F8) in the machine: it answers true.
Merged from 4 texts. -/
import Derived.Test.YtlipmjpapkfaeaaGreatDoorZD37
import Derived.Test.YtlipmjpapkfaeaaGreatDoorZD13
import Derived.Test.YtlipmjpapkfaeaaGreatDoorZD39
import Derived.Test.YtlipmjpapkfaeaaGreatDoorZD40
import Derived.Test.YtlipmjpapkfaeaaGreatDoorZD8
import Derived.Test.YtlipmjpapkfaeaaGreatDoorZD38
import Derived.KernelRfl
import Derived.Test.YtlipmjpapkfaeaaGreatDoorZD34
section
set_option linter.unusedSimpArgs false
set_option linter.unusedVariables false
set_option maxRecDepth 100000
namespace Go.Proofs.YtlipmjpapkfaeaaGreatDoor.Fn
open Go Go.Mach Go.RowKit Go.Proofs Go.Proofs.YtlipmjpapkfaeaaGreatDoor.Orc
attribute [local irreducible] AOps WPX DOps thenS blockS AOp GOps CPick
theorem large_arcsK {most : Int} {A : Aut} (h : largeA most A = false) : ∀ l ∈ A.arcs, l.length ≤ 12 := by
  intro l hl
  simp only [largeA, Bool.or_eq_false_iff] at h
  have := List.any_eq_false.1 h.2 l hl
  simp at this
  omega
theorem largeK (W : World) (h : AHeap) (most : Int) (A : Aut) (vf va : Value) (vs : List Value) (hm0 : 0 ≤ most) (hm : most < 1073741824) (hA : AutoV W h (.agg #[vf, va]) A vf va vs) :
    ACalls Tryz.prog W 15 [.int .i64 most, .slice (some ⟨h.next, 0, some 0⟩) 1 2] (h.new (.cells [vf, va])) (fun r h' => r = .bool (largeA most A) ∧ Keeps (h.new (.cells [vf, va])) h') := by
  have ho : Ow (h.new (.cells [vf, va])) h.next 2 [[vf, va]] := ⟨by rw [AHeap.new_get, if_pos rfl]; rfl, fun e he => by simp at he; subst he; rfl, by rw [AHeap.new_next]; omega⟩
  have := f15_ok W (h.new (.cells [vf, va])) most (.slice (some ⟨h.next, 0, some 0⟩) 1 2) [A] [(vf, va, vs)] hm0 hm (by simp) rfl ho.sl (fun i c B hc hB => by
    have hi0 : i = 0 := by have := (List.getElem?_eq_some_iff.1 hc).1; simp at this; omega
    subst hi0
    simp at hc hB
    subst hc hB
    exact hA.keeps ((Keeps.refl h).new _))
  simpa using this
end Go.Proofs.YtlipmjpapkfaeaaGreatDoor.Fn
end
section
set_option linter.unusedSimpArgs false
set_option linter.unusedVariables false
set_option maxRecDepth 100000
namespace Go.Proofs.YtlipmjpapkfaeaaGreatDoor.Fn
open Go Go.Mach Go.RowKit
attribute [local irreducible] AOps WPX DOps thenS blockS GOps CPick
set_option maxHeartbeats 4000000 in
theorem f17_ok (W : World) (h : AHeap) (v : Value) (A : Aut) (vf va : Value) (vs : List Value) (hA : AutoV W h v A vf va vs) (hb : ∀ l ∈ A.arcs, l.length < 1073741824) :
    ACalls Tryz.prog W 17 [v] h (fun r h' => r = .int .i64 (validate A) ∧ Keeps h h') := by
  obtain ⟨rfl, hf, ha, hl, he⟩ := hA
  obtain ⟨fa, fc, hfs⟩ := hf.len
  obtain ⟨aa, ac, has⟩ := ha.len
  rw [List.length_map] at hfs has
  rw [hl] at has
  refine ACalls_ofX hmix c17 (Nat.le_of_ble_eq_true rfl) ?_
  unfold r17
  dsimp only [Rc.t, Rc.u, Rc.v, Rc.o, Rc.i, Rc.p, Rc.q, Rc.s, Rc.b, Rc.k, Rc.g, Rc.S, Rc.D]
  simp only [envOf1]
  have hfs' := hfs; have has' := has
  by_cases h1 : (A.fin.length : Int) > 256
  · subst hfs has
    repeat refine zs ?_
    refine ⟨.inr rfl, _, rfl, ?_, (by first | exact Keeps.refl h | exact (Keeps.refl h).new _ | exact hkk | exact hk | exact hk')⟩
    simp only [resOf, eget_eput, rop, opd, celsL, oneV, aadd, binV, isSh, intBin, scEq, keq, unV, fillL, oP, oA, oS, wantedA, BX, BL, BS, seval]
    unfold validate
    rw [if_pos (by omega)]
  · have h1n : ¬ A.fin.length > 256 := by omega
    by_cases h0 : (A.fin.length : Int) = 0
    · subst hfs has
      repeat refine zs ?_
      refine ⟨.inr rfl, _, rfl, ?_, (by first | exact Keeps.refl h | exact (Keeps.refl h).new _ | exact hkk | exact hk | exact hk')⟩
      simp only [resOf, eget_eput, rop, opd, celsL, oneV, aadd, binV, isSh, intBin, scEq, keq, unV, fillL, oP, oA, oS, wantedA, BX, BL, BS, seval]
      unfold validate
      rw [if_neg h1n, if_pos (.inl (by omega))]
    · by_cases hm : (A.arcs.length : Int) = A.fin.length
      · have hn : Hid (A.arcs.length = A.fin.length) := by show A.arcs.length = A.fin.length; omega
        rw [hn.out] at has hl
        clear hm has'
        subst hfs has
        repeat refine zs ?_
        refine WPX.loop hmix (fun k σ => ∃ i, i ≤ A.fin.length ∧ k = A.fin.length - i ∧ eget σ.e 3 = .int .i64 A.fin.length ∧ eget σ.e 23 = .slice aa A.fin.length ac ∧ eget σ.e 24 = .int .i64 A.fin.length ∧ eget σ.e 25 = .int .i64 (i : Nat) ∧ Keeps h σ.h ∧ chkAll A.fin.length (A.arcs.take i) = none)
          A.fin.length ?h0 ?round
        case h0 => exact ⟨0, Nat.zero_le _, rfl, zv, zv, zv, zv, (Keeps.refl h).new _, rfl⟩
        rintro k ⟨e, hh⟩ ⟨i, hi, rfl, e3, e25, e26, e27, hk, hc⟩
        dsimp only at e3 e25 e26 e27 hk
        by_cases hlt : i < A.fin.length
        · have hltI : (i : Int) < A.fin.length := by omega
          have hlv : i < vs.length := by omega
          have hx : (vs.map fun x => [x])[i]? = some [vs[i]] := by simp [hlv]
          obtain ⟨a, ha1, _, ha2⟩ := (ha.keeps hk).at hx
          have hrd := (ha2 0 vs[i] rfl).1
          have haa : aadd a 0 = a := rfl
          rw [haa] at hrd
          have hia : i < A.arcs.length := by have := hn.out; omega
          obtain ⟨l, hll⟩ : ∃ l, A.arcs[i]? = some l := ⟨_, List.getElem?_eq_getElem hia⟩
          have hs := (he i vs[i] l (by simp [hlv]) hll)
          obtain ⟨la, lc, hls⟩ := hs.len
          rw [List.length_map] at hls
          rw [hls] at hrd hs
          repeat refine zs ?_
          refine WPX.loop hmix (fun k σ => ∃ j, j ≤ l.length ∧ k = l.length - j ∧ eget σ.e 3 = .int .i64 A.fin.length ∧ eget σ.e 23 = .slice aa A.fin.length ac ∧ eget σ.e 24 = .int .i64 A.fin.length ∧ eget σ.e 25 = .int .i64 (i : Nat) ∧
            eget σ.e 5 = .slice la l.length lc ∧ eget σ.e 29 = .slice la l.length lc ∧ eget σ.e 30 = .int .i64 l.length ∧ eget σ.e 31 = .int .i64 (j : Nat) ∧ Keeps h σ.h ∧ chkFrom A.fin.length none (l.take j) = none) l.length ?h1 ?round1
          case h1 => exact ⟨0, Nat.zero_le _, rfl, zv, zv, zv, zv, zv, zv, zv, zv, hk, rfl⟩
          rintro k2 ⟨e', hh'⟩ ⟨j, hj, rfl, q3, q25, q26, q27, q5, q31, q32, q33, hk', hc'⟩
          clear e3 e25 e26 e27 hrd ha1
          dsimp only at q3 q25 q26 q27 q5 q31 q32 q33 hk'
          by_cases hjl : j < l.length
          · have hjlI : (j : Int) < l.length := by omega
            have hxj : (l.map arcV)[j]? = some (arcV l[j]) := by simp [hjl]
            obtain ⟨b, hb1, hb2, hb3⟩ := (hs.keeps hk').at hxj
            have hld := aloadN_of _ _ hb3
            obtain ⟨x, hxe⟩ : ∃ x, x = l[j] := ⟨_, rfl⟩
            rw [← hxe] at hld
            obtain ⟨f, t, s⟩ := x
            simp only [arcV, List.length_cons, List.length_nil, Nat.reduceAdd] at hld
            have hxl : l[j]? = some (f, t, s) := by rw [hxe]; simp [hjl]
            have fin8 : badArc A.fin.length (f, t, s) = true → validate A = 8 := fun hbad => by
              have := chkAll_hit hll hc (c := 8) (by rw [chkFrom_hit hxl hc']; simp [chkFrom, hbad])
              unfold validate; rw [if_neg h1n, if_neg (by have := hn.out; omega), this]; rfl
            have hkk : Keeps h ((hh'.new (.cells [.int .i32 0, .int .i32 0, .int .i64 0])).put hh'.next (.cells [.int .i32 f, .int .i32 t, .int .i64 s])) := (hk'.new _).put hk'.le _
            by_cases b1 : f < 0
            · have hv := fin8 (by simp [badArc, b1])
              repeat refine zs ?_
              refine ⟨.inr rfl, _, rfl, ?_, (by first | exact Keeps.refl h | exact (Keeps.refl h).new _ | exact hkk | exact hk | exact hk')⟩
              simp only [resOf, rop, opd, celsL, oneV, aadd, binV, isSh, intBin, scEq, keq, unV, fillL, oP, oA, oS, wantedA, BX, BL, BS, seval, hv]
            by_cases b2 : f > t
            · have hv := fin8 (by simp [badArc, b2])
              repeat refine zs ?_
              refine ⟨.inr rfl, _, rfl, ?_, (by first | exact Keeps.refl h | exact (Keeps.refl h).new _ | exact hkk | exact hk | exact hk')⟩
              simp only [resOf, rop, opd, celsL, oneV, aadd, binV, isSh, intBin, scEq, keq, unV, fillL, oP, oA, oS, wantedA, BX, BL, BS, seval, hv]
            by_cases b3 : t > 1114111
            · have hv := fin8 (by simp [badArc, b3])
              repeat refine zs ?_
              refine ⟨.inr rfl, _, rfl, ?_, (by first | exact Keeps.refl h | exact (Keeps.refl h).new _ | exact hkk | exact hk | exact hk')⟩
              simp only [resOf, rop, opd, celsL, oneV, aadd, binV, isSh, intBin, scEq, keq, unV, fillL, oP, oA, oS, wantedA, BX, BL, BS, seval, hv]
            by_cases b4 : s < 0
            · have hv := fin8 (by simp [badArc, b4])
              repeat refine zs ?_
              refine ⟨.inr rfl, _, rfl, ?_, (by first | exact Keeps.refl h | exact (Keeps.refl h).new _ | exact hkk | exact hk | exact hk')⟩
              simp only [resOf, rop, opd, celsL, oneV, aadd, binV, isSh, intBin, scEq, keq, unV, fillL, oP, oA, oS, wantedA, BX, BL, BS, seval, hv]
            by_cases b5 : s ≥ (A.fin.length : Int)
            · have hv := fin8 (by simp [badArc, b5])
              repeat refine zs ?_
              refine ⟨.inr rfl, _, rfl, ?_, (by first | exact Keeps.refl h | exact (Keeps.refl h).new _ | exact hkk | exact hk | exact hk')⟩
              simp only [resOf, rop, opd, celsL, oneV, aadd, binV, isSh, intBin, scEq, keq, unV, fillL, oP, oA, oS, wantedA, BX, BL, BS, seval, hv]
            have hbad : badArc A.fin.length (f, t, s) = false := by simp [badArc, b1, b2, b3, b4, b5]
            have hw1 : IntKind.i64.wrap ((j : Int) + 1) = ((j + 1 : Nat) : Int) := by have := hb l (List.mem_of_getElem? hll); exact wrap_i64 (by omega) (by omega)
            by_cases hj0 : (j : Int) > 0
            · have hwj : IntKind.i64.wrap ((j : Int) - 1) = ((j - 1 : Nat) : Int) := by have := hb l (List.mem_of_getElem? hll); rw [show ((j - 1 : Nat) : Int) = (j : Int) - 1 by omega]; exact wrap_i64 (by omega) (by omega)
              obtain ⟨⟨f', t', s'⟩, hpl⟩ : ∃ p, l[j - 1]? = some p := ⟨_, List.getElem?_eq_getElem (show j - 1 < l.length by omega)⟩
              have hprev : prevArc l j = some (f', t', s') := by unfold prevArc; rw [if_neg (by omega), hpl]
              have hxp : (l.map arcV)[j - 1]? = some (arcV (f', t', s')) := by simp [hpl]
              obtain ⟨b', hb1', _, hb3'⟩ := (hs.keeps hkk).at hxp
              have hp1 := (hb3' 1 (.int .i32 t') rfl).1
              have hp2 := (hb3' 2 (.int .i64 s') rfl).1
              simp only [aadd] at hp1 hp2
              have fin6 : chkFrom A.fin.length (some (f', t', s')) ((f, t, s) :: l.drop (j + 1)) = some 6 → validate A = 6 := fun hr => by
                have := chkAll_hit hll hc (c := 6) (by rw [chkFrom_hit hxl hc', hprev]; exact hr)
                unfold validate; rw [if_neg h1n, if_neg (by have := hn.out; omega), this]; rfl
              clear hb3' hxp hpl
              by_cases b6 : f ≤ t'
              · have hv := fin6 (by simp [chkFrom, hbad, b6])
                repeat refine zs ?_
                refine ⟨.inr rfl, _, rfl, ?_, (by first | exact Keeps.refl h | exact (Keeps.refl h).new _ | exact hkk | exact hk | exact hk')⟩
                simp only [resOf, rop, opd, celsL, oneV, aadd, binV, isSh, intBin, scEq, keq, unV, fillL, oP, oA, oS, wantedA, BX, BL, BS, seval, hv]
              · by_cases b7 : f = IntKind.i32.wrap (t' + 1)
                · have b7' : decide (f = IntKind.i32.wrap (t' + 1)) = true := decide_eq_true b7
                  by_cases b8 : s = s'
                  · have hv := fin6 (by simp only [chkFrom, hbad, Bool.false_eq_true, if_false, b6]; rw [if_pos ⟨b7, b8⟩])
                    clear fin6 b7
                    subst b8
                    repeat refine zs ?_
                    refine ⟨.inr rfl, _, rfl, ?_, (by first | exact Keeps.refl h | exact (Keeps.refl h).new _ | exact hkk | exact hk | exact hk')⟩
                    simp only [resOf, rop, opd, celsL, oneV, aadd, binV, isSh, intBin, scEq, keq, unV, fillL, oP, oA, oS, wantedA, BX, BL, BS, seval, hv]
                  · have hnext : chkFrom A.fin.length none (l.take (j + 1)) = none := by rw [chkFrom_next hxl hc', hprev]; simp only [chkFrom, hbad, Bool.false_eq_true, if_false, b6]; rw [if_neg (fun h => b8 h.2)]
                    clear fin6 b7
                    repeat refine zs ?_
                    refine ⟨l.length - (j + 1), by omega, j + 1, by omega, rfl, ?_⟩
                    simp only [rop, opd, celsL, oneV, aadd, binV, isSh, intBin, scEq, keq, unV, fillL, oP, oA, oS, wantedA, BX, BL, BS, seval, and_self, *]
                · have hnext : chkFrom A.fin.length none (l.take (j + 1)) = none := by rw [chkFrom_next hxl hc', hprev]; simp only [chkFrom, hbad, Bool.false_eq_true, if_false, b6]; rw [if_neg (fun h => b7 h.1)]
                  clear fin6
                  repeat refine zs ?_
                  refine ⟨l.length - (j + 1), by omega, j + 1, by omega, rfl, ?_⟩
                  simp only [rop, opd, celsL, oneV, aadd, binV, isSh, intBin, scEq, keq, unV, fillL, oP, oA, oS, wantedA, BX, BL, BS, seval, and_self, *]
            · have hj00 : j = 0 := by omega
              have hprev : prevArc l j = none := by unfold prevArc; rw [if_pos hj00]
              have hnext : chkFrom A.fin.length none (l.take (j + 1)) = none := by rw [chkFrom_next hxl hc', hprev]; simp [chkFrom, hbad]
              clear hj00
              repeat refine zs ?_
              refine ⟨l.length - (j + 1), by omega, j + 1, by omega, rfl, ?_⟩
              simp only [rop, opd, celsL, oneV, aadd, binV, isSh, intBin, scEq, keq, unV, fillL, oP, oA, oS, wantedA, BX, BL, BS, seval, and_self, *]
          · have hjlI : ¬ (j : Int) < l.length := by omega
            have hnext : chkAll A.fin.length (A.arcs.take (i + 1)) = none := chkAll_next hll hc (by rw [← hc', List.take_of_length_le (by omega)])
            have hw1 : IntKind.i64.wrap ((i : Int) + 1) = ((i + 1 : Nat) : Int) := wrap_i64 (by omega) (by omega)
            repeat refine zs ?_
            refine ⟨A.fin.length - (i + 1), by omega, i + 1, by omega, rfl, ?_⟩
            simp only [rop, opd, celsL, oneV, aadd, binV, isSh, intBin, scEq, keq, unV, fillL, oP, oA, oS, wantedA, BX, BL, BS, seval, and_self, *]
        · have hltI : ¬ (i : Int) < A.fin.length := by omega
          have hv : validate A = 0 := by
            unfold validate; rw [if_neg h1n, if_neg (by have := hn.out; omega)]
            rw [List.take_of_length_le (by have := hn.out; omega)] at hc
            rw [hc]; rfl
          repeat refine zs ?_
          refine ⟨.inr rfl, _, rfl, ?_, (by first | exact Keeps.refl h | exact (Keeps.refl h).new _ | exact hkk | exact hk | exact hk')⟩
          simp only [resOf, rop, opd, celsL, oneV, aadd, binV, isSh, intBin, scEq, keq, unV, fillL, oP, oA, oS, wantedA, BX, BL, BS, seval, hv]
      · subst hfs has
        repeat refine zs ?_
        refine ⟨.inr rfl, _, rfl, ?_, (by first | exact Keeps.refl h | exact (Keeps.refl h).new _ | exact hkk | exact hk | exact hk')⟩
        simp only [resOf, eget_eput, rop, opd, celsL, oneV, aadd, binV, isSh, intBin, scEq, keq, unV, fillL, oP, oA, oS, wantedA, BX, BL, BS, seval]
        unfold validate
        rw [if_neg h1n, if_pos (.inr (by omega))]
end Go.Proofs.YtlipmjpapkfaeaaGreatDoor.Fn
end
section
set_option linter.unusedSimpArgs false
set_option linter.unusedVariables false
set_option maxRecDepth 100000
namespace Go.Proofs.YtlipmjpapkfaeaaGreatDoor.Fn
open Go Go.Mach Go.RowKit Go.Proofs
attribute [local irreducible] AOps WPX DOps thenS blockS AOp GOps CPick
theorem pair_lang {A B : Aut} {ps : List Int} {ks : List (Int × Int)} {rows : List (List Int)} (t : PairT A B ps ks rows ks.length) (hP : Pts ps) (hA : ∀ l ∈ A.arcs, ∀ x ∈ l, CutAt ps (rngOf x)) (hB : ∀ l ∈ B.arcs, ∀ x ∈ l, CutAt ps (rngOf x)) (op : Int) (cs : List Int) :
    acc (tabA ps (ks.map (finP A B op)) rows) 0 cs = (cs.all okC && decideZ (acc A 0 cs) (acc B 0 cs) op) := by
  have h0 := (List.getElem?_eq_some_iff.1 t.k0).1
  cases hc : cs.all okC with
  | true => rw [Bool.true_and]; exact t.acc hP hA hB op cs 0 (0, 0) t.k0 hc
  | false => rw [Bool.false_and]; exact acc_ok (t.tab hP op).wf cs (by show (0 : Int) < ((ks.map (finP A B op)).length : Nat); rw [List.length_map]; omega) hc
theorem none_acc (cs : List Int) : acc noneA 0 cs = false := by
  cases cs with
  | nil => rfl
  | cons c cs =>
    have hq : nextQ noneA 0 c = -1 := rfl
    rw [acc_cons, hq]; exact acc_dead _ cs (by decide)
theorem none_wf : Wf noneA := ⟨rfl, fun l hl => by simp [noneA] at hl; subst hl; rfl⟩
theorem emptyV (W : World) (h : AHeap) : AutoV W h (.agg #[.slice none 0 0, .slice none 0 0]) ⟨[], []⟩ (.slice none 0 0) (.slice none 0 0) [] :=
  have s : ∀ k, Sl W h k (.slice none 0 0) [] := fun k => ⟨none, 0, rfl, (fun b hb => by cases hb), fun _ => ⟨rfl, rfl⟩⟩
  ⟨rfl, s 1, s 1, rfl, fun i x l hx => by simp at hx⟩
def RefR (W : World) (err : Option Int) (L : List Int → Bool) (r : Value) (h' : AHeap) : Prop :=
  (∃ c, err = some c ∧ r = .tuple #[.agg #[.slice none 0 0, .slice none 0 0], .int .i64 c]) ∨
  (err = none ∧ ∃ M vf va vs, r = .tuple #[.agg #[vf, va], .int .i64 0] ∧ Canon M ∧ (∀ cs, acc M 0 cs = L cs) ∧ (M.fin.length ≤ 100000 ∧ ∀ l ∈ M.arcs, l.length < 500000000) ∧ AutoV W h' (.agg #[vf, va]) M vf va vs)
set_option maxHeartbeats 8000000 in
theorem f22_ok (W : World) (h : AHeap) (v : Value) (A : Aut) (vf va : Value) (vs : List Value) (hA : AutoV W h v A vf va vs) (hb : ∀ l ∈ A.arcs, l.length ≤ 4096) :
    ACalls Tryz.prog W 22 [v] h (fun r h' => RefR W (if validate A = 0 then none else some 1) (acc A 0) r h' ∧ Keeps h h') := by
  have hA' := hA
  obtain ⟨rfl, hf, ha, hl, he⟩ := hA
  obtain ⟨fa, fc, hfs⟩ := hf.len
  obtain ⟨aa, ac, has⟩ := ha.len
  rw [List.length_map] at hfs has
  rw [hl] at has
  subst hfs has
  refine ACalls_ofX hmix c22 (Nat.le_of_ble_eq_true rfl) ?_
  unfold r22
  dsimp only [Rc.t, Rc.u, Rc.v, Rc.o, Rc.i, Rc.p, Rc.q, Rc.s, Rc.b, Rc.k, Rc.g, Rc.S, Rc.D]
  simp only [envOf1]
  obtain ⟨H, hH⟩ : ∃ H, H = (h.new (.cells [.slice fa A.fin.length fc, .slice aa A.arcs.length ac])).new (.cells [.slice none 0 0, .slice none 0 0]) := ⟨_, rfl⟩
  have hHn : H.next = h.next + 2 := by rw [hH]; rfl
  have hkH : Keeps h H := by rw [hH]; exact ((Keeps.refl h).new _).new _
  have hbH : H.own.get h.next = some (.cells [.slice fa A.fin.length fc, .slice aa A.arcs.length ac]) := by rw [hH, AHeap.new_get, AHeap.new_next, if_neg (by omega), AHeap.new_get, if_pos rfl]
  have hb2 : H.own.get (h.next + 1) = some (.cells [.slice none 0 0, .slice none 0 0]) := by rw [hH, AHeap.new_get, AHeap.new_next, if_pos rfl]
  have h17 := f17_ok W H _ A _ _ vs (hA'.keeps hkH) (fun l hl => by have := hb l hl; omega)
  have hldH : aloadN W H ⟨h.next, 0, some 0⟩ 2 = some [.slice fa A.fin.length fc, .slice aa A.arcs.length ac] := aload2 hbH
  rw [hH] at h17 hldH
  repeat refine zs ?_
  refine ops_callK zv za h17 ?_
  rintro r1 h1 ⟨rfl, hk1⟩
  rw [← hH] at hk1
  clear h17 hldH
  have hk01 : Keeps h h1 := hkH.trans hk1
  have hlt1 : h.next + 1 < h1.next := by have := hk1.le; omega
  have hb1 : h1.own.get h.next = some (.cells [.slice fa A.fin.length fc, .slice aa A.arcs.length ac]) := by rw [hk1.same _ (by omega)]; exact hbH
  have hb21 : h1.own.get (h.next + 1) = some (.cells [.slice none 0 0, .slice none 0 0]) := by rw [hk1.same _ (by omega)]; exact hb2
  by_cases hv0 : validate A = 0
  case neg =>
    have hkf : Keeps h (h1.put (h.next + 1) (.cells [.slice none 0 0, .slice none 0 0])) := hk01.put (by omega) _
    have hrs : aloadN W (h1.put (h.next + 1) (.cells [.slice none 0 0, .slice none 0 0])) ⟨h.next + 1, 0, some 0⟩ 2 = some [.slice none 0 0, .slice none 0 0] := aload2 (by rw [AHeap.put_get, if_pos rfl])
    rw [if_neg hv0]
    repeat refine zs ?_
    refine ⟨.inr rfl, [.agg #[.slice none 0 0, .slice none 0 0], .int .i64 1], ?_, .inl ⟨1, rfl, rfl⟩, hkf⟩
    simp only [resVals, rop, opd, celsL, oneV, aadd, binV, isSh, intBin, scEq, keq, unV, fillL, oP, oA, oS, wantedA, BX, BL, BS, seval, *]
  rw [if_pos hv0]
  have hv0' : (!decide (validate A = 0)) = false := by simp [hv0]
  have w := Wf.of_validate hv0
  obtain ⟨hn1, hn2, _, _⟩ := validate_zero hv0
  have hld1 : aloadN W h1 ⟨h.next, 0, some 0⟩ 2 = some [.slice fa A.fin.length fc, .slice aa A.arcs.length ac] := aload2 hb1
  replace hv0 : Hid (validate A = 0) := hv0
  have h47 := f47_ok W h1
  repeat refine zs ?_
  refine x_draws (d_eff (by kernel_rfl) ?_)
  repeat refine zs ?_
  refine aop_callK rfl zv za h47 ?_
  rintro r2 h2 ⟨⟨nvf, nva, nvs, rfl, hN⟩, hk2⟩
  clear h47 hld1
  have hk02 := hk01.trans hk2
  have hb3 : h2.own.get h.next = some (.cells [.slice fa A.fin.length fc, .slice aa A.arcs.length ac]) := by rw [hk2.same _ (by omega)]; exact hb1
  have hld2 : aloadN W h2 ⟨h.next, 0, some 0⟩ 2 = some [.slice fa A.fin.length fc, .slice aa A.arcs.length ac] := aload2 hb3
  have h46 := f46_ok W h2 _ _ A noneA _ _ nvf nva vs nvs (hA'.keeps hk02) hN w none_wf (by omega) (by decide) (by omega) (by decide) hb (fun l hl => by simp [noneA] at hl; subst hl; simp) 2
  refine d_chk (by kernel_rfl) ?chk1 ?_
  case chk1 =>
    intro o ho
    simp only [List.mem_cons, List.not_mem_nil, or_false] at ho
    rcases ho with rfl
    simp only [Chk, kindOf, dval, rop, opd, celsL, oneV, aadd, binV, isSh, intBin, scEq, keq, unV, fillL, oP, oA, oS, wantedA, BX, BL, BS, seval, *]
  refine aop_callK rfl zv za h46 ?_
  rintro r3 h3 ⟨⟨ps, ks, rows, pv, fv, nv, tvs, rfl, hT, hP, hcA, hcB, hpl, hPT, hkl⟩, hk3⟩
  clear h46 hld2
  have hk03 := hk02.trans hk3
  have h0k := (List.getElem?_eq_some_iff.1 hPT.k0).1
  have h48 := f48_ok W h3 _ _ _ tvs ps _ rows hT (hPT.tab hP 2) (by omega) (by rw [List.length_map]; omega) (by rw [List.length_map]; omega)
  refine d_eff (by kernel_rfl) ?_
  repeat refine zs ?_
  refine aop_callK rfl zv za h48 ?_
  rintro r4 h4 ⟨⟨M, mf, ma, ms, rfl, hM, hcan, hacc, hMn, hMl⟩, hk4⟩
  clear h48
  have hk04 := hk03.trans hk4
  obtain ⟨fa2, n3, fc2, aa2, m3, ac2, rfl, rfl⟩ := AutoV.slices hM.auto
  have hlt4 : h.next + 1 < h4.next := by have := hk2.le; have := hk3.le; have := hk4.le; omega
  have hb4 : h4.own.get (h.next + 1) = some (.cells [.slice none 0 0, .slice none 0 0]) := by rw [hk4.same _ (by have := hk2.le; have := hk3.le; omega), hk3.same _ (by have := hk2.le; omega), hk2.same _ (by omega)]; exact hb21
  have hkf : Keeps h (h4.put (h.next + 1) (.cells [.slice fa2 n3 fc2, .slice aa2 m3 ac2])) := hk04.put (by omega) _
  have hrs : aloadN W (h4.put (h.next + 1) (.cells [.slice fa2 n3 fc2, .slice aa2 m3 ac2])) ⟨h.next + 1, 0, some 0⟩ 2 = some [.slice fa2 n3 fc2, .slice aa2 m3 ac2] := aload2 (by rw [AHeap.put_get, if_pos rfl])
  have hlang : ∀ cs, acc M 0 cs = acc A 0 cs := fun cs => by
    rw [hacc cs, pair_lang hPT hP hcA hcB 2 cs, none_acc]
    have e : decideZ (acc A 0 cs) false 2 = acc A 0 cs := by simp [decideZ]
    rw [e]
    cases hc : cs.all okC with
    | true => rfl
    | false => rw [Bool.false_and]; exact (acc_ok w cs (by omega) hc).symm
  have hR : RefR W none (acc A 0) (.tuple #[.agg #[.slice fa2 n3 fc2, .slice aa2 m3 ac2], .int .i64 0]) (h4.put (h.next + 1) (.cells [.slice fa2 n3 fc2, .slice aa2 m3 ac2])) :=
    .inr ⟨rfl, M, _, _, ms, rfl, hcan, hlang, ⟨by rw [List.length_map] at hMn; omega, fun l hl => by have := hMl l hl; omega⟩, (hM.put (by have := hk2.le; have := hk3.le; omega) _).auto⟩
  refine d_eff (by kernel_rfl) ?_
  repeat refine zs ?_
  refine aop_do zr ?_
  refine d_pure (by kernel_rfl) ?_
  repeat refine zs ?_
  refine ⟨.inr rfl, [.agg #[.slice fa2 n3 fc2, .slice aa2 m3 ac2], .int .i64 0], ?_, hR, hkf⟩
  simp only [resVals, rop, opd, celsL, oneV, aadd, binV, isSh, intBin, scEq, keq, unV, fillL, oP, oA, oS, wantedA, BX, BL, BS, seval, *]
end Go.Proofs.YtlipmjpapkfaeaaGreatDoor.Fn
end
section
set_option linter.unusedSimpArgs false
set_option linter.unusedVariables false
set_option maxRecDepth 100000
namespace Go.Proofs.YtlipmjpapkfaeaaGreatDoor.Fn
open Go Go.Mach Go.RowKit Go.Proofs Go.Proofs.YtlipmjpapkfaeaaGreatDoor.Orc
attribute [local irreducible] AOps WPX DOps thenS blockS AOp GOps CPick
theorem RefR.keeps {W : World} {err : Option Int} {L : List Int → Bool} {r : Value} {h h' : AHeap} (x : RefR W err L r h) (k : Keeps h h') : RefR W err L r h' := by
  rcases x with x | ⟨he, M, vf, va, vs, h1, h2, h3, h4, h5⟩
  · exact .inl x
  · exact .inr ⟨he, M, vf, va, vs, h1, h2, h3, h4, h5.keeps k⟩
theorem RefR.form {W : World} {err : Option Int} {L : List Int → Bool} {r : Value} {h : AHeap} (x : RefR W err L r h) : ∃ fa n fc aa m ac c, r = .tuple #[.agg #[.slice fa n fc, .slice aa m ac], .int .i64 c] := by
  rcases x with ⟨c, he, rfl⟩ | ⟨he, M, vf, va, vs, rfl, h2, h3, h4, h5⟩
  · exact ⟨_, _, _, _, _, _, _, rfl⟩
  · obtain ⟨fa, n, fc, aa, m, ac, rfl, rfl⟩ := AutoV.slices h5
    exact ⟨_, _, _, _, _, _, _, rfl⟩
theorem RefR.pair {W : World} {err : Option Int} {L L' : List Int → Bool} {h : AHeap} {vf va vf' va' : Value} {c c' : Int} (x : RefR W err L (.tuple #[.agg #[vf, va], .int .i64 c]) h) (y : RefR W err L' (.tuple #[.agg #[vf', va'], .int .i64 c']) h) (hL : err = none → ∀ cs, L cs = L' cs) :
    ∃ M vs vs', c = c' ∧ AutoV W h (.agg #[vf, va]) M vf va vs ∧ AutoV W h (.agg #[vf', va']) M vf' va' vs' ∧ M.fin.length < 1073741824 ∧ M.arcs.length < 1073741824 ∧ ∀ l ∈ M.arcs, l.length < 1073741824 := by
  rcases x with ⟨e, he, hr⟩ | ⟨he, M, f, a, vs, hr, h2, h3, h4, h5⟩
  · rcases y with ⟨e', he', hr'⟩ | ⟨he', _⟩
    · rw [he] at he'
      cases he'
      simp only [Value.tuple.injEq, Array.mk.injEq, List.cons.injEq, Value.agg.injEq, Value.int.injEq, true_and, and_true] at hr hr'
      obtain ⟨⟨rfl, rfl⟩, rfl⟩ := hr
      obtain ⟨⟨rfl, rfl⟩, rfl⟩ := hr'
      exact ⟨_, _, _, rfl, emptyV W h, emptyV W h, by decide, by decide, fun l hl => by simp at hl⟩
    · rw [he] at he'; cases he'
  · rcases y with ⟨e', he', hr'⟩ | ⟨he', M', f', a', vs', hr', g2, g3, g4, g5⟩
    · rw [he] at he'; cases he'
    · have hM : M = M' := canon_unique h2 g2 fun cs => by rw [h3, g3]; exact hL he cs
      subst hM
      simp only [Value.tuple.injEq, Array.mk.injEq, List.cons.injEq, Value.agg.injEq, Value.int.injEq, true_and, and_true] at hr hr'
      obtain ⟨⟨rfl, rfl⟩, rfl⟩ := hr
      obtain ⟨⟨rfl, rfl⟩, rfl⟩ := hr'
      exact ⟨M, vs, vs', rfl, h5, g5, by omega, by rw [h2.len]; omega, fun l hl => by have := h4.2 l hl; omega⟩
theorem MinR.ref {W : World} {h h' : AHeap} {A : Aut} {r : Value} (x : MinR W h A r h') : RefR W (if validate A = 0 then none else some 1) (acc A 0) r h' := by
  rcases x with ⟨hv, rfl⟩ | ⟨hv, M, vf, va, vs, rfl, h1, h2, h3, h4⟩
  · rw [if_neg hv]; exact .inl ⟨1, rfl, rfl⟩
  · rw [if_pos hv]
    obtain ⟨hn, _⟩ := validate_zero hv
    exact .inr ⟨rfl, M, vf, va, vs, rfl, h1, h2, ⟨by omega, fun l hl => by have := h3.2 l hl; omega⟩, h4.auto⟩
set_option maxHeartbeats 8000000 in
theorem f5_ok (W : World) (h : AHeap) (v : Value) (A : Aut) (vf va : Value) (vs : List Value) (hA : AutoV W h v A vf va vs) :
    ACalls Tryz.prog W 5 [v] h (fun r h' => r = .bool true) := by
  have hA' := hA
  obtain ⟨rfl, hf, ha, hl, he⟩ := hA
  obtain ⟨fa, fc, hfs⟩ := hf.len
  obtain ⟨aa, ac, has⟩ := ha.len
  rw [List.length_map] at hfs has
  rw [hl] at has
  subst hfs has
  refine ACalls_ofX hmix c5 (Nat.le_of_ble_eq_true rfl) ?_
  unfold r5
  dsimp only [Rc.t, Rc.u, Rc.v, Rc.o, Rc.i, Rc.p, Rc.q, Rc.s, Rc.b, Rc.k, Rc.g, Rc.S, Rc.D]
  simp only [envOf1]
  obtain ⟨H0, hH0⟩ : ∃ H0, H0 = h.new (.cells [.slice fa A.fin.length fc, .slice aa A.arcs.length ac]) := ⟨_, rfl⟩
  have hk0 : Keeps h H0 := by rw [hH0]; exact (Keeps.refl h).new _
  have hn0 : h.next < H0.next := by rw [hH0, AHeap.new_next]; omega
  have hg0 : H0.own.get h.next = some (.cells [.slice fa A.fin.length fc, .slice aa A.arcs.length ac]) := by rw [hH0, AHeap.new_get, if_pos rfl]
  have hbg : ∀ g, Keeps H0 g → g.own.get h.next = some (.cells [.slice fa A.fin.length fc, .slice aa A.arcs.length ac]) := fun g hg => by rw [hg.same _ hn0]; exact hg0
  have hb1 := aload2 (W := W) (hbg H0 (Keeps.refl _))
  have h15 := largeK W H0 16 A _ _ vs (by omega) (by omega) (hA'.keeps hk0)
  have hk1 : Keeps H0 (H0.new (.cells [.slice fa A.fin.length fc, .slice aa A.arcs.length ac])) := (Keeps.refl _).new _
  rw [hH0] at hb1 h15
  repeat refine zs ?_
  refine ops_callK zv za h15 ?_
  rintro r1 h1 ⟨rfl, hk2⟩
  clear h15 hb1
  have hk01 : Keeps H0 h1 := by rw [hH0] at hk1 ⊢; exact hk1.trans hk2
  clear hk2 hk1
  cases hlg : largeA 16 A with
  | true =>
    repeat refine zs ?_
    refine ⟨.inr rfl, _, rfl, ?_⟩
    simp only [resOf, rop, opd, celsL, oneV, aadd, binV, isSh, intBin, scEq, keq, unV, fillL, oP, oA, oS, wantedA, BX, BL, BS, seval]
  | false =>
  have hb := large_arcsK hlg
  have hb2 := aload2 (W := W) (hbg h1 hk01)
  have h21 := f21_ok W h1 _ A _ _ vs (hA'.keeps (hk0.trans hk01)) (fun l hl => by have := hb l hl; omega)
  repeat refine zs ?_
  refine ops_callK zv za h21 ?_
  rintro r2 h2 ⟨hmr, hk2⟩
  clear h21 hb2
  have hk02 := hk01.trans hk2
  have hX := hmr.ref
  clear hmr
  obtain ⟨fa2, n2, fc2, aa2, m2, ac2, c2, rfl⟩ := hX.form
  obtain ⟨G2, hG2⟩ : ∃ G2, G2 = (h2.new (.cells [.slice none 0 0, .slice none 0 0])).put h2.next (.cells [.slice fa2 n2 fc2, .slice aa2 m2 ac2]) := ⟨_, rfl⟩
  have hkG2 : Keeps h2 G2 := by rw [hG2]; exact ((Keeps.refl h2).new _).put (Nat.le_refl _) _
  have hG2n : h2.next < G2.next := by rw [hG2, AHeap.put_next, AHeap.new_next]; omega
  have hbm0 : G2.own.get h2.next = some (.cells [.slice fa2 n2 fc2, .slice aa2 m2 ac2]) := by rw [hG2, AHeap.put_get, if_pos rfl]
  have hkH2 : Keeps H0 G2 := hk02.trans hkG2
  have hbm1 := aload2 (W := W) (hbg G2 hkH2)
  have h22 := f22_ok W G2 _ A _ _ vs (hA'.keeps (hk0.trans hkH2)) (fun l hl => by have := hb l hl; omega)
  rw [hG2] at h22 hbm1
  repeat refine zs ?_
  refine ops_callK zv za h22 ?_
  rintro r3 h3 ⟨hY, hk3⟩
  rw [← hG2] at hk3
  clear h22 hbm1
  obtain ⟨fa3, n3, fc3, aa3, m3, ac3, c3', rfl⟩ := hY.form
  obtain ⟨G3, hG3⟩ : ∃ G3, G3 = (h3.new (.cells [.slice none 0 0, .slice none 0 0])).put h3.next (.cells [.slice fa3 n3 fc3, .slice aa3 m3 ac3]) := ⟨_, rfl⟩
  have hkG3 : Keeps h3 G3 := by rw [hG3]; exact ((Keeps.refl h3).new _).put (Nat.le_refl _) _
  obtain ⟨M, ms, ms', hcc, hM1, hM2, b1, b2, b3⟩ := RefR.pair (((hX.keeps hkG2).keeps hk3).keeps hkG3) (hY.keeps hkG3) (fun _ _ => rfl)
  have l1 : aloadN W G3 ⟨h2.next, 0, some 0⟩ 2 = some [.slice fa2 n2 fc2, .slice aa2 m2 ac2] := aload2 (by rw [hkG3.same _ (by have := hk3.le; omega), hk3.same _ hG2n]; exact hbm0)
  have l2 : aloadN W G3 ⟨h3.next, 0, some 0⟩ 2 = some [.slice fa3 n3 fc3, .slice aa3 m3 ac3] := aload2 (by rw [hG3, AHeap.put_get, if_pos rfl])
  have h23 := f23_ok W G3 M _ _ _ _ ms ms' hM1 hM2 b1 b2 b3
  rw [hG3] at l1 l2 h23
  subst hcc
  repeat refine zs ?_
  refine ops_callK zv za h23 ?_
  rintro r4 h4 ⟨rfl, hk4⟩
  repeat refine zs ?_
  refine ops_callK zv za (Orc.awake_ok W h4) ?_
  rintro r8 h8 ⟨rfl, rfl⟩
  repeat refine zs ?_
  refine ⟨.inr rfl, _, rfl, ?_⟩
  simp only [resOf, rop, opd, celsL, oneV, aadd, binV, isSh, intBin, scEq, keq, unV, fillL, oP, oA, oS, wantedA, BX, BL, BS, seval]
end Go.Proofs.YtlipmjpapkfaeaaGreatDoor.Fn
end
