/- automaton.plain (F85), reachable (F45) and its closures (F83, F84) in the machine. No condition but sizes.
Merged from 4 texts. -/
import Derived.Test.YtlipmjpapkfaeaaGreatDoorZD27
import Derived.Test.YtlipmjpapkfaeaaGreatDoorZD13
import Derived.Test.YtlipmjpapkfaeaaGreatDoorZD15
import Derived.Test.YtlipmjpapkfaeaaGreatDoorZD11
import Derived.Test.YtlipmjpapkfaeaaGreatDoorZD14
section
set_option linter.unusedSimpArgs false
set_option linter.unusedVariables false
set_option maxRecDepth 100000
namespace Go.Proofs.YtlipmjpapkfaeaaGreatDoor.Fn
open Go Go.Mach Go.RowKit Go.Proofs
attribute [local irreducible] AOps WPX DOps thenS blockS AOp GOps CPick
set_option maxHeartbeats 4000000 in
theorem f85_ok (W : World) (h : AHeap) (v : Value) (l : List Arc3) (hs : Sl W h 3 v (l.map arcV)) (hb : l.length < 1073741824) :
    ACalls Tryz.prog W 85 [v] h (fun r h' => (∃ a c, r = .slice a l.length c ∧ OwnV h.next h' a c 3 (l.map arcV)) ∧ Keeps h h') := by
  obtain ⟨la, lc, hls⟩ := hs.len
  rw [List.length_map] at hls
  subst hls
  refine ACalls_ofX hmix c85 (Nat.le_of_ble_eq_true rfl) ?_
  unfold r85
  dsimp only [Rc.t, Rc.u, Rc.v, Rc.o, Rc.i, Rc.p, Rc.q, Rc.s, Rc.b, Rc.k, Rc.g, Rc.S, Rc.D]
  simp only [envOf1]
  repeat refine zs ?_
  refine WPX.loop hmix (fun k σ => ∃ (j : Nat) (L : List Arc3) (a : Option Addr) (c : Nat), j ≤ l.length ∧ k = l.length - j ∧ eget σ.e 3 = .slice a L.length c ∧ eget σ.e 6 = .slice la l.length lc ∧ eget σ.e 7 = .int .i64 l.length ∧
    eget σ.e 8 = .int .i64 (j : Nat) ∧ Keeps h σ.h ∧ OwnV h.next σ.h a c 3 (L.map arcV) ∧ Hid (L = l.take j)) l.length ?h0 ?round
  case h0 => exact ⟨0, [], none, 0, Nat.zero_le _, rfl, (by simp only [rop, opd, celsL, oneV, aadd, binV, isSh, intBin, scEq, keq, unV, fillL, oP, oA, oS, wantedA, BX, BL, BS, seval, *, List.length_nil]), zv, zv, zv, Keeps.refl h, OwnV.nil _ _ _, rfl⟩
  rintro k ⟨e, hh⟩ ⟨j, L, a, c, hj, rfl, e3, e6, e7, e8, hk, ho, hL⟩
  dsimp only at e3 e6 e7 e8 hk ho
  by_cases hjl : j < l.length
  · have hjlI : (j : Int) < l.length := by omega
    obtain ⟨⟨f, t, s⟩, hx⟩ : ∃ x, l[j]? = some x := ⟨_, List.getElem?_eq_getElem hjl⟩
    have hxj : (l.map arcV)[j]? = some (arcV (f, t, s)) := by simp [hx]
    obtain ⟨b, hb1, _, hb3⟩ := (hs.keeps hk).at hxj
    have hld := aloadN_of _ _ hb3
    simp only [arcV, List.length_cons, List.length_nil, Nat.reduceAdd] at hld
    have hw1 : IntKind.i64.wrap ((j : Int) + 1) = ((j + 1 : Nat) : Int) := wrap_i64 (by omega) (by omega)
    obtain ⟨H1, hH1⟩ : ∃ H1, H1 = (hh.new (.cells [.int .i32 0, .int .i32 0, .int .i64 0])).put hh.next (.cells [.int .i32 f, .int .i32 t, .int .i64 s]) := ⟨_, rfl⟩
    have hkk : Keeps hh H1 := by rw [hH1]; exact ((Keeps.refl hh).new _).put (Nat.le_refl _) _
    have hn1 : H1.next = hh.next + 1 := by rw [hH1]; rfl
    have hk1 : Keeps h H1 := hk.trans hkk
    have hLl : L.length = j := by rw [hL.out]; simp; omega
    obtain ⟨a', c', h3, g1, g2, g3, _⟩ := OwnV.app (W := W) (h0 := h) (h := H1.new (.cells (arcV (f, t, s)))) (b' := hh.next + 1) (e := arcV (f, t, s)) ((ho.keeps hkk).keeps ((Keeps.refl _).new _)) (hk1.new _) (Nat.le_refl _)
      (Nat.le_trans hk1.le (by rw [AHeap.new_next]; omega)) (by rw [AHeap.new_get, hn1, if_pos rfl]) (by rw [AHeap.new_next]; omega) rfl rfl (by simp; omega)
    obtain ⟨L', hLe⟩ : ∃ L', L' = L ++ [(f, t, s)] := ⟨_, rfl⟩
    have e1 : L.map arcV ++ [arcV (f, t, s)] = L'.map arcV := by rw [hLe]; simp
    have hL' : Hid (L' = l.take (j + 1)) := by show _ = _; rw [hLe, hL.out, List.take_add_one, hx]; rfl
    rw [e1] at g1 g2
    rw [List.length_map, List.length_map] at g1
    simp only [arcV] at g1
    rw [hH1] at g1
    clear hb3 hxj hx hLe e1 hH1 hkk hn1 hk1 hLl
    repeat refine zs ?_
    exact ⟨l.length - (j + 1), by omega, j + 1, L', a', c', by omega, rfl, zv, zv, zv, zv, g3, g2, hL'⟩
  · have hjlI : ¬ (j : Int) < l.length := by omega
    have hL2 : L = l := by rw [hL.out, List.take_of_length_le (by omega)]
    rw [hL2] at ho e3
    clear hL2 hL
    repeat refine zs ?_
    refine ⟨.inr rfl, _, rfl, ⟨a, c, ?_, ho⟩, hk⟩
    simp only [resOf, rop, opd, celsL, oneV, aadd, binV, isSh, intBin, scEq, keq, unV, fillL, oP, oA, oS, wantedA, BX, BL, BS, seval, *]
theorem AutoV.slices {W : World} {h : AHeap} {v : Value} {A : Aut} {vf va : Value} {vs : List Value} (hA : AutoV W h v A vf va vs) : ∃ fa n1 fc aa n2 ac, vf = .slice fa n1 fc ∧ va = .slice aa n2 ac := by
  obtain ⟨fa, fc, e1⟩ := hA.f.len
  obtain ⟨aa, ac, e2⟩ := hA.a.len
  exact ⟨fa, _, fc, aa, _, ac, e1, e2⟩
set_option maxHeartbeats 4000000 in
theorem f83_ok (W : World) (h : AHeap) (b : Nat) (A : Aut) (vf va : Value) (vs : List Value) (k : Nat) (hb : h.own.get b = some (.cells [vf, va])) (hA : AutoV W h (.agg #[vf, va]) A vf va vs) (hk : k < A.fin.length) :
    ACalls Tryz.prog W 83 [.int .i64 k, .pointer (some ⟨b, 0, some 0⟩)] h (fun r h' => r = .bool A.fin[k] ∧ Keeps h h') := by
  obtain ⟨_, hf, ha, hl, he⟩ := hA
  obtain ⟨fa, fc, hfs⟩ := hf.len
  rw [List.length_map] at hfs
  subst hfs
  refine ACalls_ofX hmix c83 (Nat.le_of_ble_eq_true rfl) ?_
  unfold r83
  dsimp only [Rc.t, Rc.u, Rc.v, Rc.o, Rc.i, Rc.p, Rc.q, Rc.s, Rc.b, Rc.k, Rc.g, Rc.S, Rc.D]
  simp only [envOf2]
  have hxm : (A.fin.map fun b => [Value.bool b])[k]? = some [.bool A.fin[k]] := by simp [hk]
  obtain ⟨a, ha1, _, ha3⟩ := hf.at hxm
  have hrd := (ha3 0 (.bool A.fin[k]) rfl).1
  have haa : aadd a 0 = a := rfl
  rw [haa] at hrd
  clear ha3 hxm
  repeat refine zs ?_
  refine ⟨.inr rfl, _, rfl, ?_, Keeps.refl h⟩
  simp only [resOf, rop, opd, celsL, oneV, aadd, binV, isSh, intBin, scEq, keq, unV, fillL, oP, oA, oS, wantedA, BX, BL, BS, seval]
set_option maxHeartbeats 4000000 in
theorem f84_ok (W : World) (h : AHeap) (b : Nat) (A : Aut) (vf va : Value) (vs : List Value) (k : Nat) (l : List Arc3) (hb : h.own.get b = some (.cells [vf, va])) (hA : AutoV W h (.agg #[vf, va]) A vf va vs) (hk : A.arcs[k]? = some l) (hbl : l.length < 1073741824) :
    ACalls Tryz.prog W 84 [.int .i64 k, .pointer (some ⟨b, 0, some 0⟩)] h (fun r h' => (∃ a c, r = .slice a l.length c ∧ OwnV h.next h' a c 3 (l.map arcV)) ∧ Keeps h h') := by
  obtain ⟨_, hf, ha, hl, he⟩ := hA
  obtain ⟨aa, ac, has⟩ := ha.len
  rw [List.length_map] at has
  subst has
  refine ACalls_ofX hmix c84 (Nat.le_of_ble_eq_true rfl) ?_
  unfold r84
  dsimp only [Rc.t, Rc.u, Rc.v, Rc.o, Rc.i, Rc.p, Rc.q, Rc.s, Rc.b, Rc.k, Rc.g, Rc.S, Rc.D]
  simp only [envOf2]
  obtain ⟨x, hxs⟩ : ∃ x, vs[k]? = some x := ⟨_, List.getElem?_eq_getElem (show k < vs.length by have := (List.getElem?_eq_some_iff.1 hk).1; omega)⟩
  have hxm : (vs.map fun x => [x])[k]? = some [x] := by simp [hxs]
  obtain ⟨a, ha1, _, ha3⟩ := ha.at hxm
  have hrd := (ha3 0 x rfl).1
  have haa : aadd a 0 = a := rfl
  rw [haa] at hrd
  have h85 := f85_ok W h x l (he k x l hxs hk) hbl
  clear ha3 hxm hl
  repeat refine zs ?_
  refine ops_callK zv za h85 ?_
  rintro r1 h1 ⟨⟨la, lc, rfl, ho⟩, hk1⟩
  repeat refine zs ?_
  refine ⟨.inr rfl, _, rfl, ⟨la, lc, ?_, ho⟩, hk1⟩
  simp only [resOf, rop, opd, celsL, oneV, aadd, binV, isSh, intBin, scEq, keq, unV, fillL, oP, oA, oS, wantedA, BX, BL, BS, seval]
theorem expFold_nodup : ∀ (l : List Arc3) (st : List Int × List Arc3), st.1.Nodup → (l.foldl expEdge st).1.Nodup
  | [], st, h => h
  | e :: l, st, h => expFold_nodup l (expEdge st e) (by
      unfold expEdge
      simp only
      split
      · exact h
      · rename_i hn
        exact List.nodup_append.2 ⟨h, by simp, fun a ha b hb => by simp at hb; subst hb; intro e; subst e; exact hn ha⟩)
theorem rounds_nodup (E : Int → List Arc3) (k0 : Int) : ∀ i, (rounds E k0 i).1.Nodup
  | 0 => by simp [rounds]
  | i + 1 => by
    have ih := rounds_nodup E k0 i
    cases hk : (rounds E k0 i).1[i]? with
    | none =>
      have : rounds E k0 (i + 1) = rounds E k0 i := by conv => lhs; unfold rounds
                                                       rw [hk]
      rw [this]; exact ih
    | some k => rw [rounds_succ hk]; exact expFold_nodup (E k) _ ih
theorem nodup_len {α : Type} [DecidableEq α] : ∀ {l m : List α}, l.Nodup → l ⊆ m → l.length ≤ m.length
  | [], m, _, _ => Nat.zero_le _
  | a :: l, m, h, hs => by
    obtain ⟨h1, h2⟩ := List.nodup_cons.1 h
    have ha : a ∈ m := hs (by simp)
    have := nodup_len (l := l) (m := m.erase a) h2 (fun x hx => (List.mem_erase_of_ne (fun e => by subst e; exact h1 hx)).2 (hs (by simp [hx])))
    rw [List.length_erase_of_mem ha] at this
    have := List.length_pos_of_mem ha
    simp only [List.length_cons]; omega
theorem keys_bound {n : Nat} {ks : List Int} (h : ks.Nodup) (hr : ∀ k ∈ ks, 0 ≤ k ∧ k < n) : ks.length ≤ n := by
  have := nodup_len (l := ks) (m := (List.range n).map fun i : Nat => (i : Int)) h (fun k hk => by
    have := hr k hk
    rw [List.mem_map]
    exact ⟨k.toNat, by rw [List.mem_range]; omega, by omega⟩)
  simpa using this
def edgesA (A : Aut) (k : Int) : List Arc3 := A.arcs.getD k.toNat []
def finA (A : Aut) (k : Int) : Bool := A.fin.getD k.toNat false
def reachA (A : Aut) (n : Nat) : Aut := ⟨(rounds (edgesA A) 0 n).1.map (finA A), (rounds (edgesA A) 0 n).2⟩
theorem edgesA_mem {A : Aut} (hlen : A.arcs.length = A.fin.length) {k : Int} (hk : 0 ≤ k ∧ k < A.fin.length) : A.arcs[k.toNat]? = some (edgesA A k) := by
  unfold edgesA
  have : k.toNat < A.arcs.length := by omega
  simp [this]
set_option maxHeartbeats 4000000 in
theorem f45_ok (W : World) (h : AHeap) (v : Value) (A : Aut) (vf va : Value) (vs : List Value) (hA : AutoV W h v A vf va vs) (hb : ∀ l ∈ A.arcs, l.length < 1048576) (hv : validate A = 0) :
    ACalls Tryz.prog W 45 [v] h (fun r h' => ∃ vf' va' vs' n, (rounds (edgesA A) 0 n).1.length = n ∧ r = .agg #[vf', va'] ∧ FreshA W h.next h' (reachA A n) vf' va' vs' ∧ Keeps h h') := by
  obtain ⟨hn1, hn2, hn3, hn4⟩ := validate_zero hv
  have hA' := hA
  obtain ⟨rfl, hf, ha, hl, he⟩ := hA
  obtain ⟨fa, fc, hfs⟩ := hf.len
  obtain ⟨aa, ac, has⟩ := ha.len
  rw [List.length_map] at hfs has
  rw [hl] at has
  subst hfs has
  refine ACalls_ofX hmix c45 (Nat.le_of_ble_eq_true rfl) ?_
  unfold r45
  dsimp only [Rc.t, Rc.u, Rc.v, Rc.o, Rc.i, Rc.p, Rc.q, Rc.s, Rc.b, Rc.k, Rc.g, Rc.S, Rc.D]
  simp only [envOf1]
  obtain ⟨D, hDef⟩ : ∃ D : Int → Prop, D = fun k : Int => 0 ≤ k ∧ k < (A.fin.length : Int) := ⟨_, rfl⟩
  obtain ⟨H, hH⟩ : ∃ H, H = (h.new (.cells [.slice fa A.fin.length fc, .slice aa A.arcs.length ac])).new (.cells [.slice none 0 0, .slice none 0 0]) := ⟨_, rfl⟩
  have hkH : Keeps h H := by rw [hH]; exact ((Keeps.refl h).new _).new _
  have hHn : H.next = h.next + 2 := by rw [hH]; rfl
  have hgb : H.own.get h.next = some (.cells [.slice fa A.fin.length fc, .slice aa A.arcs.length ac]) := by rw [hH, AHeap.new_get, AHeap.new_next, if_neg (by omega), AHeap.new_get, if_pos rfl]
  have hg2 : H.own.get (h.next + 1) = some (.cells [.slice none 0 0, .slice none 0 0]) := by rw [hH, AHeap.new_get, AHeap.new_next, if_pos rfl]
  have hD0 : D 0 := by rw [hDef]; exact ⟨by omega, by omega⟩
  have hin : ∀ k, D k → A.arcs[k.toNat]? = some (edgesA A k) := fun k hk => by rw [hDef] at hk; exact edgesA_mem hn3 hk
  have hsrt : ∀ k, D k → chkFrom A.fin.length none (edgesA A k) = none := fun k hk => chkAll_each hn4 _ (List.mem_of_getElem? (hin k hk))
  have hDE : ∀ k, D k → ∀ x ∈ edgesA A k, D x.2.2 := fun k hk x hx => by
    have := chkFrom_state (hsrt k hk) x hx
    rw [hDef]; simp [badArc] at this; simp only; omega
  have hEr : ∀ k, D k → InR (edgesA A k) := fun k hk x hx => by
    have := chkFrom_state (hsrt k hk) x hx
    simp [badArc] at this; omega
  have hEl : ∀ k, D k → (edgesA A k).length < 1048576 := fun k hk => hb _ (List.mem_of_getElem? (hin k hk))
  have hlim : ∀ i, ((rounds (edgesA A) 0 i).1.length : Int) ≤ A.fin.length := fun i => by
    have := keys_bound (n := A.fin.length) (rounds_nodup (edgesA A) 0 i) (fun k hk => by
      have := rounds_keys hD0 hDE i k hk
      rw [hDef] at this; exact this)
    omega
  have h82 := f82_ok W H 0 83 84 #[.pointer (some ⟨h.next, 0, some 0⟩)] #[.pointer (some ⟨h.next, 0, some 0⟩)] A.fin.length (finA A) (edgesA A) D hD0 hDE hEr hEl hlim (by omega)
    (fun h' k hk hDk => by
      have hDk' := hDk
      rw [hDef] at hDk'
      have hkk : k.toNat < A.fin.length := by omega
      have := f83_ok W h' h.next A _ _ vs k.toNat (by rw [hk.same _ (by omega)]; exact hgb) (hA'.keeps (hkH.trans hk)) hkk
      rw [Int.toNat_of_nonneg hDk'.1] at this
      have e : finA A k = A.fin[k.toNat] := by simp [finA, hkk]
      rw [e]; exact this)
    (fun h' k hk hDk => by
      have hDk' := hDk
      rw [hDef] at hDk'
      have := f84_ok W h' h.next A _ _ vs k.toNat (edgesA A k) (by rw [hk.same _ (by omega)]; exact hgb) (hA'.keeps (hkH.trans hk)) (hin k hDk) (by have := hEl k hDk; omega)
      rw [Int.toNat_of_nonneg hDk'.1] at this
      exact this)
  rw [hH] at h82
  clear hDef hD0 hDE hEr hEl hlim hsrt hin hn3
  repeat refine zs ?_
  refine ops_callK zv za h82 ?_
  rintro r1 h1 ⟨vf', va', vs', n, hn, rfl, hAV, hk1⟩
  rw [← hH] at hk1
  have hg21 : h1.own.get (h.next + 1) = some (.cells [.slice none 0 0, .slice none 0 0]) := by rw [hk1.same _ (by omega)]; exact hg2
  have hlt1 : h.next + 1 < h1.next := by have := hk1.le; omega
  clear h82 hH hg2 hgb
  obtain ⟨fa', n1, fc', aa', n2, ac', rfl, rfl⟩ := AutoV.slices hAV.auto
  have hld : aloadN W ((h1.new (.cells [.slice none 0 0, .slice none 0 0])).put h1.next (.cells [.slice fa' n1 fc', .slice aa' n2 ac'])) ⟨h1.next, 0, some 0⟩ 2 = some [.slice fa' n1 fc', .slice aa' n2 ac'] := aload2 (by rw [AHeap.put_get, if_pos rfl])
  have hne : ¬ h.next + 1 = h1.next := by omega
  have hkf : Keeps h (((h1.new (.cells [.slice none 0 0, .slice none 0 0])).put h1.next (.cells [.slice fa' n1 fc', .slice aa' n2 ac'])).put (h.next + 1) (.cells [.slice fa' n1 fc', .slice aa' n2 ac'])) := (((hkH.trans hk1).new _).put (by omega) _).put (by omega) _
  have hkv : Keeps h1 ((h1.new (.cells [.slice none 0 0, .slice none 0 0])).put h1.next (.cells [.slice fa' n1 fc', .slice aa' n2 ac'])) := ((Keeps.refl h1).new _).put (Nat.le_refl _) _
  have hAF : FreshA W h.next (((h1.new (.cells [.slice none 0 0, .slice none 0 0])).put h1.next (.cells [.slice fa' n1 fc', .slice aa' n2 ac'])).put (h.next + 1) (.cells [.slice fa' n1 fc', .slice aa' n2 ac'])) (reachA A n) (.slice fa' n1 fc') (.slice aa' n2 ac') vs' := by
    rw [AHeap.new_next, AHeap.new_next] at hAV
    exact ((hAV.keeps hkv).put (by omega) _).base (by omega)
  have hrs : aloadN W (((h1.new (.cells [.slice none 0 0, .slice none 0 0])).put h1.next (.cells [.slice fa' n1 fc', .slice aa' n2 ac'])).put (h.next + 1) (.cells [.slice fa' n1 fc', .slice aa' n2 ac'])) ⟨h.next + 1, 0, some 0⟩ 2 = some [.slice fa' n1 fc', .slice aa' n2 ac'] := aload2 (by rw [AHeap.put_get, if_pos rfl])
  repeat refine zs ?_
  refine ⟨.inr rfl, [.agg #[.slice fa' n1 fc', .slice aa' n2 ac']], ?_, .slice fa' n1 fc', .slice aa' n2 ac', vs', n, hn, rfl, hAF, hkf⟩
  simp only [resVals, rop, opd, celsL, oneV, aadd, binV, isSh, intBin, scEq, keq, unV, fillL, oP, oA, oS, wantedA, BX, BL, BS, seval, *]
end Go.Proofs.YtlipmjpapkfaeaaGreatDoor.Fn
end
section
set_option linter.unusedSimpArgs false
set_option linter.unusedVariables false
set_option maxRecDepth 100000
namespace Go.Proofs.YtlipmjpapkfaeaaGreatDoor.Fn
open Go Go.Mach Go.RowKit Go.Proofs
attribute [local irreducible] AOps WPX DOps thenS blockS AOp GOps CPick
def bytesN (n : Nat) : List UInt8 := [UInt8.ofNat (n / 16777216), UInt8.ofNat (n / 65536), UInt8.ofNat (n / 256), UInt8.ofNat n]
theorem wrap_u8 (x : Nat) : IntKind.u8.wrap (x : Int) = ((x % 256 : Nat) : Int) := by
  have e1 : ((2 : Int) ^ IntKind.u8.bits) = 256 := by decide
  simp only [IntKind.wrap, e1, IntKind.signed, Bool.false_and, Bool.false_eq_true, if_false]
  omega
theorem shr_of {n d : Nat} {k : Int} (hk : 0 ≤ k) (hd : (2 : Int) ^ (min k.toNat IntKind.i64.bits) = (d : Int)) : intSh .shr .i64 (n : Int) k = some (.int .i64 ((n / d : Nat) : Int)) := by
  unfold intSh
  simp only [show ¬ k < 0 by omega, decide_false, cond_false, hd]
  rw [Int.fdiv_eq_ediv_of_nonneg _ (by omega)]
  rfl
set_option maxHeartbeats 4000000 in
theorem f113_ok (W : World) (h : AHeap) (n : Nat) : ACalls Tryz.prog W 113 [.int .i64 n] h (fun r h' => ∃ b, r = .slice (some ⟨b, 0, some 0⟩) 4 1 ∧ h.next ≤ b ∧ Ow h' b 1 ((bytesN n).map byteV) ∧ Keeps h h') := by
  refine ACalls_ofX hmix c113 (Nat.le_of_ble_eq_true rfl) ?_
  unfold r113
  dsimp only [Rc.t, Rc.u, Rc.v, Rc.o, Rc.i, Rc.p, Rc.q, Rc.s, Rc.b, Rc.k, Rc.g, Rc.S, Rc.D]
  simp only [envOf1]
  have h24 : intSh .shr .i64 (n : Int) 24 = some (.int .i64 ((n / 16777216 : Nat) : Int)) := shr_of (by omega) (by decide)
  have h16 : intSh .shr .i64 (n : Int) 16 = some (.int .i64 ((n / 65536 : Nat) : Int)) := shr_of (by omega) (by decide)
  have h8 : intSh .shr .i64 (n : Int) 8 = some (.int .i64 ((n / 256 : Nat) : Int)) := shr_of (by omega) (by decide)
  have w24 := wrap_u8 (n / 16777216)
  have w16 := wrap_u8 (n / 65536)
  have w8 := wrap_u8 (n / 256)
  have w0 := wrap_u8 n
  have ho : Ow (h.new (.cells [.int .u8 ((n / 16777216 % 256 : Nat) : Int), .int .u8 ((n / 65536 % 256 : Nat) : Int), .int .u8 ((n / 256 % 256 : Nat) : Int), .int .u8 ((n % 256 : Nat) : Int)])) h.next 1 ((bytesN n).map byteV) :=
    ⟨by rw [AHeap.new_get, if_pos rfl]; simp [bytesN, byteV], fun e he => by obtain ⟨b, _, rfl⟩ := List.mem_map.1 he; rfl, by rw [AHeap.new_next]; omega⟩
  have hk : Keeps h (h.new (.cells [.int .u8 ((n / 16777216 % 256 : Nat) : Int), .int .u8 ((n / 65536 % 256 : Nat) : Int), .int .u8 ((n / 256 % 256 : Nat) : Int), .int .u8 ((n % 256 : Nat) : Int)])) := (Keeps.refl h).new _
  repeat refine zs ?_
  refine ⟨.inr rfl, _, rfl, h.next, ?_, Nat.le_refl _, ho, hk⟩
  simp only [resOf, rop, opd, celsL, oneV, aadd, binV, isSh, intBin, scEq, keq, unV, fillL, oP, oA, oS, wantedA, BX, BL, BS, seval]
theorem bytesN_inj {n m : Nat} (hn : n < 4294967296) (hm : m < 4294967296) (h : bytesN n = bytesN m) : n = m := by
  simp only [bytesN, List.cons.injEq, and_true] at h
  obtain ⟨h1, h2, h3, h4⟩ := h
  have e : ∀ a b : Nat, UInt8.ofNat a = UInt8.ofNat b → a % 256 = b % 256 := fun a b hab => by
    have := congrArg UInt8.toNat hab
    simpa using this
  have := e _ _ h1; have := e _ _ h2; have := e _ _ h3; have := e _ _ h4
  omega
end Go.Proofs.YtlipmjpapkfaeaaGreatDoor.Fn
end
section
set_option linter.unusedSimpArgs false
set_option linter.unusedVariables false
namespace Go.Proofs.YtlipmjpapkfaeaaGreatDoor.Fn
open Go Go.Mach Go.RowKit Go.Proofs Go.Proofs.YtlipmjpapkfaeaaGreatDoor.Orc
theorem findA_append (l r : List Arc3) (c : Int) : findA (l ++ r) c = (findA l c).or (findA r c) := by
  unfold findA
  rw [List.find?_append]
  cases l.find? (hitA c) <;> simp
theorem findA_one (x : Arc3) (c : Int) : findA [x] c = if x.1 ≤ c ∧ c ≤ x.2.1 then some x.2.2 else none := by
  rw [findA_cons]
  by_cases h : x.1 ≤ c ∧ c ≤ x.2.1
  · rw [if_pos h, if_pos ((hitA_iff c x).2 h)]
  · rw [if_neg h, if_neg (fun hh => h ((hitA_iff c x).1 hh))]; rfl
theorem findA_high {l : List Arc3} {c : Int} (h : ∀ y ∈ l, y.2.1 < c) : findA l c = none := by
  unfold findA
  rw [List.find?_eq_none.2]
  · rfl
  · intro y hy hh
    have := h y hy
    rw [hitA_iff] at hh; omega
theorem srt_last {l : List Arc3} : ∀ {p : Option Arc3} {f t s : Int}, Srt p (l ++ [(f, t, s)]) → f ≤ t ∧ ∀ y ∈ l, y.2.1 < f := by
  induction l with
  | nil => intro p f t s h; exact ⟨h.1, fun y hy => by simp at hy⟩
  | cons z l ih =>
    intro p f t s h
    obtain ⟨h1, h2⟩ := ih h.2.2
    refine ⟨h1, fun y hy => ?_⟩
    rcases List.mem_cons.1 hy with rfl | hy
    · cases l with
      | nil => exact (h.2.2.2.1 _ rfl).1
      | cons w l =>
        have a := (h.2.2.2.1 _ rfl).1
        have b := h2 w (by simp)
        have c := h.2.2.1
        have a : y.2.1 < w.1 := a
        have c : w.1 ≤ w.2.1 := c
        omega
    · exact h2 y hy
theorem srt_longer {l : List Arc3} : ∀ {p : Option Arc3} {f t t' s : Int}, Srt p (l ++ [(f, t, s)]) → t ≤ t' → Srt p (l ++ [(f, t', s)]) := by
  induction l with
  | nil =>
    intro p f t t' s h ht
    refine ⟨?_, h.2.1, trivial⟩
    have := h.1; simp only at this ⊢; omega
  | cons z l ih => intro p f t t' s h ht; exact ⟨h.1, h.2.1, ih h.2.2 ht⟩
theorem srt_snoc {l : List Arc3} {x : Arc3} (hx : x.1 ≤ x.2.1) : ∀ {p : Option Arc3} {y : Arc3}, Srt p (l ++ [y]) → y.2.1 < x.1 → ¬ (x.1 = y.2.1 + 1 ∧ x.2.2 = y.2.2) → Srt p ((l ++ [y]) ++ [x]) := by
  induction l with
  | nil => intro p y h h1 h2; exact ⟨h.1, h.2.1, hx, fun q hq => by cases hq; exact ⟨h1, h2⟩, trivial⟩
  | cons z l ih => intro p y h h1 h2; exact ⟨h.1, h.2.1, ih h.2.2 h1 h2⟩
def Good (l : List Arc3) (b : Int) : Prop := Srt none l ∧ ∀ y ∈ l, y.2.1 ≤ b
theorem Good.mono {l : List Arc3} {b b' : Int} (h : Good l b) (hb : b ≤ b') : Good l b' := ⟨h.1, fun y hy => by have := h.2 y hy; omega⟩
theorem Good.add {l : List Arc3} {b : Int} {x : Arc3} (h : Good l b) (hb : b < x.1) (hx : x.1 ≤ x.2.1) : Good (addArc l x) x.2.1 ∧ ∀ c, findA (addArc l x) c = if x.1 ≤ c ∧ c ≤ x.2.1 then some x.2.2 else findA l c := by
  rcases last_or l with rfl | ⟨l0, f, t, s, rfl⟩
  · rw [addArc_nil]
    refine ⟨⟨⟨hx, fun q hq => (by cases hq), trivial⟩, fun y hy => by simp at hy; subst hy; exact Int.le_refl _⟩, fun c => ?_⟩
    rw [findA_one]; rfl
  · have ht := h.2 (f, t, s) (by simp)
    obtain ⟨hft, hl0⟩ := srt_last h.1
    simp only at ht
    by_cases hj : t + 1 = x.1 ∧ s = x.2.2
    · rw [addArc_join hj.1 hj.2]
      refine ⟨⟨srt_longer h.1 (by omega), fun y hy => ?_⟩, fun c => ?_⟩
      · rcases List.mem_append.1 hy with hy | hy
        · have := hl0 y hy; omega
        · simp at hy; subst hy; exact Int.le_refl _
      · rw [findA_append, findA_append, findA_one, findA_one]
        simp only
        by_cases hc : f ≤ c
        · rw [findA_high (l := l0) (fun y hy => by have := hl0 y hy; omega)]
          simp only [Option.none_or]
          by_cases h1 : x.1 ≤ c ∧ c ≤ x.2.1
          · rw [if_pos h1, if_pos (by omega), hj.2]
          · rw [if_neg h1]
            by_cases h2 : c ≤ t
            · rw [if_pos (by omega), if_pos (by omega)]
            · rw [if_neg (by omega), if_neg (by omega)]
        · rw [if_neg (by omega), if_neg (by omega), if_neg (by omega)]
    · rw [addArc_new hj]
      refine ⟨⟨srt_snoc hx h.1 (by simp only; omega) (by simp only; intro hh; exact hj ⟨by omega, hh.2.symm⟩), fun y hy => ?_⟩, fun c => ?_⟩
      · rcases List.mem_append.1 hy with hy | hy
        · have := h.2 y hy; omega
        · simp at hy; subst hy; exact Int.le_refl _
      · rw [findA_append, findA_one]
        by_cases h1 : x.1 ≤ c ∧ c ≤ x.2.1
        · rw [if_pos h1, if_pos h1, findA_high (l := l0 ++ [(f, t, s)]) (fun y hy => by have := h.2 y hy; omega)]; rfl
        · rw [if_neg h1, if_neg h1]; cases findA (l0 ++ [(f, t, s)]) c <;> rfl
def clsAt (cls : List Int) (o : Option Int) : Option Int := match o with
  | some t => if cls.getD t.toNat (-1) < 0 then none else some (cls.getD t.toNat (-1))
  | none => none
theorem byClass_good (cls : List Int) : ∀ (l out : List Arc3) (p : Option Arc3) (b : Int), Srt p l → (∀ q, p = some q → q.2.1 = b) → (p = none → ∀ x ∈ l, b < x.1) → Good out b →
    ∃ b', Good (l.foldl (stepC cls) out) b' ∧ ∀ c, findA (l.foldl (stepC cls) out) c = match findA l c with
      | some t => clsAt cls (some t)
      | none => findA out c
  | [], out, p, b, _, _, _, h => ⟨b, h, fun c => rfl⟩
  | x :: l, out, p, b, hs, hp, hp0, h => by
    have hbx : b < x.1 := by
      cases p with
      | none => exact hp0 rfl x (by simp)
      | some q => have := (hs.2.1 q rfl).1; have := hp q rfl; omega
    have hlow : ∀ c, c ≤ x.2.1 → findA l c = none := fun c hc => findA_low hs.2.2 hc
    unfold stepC
    simp only [List.foldl_cons]
    by_cases hq : clsOf cls x < 0
    · rw [show (if clsOf cls x < 0 then out else addArc out (x.1, x.2.1, clsOf cls x)) = out from if_pos hq]
      obtain ⟨b', g1, g2⟩ := byClass_good cls l out (some x) x.2.1 hs.2.2 (fun q hq => by cases hq; rfl) (fun hh => by cases hh) (h.mono (by have := hs.1; omega))
      refine ⟨b', g1, fun c => ?_⟩
      rw [show l.foldl (stepC cls) out = l.foldl (fun out x => if clsOf cls x < 0 then out else addArc out (x.1, x.2.1, clsOf cls x)) out from rfl] at g2
      rw [g2 c, findA_cons]
      by_cases hh : hitA c x = true
      · rw [if_pos hh, hlow c ((hitA_iff c x).1 hh).2]
        have hhi : findA out c = none := findA_high (fun y hy => by have := h.2 y hy; have := ((hitA_iff c x).1 hh).1; omega)
        simp only [hhi, clsAt]
        rw [if_pos (show cls.getD x.2.2.toNat (-1) < 0 from hq)]
      · rw [if_neg hh]
    · rw [show (if clsOf cls x < 0 then out else addArc out (x.1, x.2.1, clsOf cls x)) = addArc out (x.1, x.2.1, clsOf cls x) from if_neg hq]
      obtain ⟨a1, a2⟩ := h.add (x := (x.1, x.2.1, clsOf cls x)) hbx hs.1
      obtain ⟨b', g1, g2⟩ := byClass_good cls l (addArc out (x.1, x.2.1, clsOf cls x)) (some x) x.2.1 hs.2.2 (fun q hq => by cases hq; rfl) (fun hh => by cases hh) a1
      refine ⟨b', g1, fun c => ?_⟩
      rw [show l.foldl (stepC cls) (addArc out (x.1, x.2.1, clsOf cls x)) = l.foldl (fun out x => if clsOf cls x < 0 then out else addArc out (x.1, x.2.1, clsOf cls x)) (addArc out (x.1, x.2.1, clsOf cls x)) from rfl] at g2
      rw [g2 c, findA_cons, a2 c]
      simp only
      by_cases hh : hitA c x = true
      · have hh' := (hitA_iff c x).1 hh
        rw [if_pos hh, hlow c hh'.2]
        simp only [clsAt]
        rw [if_pos hh', show cls.getD x.2.2.toNat (-1) = clsOf cls x from rfl, if_neg hq]
      · rw [if_neg hh, if_neg (fun h' => hh ((hitA_iff c x).2 h'))]
theorem byClass_find (cls : List Int) {l : List Arc3} (h : Srt none l) (hr : InR l) : Srt none (byClassM cls l) ∧ ∀ c, findA (byClassM cls l) c = clsAt cls (findA l c) := by
  obtain ⟨b', g1, g2⟩ := byClass_good cls l [] none (-1) h (fun q hq => by cases hq) (fun _ x hx => by have := hr x hx; omega) ⟨trivial, fun y hy => by simp at hy⟩
  refine ⟨g1.1, fun c => ?_⟩
  unfold byClassM
  rw [g2 c]
  cases findA l c <;> rfl
theorem shape_eq : ∀ {l l' : List Arc3}, Shape (fun a b => a = b) l l' → l = l'
  | [], [], .nil => rfl
  | _ :: _, _ :: _, .cons h hs => by rw [h, shape_eq hs]
theorem srt_unique {l l' : List Arc3} (h : Srt none l) (h' : Srt none l') (he : ∀ c, findA l c = findA l' c) : l = l' :=
  shape_eq (shape_of ⟨fun a b b' h1 h2 => h1.symm.trans h2, fun a a' b h1 h2 => h1.trans h2.symm⟩ l l' h h' fun c => by
    rw [he c]; cases findA l' c <;> simp [Rel2])
end Go.Proofs.YtlipmjpapkfaeaaGreatDoor.Fn
end
section
set_option linter.unusedSimpArgs false
set_option linter.unusedVariables false
namespace Go.Proofs.YtlipmjpapkfaeaaGreatDoor.Fn
open Go Go.Mach Go.RowKit Go.Proofs Go.Proofs.YtlipmjpapkfaeaaGreatDoor.Orc
def encE (e : Arc3) : List UInt8 := bytesN e.1.toNat ++ (bytesN e.2.1.toNat ++ bytesN e.2.2.toNat)
def Small (l : List Arc3) : Prop := ∀ e ∈ l, (0 ≤ e.1 ∧ e.1 < 4294967296) ∧ (0 ≤ e.2.1 ∧ e.2.1 < 4294967296) ∧ (0 ≤ e.2.2 ∧ e.2.2 < 4294967296)
theorem bytesN_len (n : Nat) : (bytesN n).length = 4 := rfl
theorem encE_inj {a b : Arc3} (ha : (0 ≤ a.1 ∧ a.1 < 4294967296) ∧ (0 ≤ a.2.1 ∧ a.2.1 < 4294967296) ∧ (0 ≤ a.2.2 ∧ a.2.2 < 4294967296)) (hb : (0 ≤ b.1 ∧ b.1 < 4294967296) ∧ (0 ≤ b.2.1 ∧ b.2.1 < 4294967296) ∧ (0 ≤ b.2.2 ∧ b.2.2 < 4294967296)) (h : encE a = encE b) : a = b := by
  obtain ⟨h1, h2⟩ := List.append_inj h (by rw [bytesN_len, bytesN_len])
  obtain ⟨h3, h4⟩ := List.append_inj h2 (by rw [bytesN_len, bytesN_len])
  have e1 := bytesN_inj (by omega) (by omega) h1
  have e2 := bytesN_inj (by omega) (by omega) h3
  have e3 := bytesN_inj (by omega) (by omega) h4
  obtain ⟨a1, a2, a3⟩ := a
  obtain ⟨b1, b2, b3⟩ := b
  simp only at e1 e2 e3 ha hb
  rw [show a1 = b1 by omega, show a2 = b2 by omega, show a3 = b3 by omega]
theorem flat_inj : ∀ {l m : List Arc3}, Small l → Small m → l.flatMap encE = m.flatMap encE → l = m
  | [], [], _, _, _ => rfl
  | [], b :: m, _, _, h => by have := congrArg List.length h; simp [encE, bytesN_len] at this; omega
  | a :: l, [], _, _, h => by have := congrArg List.length h; simp [encE, bytesN_len] at this
  | a :: l, b :: m, hl, hm, h => by
    rw [List.flatMap_cons, List.flatMap_cons] at h
    obtain ⟨h1, h2⟩ := List.append_inj h (by simp [encE, bytesN_len])
    rw [encE_inj (hl a (by simp)) (hm b (by simp)) h1, flat_inj (fun e he => hl e (by simp [he])) (fun e he => hm e (by simp [he])) h2]
def edgC (A : Aut) (cl : List Int) (q : Nat) : List Arc3 := byClassM cl (A.arcs.getD q [])
def sgn (A : Aut) (cl : List Int) (q : Nat) : List UInt8 := bytesN (cl.getD q (-1)).toNat ++ (edgC A cl q).flatMap encE
def clsStepQ (A : Aut) (cl : List Int) (st : List (List UInt8) × List Int) (q : Nat) : List (List UInt8) × List Int :=
  if cl.getD q (-1) < 0 then (st.1, st.2 ++ [-1]) else (if sgn A cl q ∈ st.1 then st.1 else st.1 ++ [sgn A cl q], st.2 ++ [(ixOf st.1 (sgn A cl q) : Int)])
def clsAfter (A : Aut) (cl : List Int) (j : Nat) : List (List UInt8) × List Int := (List.range j).foldl (clsStepQ A cl) ([], [])
theorem clsAfter_succ (A : Aut) (cl : List Int) (j : Nat) : clsAfter A cl (j + 1) = clsStepQ A cl (clsAfter A cl j) j := by
  unfold clsAfter
  rw [List.range_succ, List.foldl_append]; rfl
structure After (A : Aut) (cl : List Int) (j : Nat) (ss : List (List UInt8)) (nx : List Int) : Prop where
  len : nx.length = j
  nd : ss.Nodup
  from_ : ∀ s ∈ ss, ∃ q, q < j ∧ 0 ≤ cl.getD q (-1) ∧ s = sgn A cl q
  neg : ∀ q, q < j → cl.getD q (-1) < 0 → nx[q]? = some (-1)
  pos : ∀ q, q < j → 0 ≤ cl.getD q (-1) → sgn A cl q ∈ ss ∧ nx[q]? = some ((ixOf ss (sgn A cl q) : Nat) : Int)
  sz : ss.length ≤ j
theorem after_spec (A : Aut) (cl : List Int) : ∀ j, After A cl j (clsAfter A cl j).1 (clsAfter A cl j).2
  | 0 => ⟨rfl, by simp [clsAfter], fun s hs => by simp [clsAfter] at hs, fun q hq => by omega, fun q hq => by omega, by simp [clsAfter]⟩
  | j + 1 => by
    have ih := after_spec A cl j
    obtain ⟨⟨ss, nx⟩, hst⟩ : ∃ p, clsAfter A cl j = p := ⟨_, rfl⟩
    rw [hst] at ih
    rw [clsAfter_succ, hst]
    simp only at ih
    unfold clsStepQ
    by_cases hk : cl.getD j (-1) < 0
    · rw [if_pos hk]
      refine ⟨by simp [ih.len], ih.nd, fun s hs => ?_, fun q hq hn => ?_, fun q hq hp => ?_, by have := ih.sz; simp only; omega⟩
      · obtain ⟨q, h1, h2, h3⟩ := ih.from_ s hs; exact ⟨q, by omega, h2, h3⟩
      · by_cases hqj : q < j
        · simp only; rw [List.getElem?_append_left (by rw [ih.len]; exact hqj)]; exact ih.neg q hqj hn
        · obtain rfl : q = j := by omega
          simp only; rw [List.getElem?_append_right (by rw [ih.len]; omega), ih.len]; simp
      · by_cases hqj : q < j
        · simp only; rw [List.getElem?_append_left (by rw [ih.len]; exact hqj)]; exact ih.pos q hqj hp
        · obtain rfl : q = j := by omega
          omega
    · rw [if_neg hk]
      have hmem : ∀ s, s ∈ ss → s ∈ (if sgn A cl j ∈ ss then ss else ss ++ [sgn A cl j]) ∧ ixOf (if sgn A cl j ∈ ss then ss else ss ++ [sgn A cl j]) s = ixOf ss s := fun s hs => by
        split
        · exact ⟨hs, rfl⟩
        · exact ⟨List.mem_append_left _ hs, ixOf_app hs⟩
      have hself : sgn A cl j ∈ (if sgn A cl j ∈ ss then ss else ss ++ [sgn A cl j]) ∧ ixOf (if sgn A cl j ∈ ss then ss else ss ++ [sgn A cl j]) (sgn A cl j) = ixOf ss (sgn A cl j) := by
        split
        · rename_i h; exact ⟨h, rfl⟩
        · rename_i h
          refine ⟨by simp, ?_⟩
          rw [ixOf_out h, ixOf_snoc h]
      refine ⟨by simp [ih.len], ?_, fun s hs => ?_, fun q hq hn => ?_, fun q hq hp => ?_, ?_⟩
      · simp only
        split
        · exact ih.nd
        · rename_i h
          exact List.nodup_append.2 ⟨ih.nd, by simp, fun a ha b hb => by simp at hb; subst hb; intro e; subst e; exact h ha⟩
      · simp only at hs
        have : s ∈ ss ∨ s = sgn A cl j := by
          split at hs
          · exact .inl hs
          · rcases List.mem_append.1 hs with hs | hs
            · exact .inl hs
            · simp at hs; exact .inr hs
        rcases this with hs | rfl
        · obtain ⟨q, h1, h2, h3⟩ := ih.from_ s hs; exact ⟨q, by omega, h2, h3⟩
        · exact ⟨j, by omega, by omega, rfl⟩
      · by_cases hqj : q < j
        · simp only; rw [List.getElem?_append_left (by rw [ih.len]; exact hqj)]; exact ih.neg q hqj hn
        · obtain rfl : q = j := by omega
          exact absurd hn hk
      · by_cases hqj : q < j
        · obtain ⟨h1, h2⟩ := ih.pos q hqj hp
          obtain ⟨h3, h4⟩ := hmem _ h1
          simp only
          rw [List.getElem?_append_left (by rw [ih.len]; exact hqj), h4]
          exact ⟨h3, h2⟩
        · obtain rfl : q = j := by omega
          simp only
          rw [List.getElem?_append_right (by rw [ih.len]; omega), ih.len, hself.2]
          exact ⟨hself.1, by simp⟩
      · have := ih.sz
        simp only
        split
        · omega
        · simp; omega
structure RI (A : Aut) (cl : List Int) (cnt : Nat) : Prop where
  len : cl.length = A.fin.length
  dead : ∀ q : Nat, q < A.fin.length → (cl.getD q (-1) < 0 ↔ ¬ Live A q)
  small : ∀ q : Nat, q < A.fin.length → cl.getD q (-1) < 4294967296
  lang : ∀ q q' : Nat, q < A.fin.length → q' < A.fin.length → Live A q → (∀ cs, acc A q cs = acc A q' cs) → cl.getD q (-1) = cl.getD q' (-1)
  fin : ∀ q q' : Nat, q < A.fin.length → q' < A.fin.length → Live A q → cl.getD q (-1) = cl.getD q' (-1) → A.fin.getD q false = A.fin.getD q' false
  cnt0 : cnt = 0 ∨ ∀ q : Nat, q < A.fin.length → Live A q → cl.getD q (-1) < cnt
  cnt1 : ∀ k : Nat, k < cnt → ∃ q : Nat, q < A.fin.length ∧ Live A q ∧ cl.getD q (-1) = k
theorem getD_arcs {A : Aut} (w : Wf A) {q : Nat} (hq : q < A.fin.length) : A.arcs[q]? = some (A.arcs.getD q []) := by
  have : q < A.arcs.length := by rw [w.len]; exact hq
  simp [this]
theorem arcs_in {A : Aut} (w : Wf A) {q : Nat} (hq : q < A.fin.length) : Srt none (A.arcs.getD q []) ∧ InR (A.arcs.getD q []) := by
  have hm := List.mem_of_getElem? (getD_arcs w hq)
  exact ⟨srt_of (fun q hq => by cases hq) (w.srt _ hm), fun x hx => (w.range hm hx).1⟩
theorem edgC_find {A : Aut} (w : Wf A) (cl : List Int) {q : Nat} (hq : q < A.fin.length) : Srt none (edgC A cl q) ∧ ∀ c, findA (edgC A cl q) c = clsAt cl (findA (A.arcs.getD q []) c) :=
  byClass_find cl (arcs_in w hq).1 (arcs_in w hq).2
theorem addArc_mem {l : List Arc3} {x y : Arc3} (h : y ∈ addArc l x) : (∃ z ∈ l, y.2.2 = z.2.2) ∨ y.2.2 = x.2.2 := by
  rcases last_or l with rfl | ⟨l0, f, t, s, rfl⟩
  · rw [addArc_nil] at h; simp at h; subst h; exact .inr rfl
  · by_cases hj : t + 1 = x.1 ∧ s = x.2.2
    · rw [addArc_join hj.1 hj.2] at h
      rcases List.mem_append.1 h with h | h
      · exact .inl ⟨y, by simp [h], rfl⟩
      · simp at h; subst h; exact .inr hj.2
    · rw [addArc_new hj] at h
      rcases List.mem_append.1 h with h | h
      · exact .inl ⟨y, h, rfl⟩
      · simp at h; subst h; exact .inr rfl
theorem byClass_keys (cls : List Int) (l : List Arc3) : ∀ y ∈ byClassM cls l, 0 ≤ y.2.2 ∧ ∃ x ∈ l, y.2.2 = clsOf cls x := by
  unfold byClassM
  have : ∀ (l out : List Arc3) (P : Int → Prop), (∀ y ∈ out, P y.2.2) → (∀ x ∈ l, ¬ clsOf cls x < 0 → P (clsOf cls x)) → ∀ y ∈ l.foldl (stepC cls) out, P y.2.2 := by
    intro l
    induction l with
    | nil => intro out P h _; exact h
    | cons x l ih =>
      intro out P h hl
      refine ih _ P (fun y hy => ?_) (fun z hz => hl z (by simp [hz]))
      unfold stepC at hy
      by_cases hc : clsOf cls x < 0
      · rw [if_pos hc] at hy; exact h y hy
      · rw [if_neg hc] at hy
        rcases addArc_mem hy with ⟨z, hz, e⟩ | e
        · rw [e]; exact h z hz
        · rw [e]; exact hl x (by simp) hc
  exact this l [] (fun k => 0 ≤ k ∧ ∃ x ∈ l, k = clsOf cls x) (fun y hy => by simp at hy) (fun x hx hc => ⟨by omega, x, hx, rfl⟩)
theorem edgC_small {A : Aut} (w : Wf A) {cl : List Int} {cnt : Nat} (R : RI A cl cnt) {q : Nat} (hq : q < A.fin.length) : Small (edgC A cl q) := by
  intro e he
  have hr := byClassM_in (cls := cl) (arcs_in w hq).2 e he
  obtain ⟨h0, x, hx, hk⟩ := byClass_keys cl _ e he
  have hxr := (w.range (List.mem_of_getElem? (getD_arcs w hq)) hx).2
  have := R.small x.2.2.toNat (by omega)
  refine ⟨by omega, by omega, h0, ?_⟩
  rw [hk]; exact this
theorem sgn_eq {A : Aut} (w : Wf A) {cl : List Int} {cnt : Nat} (R : RI A cl cnt) {q q' : Nat} (hq : q < A.fin.length) (hq' : q' < A.fin.length) (hl : Live A q) (hl' : Live A q') (h : sgn A cl q = sgn A cl q') :
    cl.getD q (-1) = cl.getD q' (-1) ∧ edgC A cl q = edgC A cl q' := by
  have p := fun q hq hl => (not_congr (R.dead q hq)).2 (fun h : ¬ Live A q => h hl)
  have h1 := p q hq hl
  have h2 := p q' hq' hl'
  have h3 := R.small q hq
  have h4 := R.small q' hq'
  obtain ⟨e1, e2⟩ := List.append_inj h (by rw [bytesN_len, bytesN_len])
  have e3 := bytesN_inj (by omega) (by omega) e1
  exact ⟨by omega, flat_inj (edgC_small w R hq) (edgC_small w R hq') e2⟩
theorem acc_step {A : Aut} (w : Wf A) {q : Nat} (hq : q < A.fin.length) (c : Int) (cs : List Int) : acc A q (c :: cs) = match findA (A.arcs.getD q []) c with
    | some t => acc A t cs
    | none => false := by
  rw [acc_cons, nextQ_arcs (getD_arcs w hq)]
  cases findA (A.arcs.getD q []) c with
  | none => exact acc_dead A cs (by decide)
  | some t => rfl
theorem target_in {A : Aut} (w : Wf A) {q : Nat} (hq : q < A.fin.length) {c t : Int} (h : findA (A.arcs.getD q []) c = some t) : 0 ≤ t ∧ t < A.fin.length := by
  obtain ⟨x, hx, rfl⟩ := findA_mem h
  exact (w.range (List.mem_of_getElem? (getD_arcs w hq)) hx).2
theorem edgC_lang {A : Aut} (w : Wf A) {cl : List Int} {cnt : Nat} (R : RI A cl cnt) {q q' : Nat} (hq : q < A.fin.length) (hq' : q' < A.fin.length) (h : ∀ cs, acc A q cs = acc A q' cs) : edgC A cl q = edgC A cl q' := by
  obtain ⟨s1, f1⟩ := edgC_find w cl hq
  obtain ⟨s2, f2⟩ := edgC_find w cl hq'
  refine srt_unique s1 s2 fun c => ?_
  rw [f1, f2]
  have hc : ∀ cs, _ := fun cs => (acc_step w hq c cs).symm.trans ((h (c :: cs)).trans (acc_step w hq' c cs))
  have nolive : ∀ {t : Int}, (0 ≤ t ∧ t < A.fin.length) → (∀ cs, acc A t cs = false) → cl.getD t.toNat (-1) < 0 := fun {t} ht hd => (R.dead t.toNat (by omega)).2 (fun ⟨cs, hcs⟩ => by rw [Int.toNat_of_nonneg ht.1, hd cs] at hcs; cases hcs)
  cases h1 : findA (A.arcs.getD q []) c with
  | none =>
    cases h2 : findA (A.arcs.getD q' []) c with
    | none => rfl
    | some t' =>
      have ht' := target_in w hq' h2
      rw [h1, h2] at hc
      simp only [clsAt]
      rw [if_pos (nolive ht' fun cs => (hc cs).symm)]
  | some t =>
    have ht := target_in w hq h1
    cases h2 : findA (A.arcs.getD q' []) c with
    | none =>
      rw [h1, h2] at hc
      simp only [clsAt]
      rw [if_pos (nolive ht fun cs => hc cs)]
    | some t' =>
      have ht' := target_in w hq' h2
      rw [h1, h2] at hc
      simp only at hc
      simp only [clsAt]
      by_cases hl : cl.getD t.toNat (-1) < 0
      · have hd : ∀ cs, acc A t cs = false := fun cs => by
          have := (R.dead t.toNat (by omega)).1 hl
          rw [Int.toNat_of_nonneg ht.1] at this
          cases hh : acc A t cs with
          | false => rfl
          | true => exact absurd ⟨cs, hh⟩ this
        rw [if_pos hl, if_pos (nolive ht' fun cs => by rw [← hc cs]; exact hd cs)]
      · have hlive : Live A t.toNat := Classical.byContradiction fun hn => hl ((R.dead t.toNat (by omega)).2 hn)
        have := R.lang t.toNat t'.toNat (by omega) (by omega) hlive (fun cs => by rw [Int.toNat_of_nonneg ht.1, Int.toNat_of_nonneg ht'.1]; exact hc cs)
        rw [← this]
structure Cls (A : Aut) (cl : List Int) : Prop where
  len : cl.length = A.fin.length
  dead : ∀ q : Nat, q < A.fin.length → (cl.getD q (-1) < 0 ↔ ¬ Live A q)
  bound : ∀ q : Nat, q < A.fin.length → -1 ≤ cl.getD q (-1) ∧ cl.getD q (-1) < A.fin.length
  same : ∀ q q' : Nat, q < A.fin.length → q' < A.fin.length → Live A q → Live A q' → (cl.getD q (-1) = cl.getD q' (-1) ↔ ∀ cs, acc A q cs = acc A q' cs)
theorem refine_ok {A : Aut} (w : Wf A) {cl : List Int} {cnt : Nat} (R : RI A cl cnt) (hn : A.fin.length ≤ 256) {ss : List (List UInt8)} {nx : List Int} (H : After A cl A.fin.length ss nx) :
    RI A nx ss.length ∧ cnt ≤ ss.length ∧ (cnt = ss.length → Cls A nx) := by
  have live0 : ∀ q, q < A.fin.length → Live A q → 0 ≤ cl.getD q (-1) := fun q hq hl => by
    have := mt (R.dead q hq).1 (fun h => h hl); omega
  have val : ∀ q, q < A.fin.length → Live A q → sgn A cl q ∈ ss ∧ nx.getD q (-1) = (ixOf ss (sgn A cl q) : Nat) := fun q hq hl => by
    obtain ⟨h1, h2⟩ := H.pos q hq (live0 q hq hl)
    exact ⟨h1, by simp [List.getD, h2]⟩
  have valn : ∀ q, q < A.fin.length → ¬ Live A q → nx.getD q (-1) = -1 := fun q hq hl => by
    have := H.neg q hq ((R.dead q hq).2 hl)
    simp [List.getD, this]
  have dead : ∀ q : Nat, q < A.fin.length → (nx.getD q (-1) < 0 ↔ ¬ Live A q) := fun q hq => by
    by_cases hl : Live A q
    · have := (val q hq hl).2
      exact ⟨fun h => by omega, fun h => absurd hl h⟩
    · have := valn q hq hl
      exact ⟨fun _ => hl, fun _ => by omega⟩
  have hix : ∀ q, q < A.fin.length → Live A q → nx.getD q (-1) < ss.length := fun q hq hl => by
    obtain ⟨h1, h2⟩ := val q hq hl
    rw [h2]; have := ixOf_lt h1; omega
  have eqs : ∀ q q' : Nat, q < A.fin.length → q' < A.fin.length → Live A q → Live A q' → nx.getD q (-1) = nx.getD q' (-1) → sgn A cl q = sgn A cl q' := fun q q' hq hq' hl hl' he => by
    obtain ⟨h1, h2⟩ := val q hq hl
    obtain ⟨h3, h4⟩ := val q' hq' hl'
    exact ixOf_inj h1 h3 (by omega)
  have livelive : ∀ q q' : Nat, q < A.fin.length → q' < A.fin.length → Live A q → nx.getD q (-1) = nx.getD q' (-1) → Live A q' := fun q q' hq hq' hl he => Classical.byContradiction fun hn => by
    have := (val q hq hl).2
    have := valn q' hq' hn
    omega
  have langn : ∀ q q' : Nat, q < A.fin.length → q' < A.fin.length → Live A q → (∀ cs, acc A q cs = acc A q' cs) → nx.getD q (-1) = nx.getD q' (-1) := fun q q' hq hq' hl he => by
    have hl' : Live A q' := by obtain ⟨cs, hcs⟩ := hl; exact ⟨cs, by rw [← he]; exact hcs⟩
    have h1 := R.lang q q' hq hq' hl he
    have h2 := edgC_lang w R hq hq' he
    have h3 : sgn A cl q = sgn A cl q' := by unfold sgn; rw [h1, h2]
    rw [(val q hq hl).2, (val q' hq' hl').2, h3]
  have finn : ∀ q q' : Nat, q < A.fin.length → q' < A.fin.length → Live A q → nx.getD q (-1) = nx.getD q' (-1) → A.fin.getD q false = A.fin.getD q' false := fun q q' hq hq' hl he => by
    have hl' := livelive q q' hq hq' hl he
    exact R.fin q q' hq hq' hl (sgn_eq w R hq hq' hl hl' (eqs q q' hq hq' hl hl' he)).1
  have cnt1 : ∀ k : Nat, k < ss.length → ∃ q : Nat, q < A.fin.length ∧ Live A q ∧ nx.getD q (-1) = k := fun k hk => by
    obtain ⟨q, h1, h2, h3⟩ := H.from_ ss[k] (List.getElem_mem hk)
    have hl : Live A q := Classical.byContradiction fun hn => by have := (R.dead q h1).2 hn; omega
    refine ⟨q, h1, hl, ?_⟩
    rw [(val q h1 hl).2, ← h3]
    have : ixOf ss ss[k] = k := by
      have h4 := ixOf_get (List.getElem_mem hk)
      have h5 := ixOf_lt (List.getElem_mem hk)
      rw [List.getElem?_eq_getElem h5] at h4
      exact (List.getElem_inj H.nd).1 (Option.some.inj h4)
    rw [this]
  have hsz := H.sz
  -- each new class has an old one
  obtain ⟨rep, hrep⟩ : ∃ rep : Nat → Nat, ∀ k, k < ss.length → rep k < A.fin.length ∧ Live A (rep k) ∧ nx.getD (rep k) (-1) = k := by
    refine ⟨fun k => if h : k < ss.length then (cnt1 k h).choose else 0, fun k hk => ?_⟩
    simp only [hk, dite_true]
    exact (cnt1 k hk).choose_spec
  have hsub : ∀ k, k < cnt → ∃ k', k' < ss.length ∧ cl.getD (rep k') (-1) = k := fun k hk => by
    obtain ⟨q, h1, h2, h3⟩ := R.cnt1 k hk
    obtain ⟨g1, g2⟩ := val q h1 h2
    have hlt := ixOf_lt g1
    obtain ⟨r1, r2, r3⟩ := hrep _ hlt
    refine ⟨_, hlt, ?_⟩
    rw [← h3]
    exact (sgn_eq w R r1 h1 r2 h2 (eqs _ q r1 h1 r2 h2 (by rw [r3, g2]))).1
  have hcnt : cnt ≤ ss.length := by
    have := nodup_len (l := List.range cnt) (m := (List.range ss.length).map fun k' => (cl.getD (rep k') (-1)).toNat) List.nodup_range (fun k hk => by
      obtain ⟨k', h1, h2⟩ := hsub k (List.mem_range.1 hk)
      exact List.mem_map.2 ⟨k', List.mem_range.2 h1, by rw [h2]; rfl⟩)
    simpa using this
  refine ⟨⟨H.len, dead, fun q hq => ?_, langn, finn, .inr hix, cnt1⟩, hcnt, fun heq => ?_⟩
  · by_cases hl : Live A q
    · have := hix q hq hl; omega
    · rw [valn q hq hl]; omega
  · -- nothing was divided: stable
    have inj : ∀ k1 k2, k1 < ss.length → k2 < ss.length → cl.getD (rep k1) (-1) = cl.getD (rep k2) (-1) → k1 = k2 := fun k1 k2 h1 h2 he => Classical.byContradiction fun hne => by
      have := nodup_len (l := List.range cnt) (m := ((List.range ss.length).erase k2).map fun k' => (cl.getD (rep k') (-1)).toNat) List.nodup_range (fun k hk => by
        obtain ⟨k', g1, g2⟩ := hsub k (List.mem_range.1 hk)
        by_cases hk' : k' = k2
        · subst hk'
          exact List.mem_map.2 ⟨k1, (List.mem_erase_of_ne hne).2 (List.mem_range.2 h1), by rw [he, g2]; rfl⟩
        · exact List.mem_map.2 ⟨k', (List.mem_erase_of_ne hk').2 (List.mem_range.2 g1), by rw [g2]; rfl⟩)
      rw [List.length_map, List.length_erase_of_mem (List.mem_range.2 h2), List.length_range, List.length_range] at this
      omega
    have stable : ∀ q q' : Nat, q < A.fin.length → q' < A.fin.length → Live A q → Live A q' → cl.getD q (-1) = cl.getD q' (-1) → nx.getD q (-1) = nx.getD q' (-1) := fun q q' hq hq' hl hl' he => by
      obtain ⟨g1, g2⟩ := val q hq hl
      obtain ⟨g3, g4⟩ := val q' hq' hl'
      have l1 := ixOf_lt g1
      have l2 := ixOf_lt g3
      obtain ⟨r1, r2, r3⟩ := hrep _ l1
      obtain ⟨t1, t2, t3⟩ := hrep _ l2
      have e1 := (sgn_eq w R r1 hq r2 hl (eqs _ q r1 hq r2 hl (by rw [r3, g2]))).1
      have e2 := (sgn_eq w R t1 hq' t2 hl' (eqs _ q' t1 hq' t2 hl' (by rw [t3, g4]))).1
      rw [g2, g4, inj _ _ l1 l2 (by rw [e1, e2, he])]
    refine ⟨H.len, dead, fun q hq => ?_, fun q q' hq hq' hl hl' => ⟨fun he cs => ?_, langn q q' hq hq' hl⟩⟩
    · by_cases hl : Live A q
      · have := (val q hq hl).2; have := hix q hq hl; omega
      · rw [valn q hq hl]; omega
    · induction cs generalizing q q' with
      | nil => rw [acc_nil, acc_nil]; exact finn q q' hq hq' hl he
      | cons c cs ih =>
        have hed := (sgn_eq w R hq hq' hl hl' (eqs q q' hq hq' hl hl' he)).2
        obtain ⟨_, f1⟩ := edgC_find w cl hq
        obtain ⟨_, f2⟩ := edgC_find w cl hq'
        have hf : clsAt cl (findA (A.arcs.getD q []) c) = clsAt cl (findA (A.arcs.getD q' []) c) := by rw [← f1, ← f2, hed]
        rw [acc_step w hq, acc_step w hq']
        have deadAcc : ∀ {t : Int}, (0 ≤ t ∧ t < A.fin.length) → cl.getD t.toNat (-1) < 0 → acc A t cs = false := fun {t} ht hd => by
          have := (R.dead t.toNat (by omega)).1 hd
          rw [Int.toNat_of_nonneg ht.1] at this
          cases hh : acc A t cs with
          | false => rfl
          | true => exact absurd ⟨cs, hh⟩ this
        cases h1 : findA (A.arcs.getD q []) c with
        | none =>
          cases h2 : findA (A.arcs.getD q' []) c with
          | none => rfl
          | some t' =>
            rw [h1, h2] at hf
            simp only [clsAt] at hf
            by_cases hd : cl.getD t'.toNat (-1) < 0
            · simp only; rw [deadAcc (target_in w hq' h2) hd]
            · rw [if_neg hd] at hf; cases hf
        | some t =>
          have ht := target_in w hq h1
          cases h2 : findA (A.arcs.getD q' []) c with
          | none =>
            rw [h1, h2] at hf
            simp only [clsAt] at hf
            by_cases hd : cl.getD t.toNat (-1) < 0
            · simp only; rw [deadAcc ht hd]
            · rw [if_neg hd] at hf; cases hf
          | some t' =>
            have ht' := target_in w hq' h2
            rw [h1, h2] at hf
            simp only [clsAt] at hf
            simp only
            by_cases hd : cl.getD t.toNat (-1) < 0
            · rw [if_pos hd] at hf
              by_cases hd' : cl.getD t'.toNat (-1) < 0
              · rw [deadAcc ht hd, deadAcc ht' hd']
              · rw [if_neg hd'] at hf; cases hf
            · rw [if_neg hd] at hf
              by_cases hd' : cl.getD t'.toNat (-1) < 0
              · rw [if_pos hd'] at hf; cases hf
              · rw [if_neg hd'] at hf
                have hlt : Live A t.toNat := Classical.byContradiction fun hn => hd ((R.dead t.toNat (by omega)).2 hn)
                have hlt' : Live A t'.toNat := Classical.byContradiction fun hn => hd' ((R.dead t'.toNat (by omega)).2 hn)
                have := ih t.toNat t'.toNat (by omega) (by omega) hlt hlt' (stable t.toNat t'.toNat (by omega) (by omega) hlt hlt' (Option.some.inj hf))
                rw [Int.toNat_of_nonneg ht.1, Int.toNat_of_nonneg ht'.1] at this
                exact this
end Go.Proofs.YtlipmjpapkfaeaaGreatDoor.Fn
end
