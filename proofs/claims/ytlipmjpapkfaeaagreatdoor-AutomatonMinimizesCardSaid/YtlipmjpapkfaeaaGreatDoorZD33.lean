/- automaton.classes (F78) in the machine. No condition but sizes.
Merged from 2 texts. -/
import Derived.Test.YtlipmjpapkfaeaaGreatDoorZD32
import Derived.Test.YtlipmjpapkfaeaaGreatDoorZD13
import Derived.Test.YtlipmjpapkfaeaaGreatDoorZD28
import Derived.Test.YtlipmjpapkfaeaaGreatDoorZD29
section
set_option linter.unusedSimpArgs false
set_option linter.unusedVariables false
set_option maxRecDepth 100000
namespace Go.Proofs.YtlipmjpapkfaeaaGreatDoor.Fn
open Go Go.Mach Go.RowKit Go.Proofs
attribute [local irreducible] AOps WPX DOps thenS blockS AOp GOps CPick
theorem signApp {W : World} {N : Nat} {h0 h : AHeap} {sa : Option Addr} {sc : Nat} {bs : List UInt8} {ea : Option Addr} {ec : Nat} {es : List (List Value)} {b n : Nat} (o : OwnV N h sa sc 1 (bs.map byteV)) (oe : OwnV N h ea ec 3 es) (ap : Apart sa ea)
    (k : Keeps h0 h) (k1 : h0.next ≤ N) (k2 : N ≤ h.next) (ob : Ow h b 1 ((bytesN n).map byteV)) (hs : bs.length + 4 ≤ 1073741824) :
    ∃ sa' sc' h', appA W h 1 (.slice sa bs.length sc) (.slice (some ⟨b, 0, some 0⟩) 4 1) = some (.slice sa' (bs ++ bytesN n).length sc', h') ∧ OwnV N h' sa' sc' 1 ((bs ++ bytesN n).map byteV) ∧ OwnV N h' ea ec 3 es ∧ Apart sa' ea ∧ Keeps h0 h' ∧ h'.next = h.next + 1 ∧
      (∀ i, i < h.next → NotIn sa i → h'.own.get i = h.own.get i) ∧ (∀ i, i < h.next → NotIn sa' i) := by
  obtain ⟨a', c', h3, g1, g2, g3, g4, g5, g6⟩ := OwnV.appL (W := W) o k k1 k2 ob (by simp [bytesN]) (byteV_one _) (by rw [List.length_map, List.length_map, bytesN_len]; exact hs)
  rw [List.length_map, List.length_append, List.length_map, List.length_map, bytesN_len] at g1
  refine ⟨a', c', h3, by rw [List.length_append, bytesN_len]; exact g1, by rw [List.map_append]; exact g2, oe.other g5 (by omega) ap.symm, (oe.apartNew g6).symm, g3, g4, g5, g6⟩
theorem flat12 : ∀ l : List Arc3, (l.flatMap encE).length = 12 * l.length
  | [] => rfl
  | a :: l => by rw [List.flatMap_cons, List.length_append, flat12 l]; simp only [encE, List.length_append, bytesN_len, List.length_cons]; omega
def cls0 (A : Aut) (ol : List Bool) (q : Nat) : Int := if ol.getD q false then (if A.fin.getD q false then 1 else 0) else -1
structure Cl0 (A : Aut) (ol : List Bool) (n i : Nat) (cl : List Int) : Prop where
  len : cl.length = n
  lo : ∀ q, q < i → cl[q]? = some (cls0 A ol q)
  hi : ∀ q, i ≤ q → q < n → cl[q]? = some 0
theorem Cl0.set {A : Aut} {ol : List Bool} {n i : Nat} {cl : List Int} (h : Cl0 A ol n i cl) (hi : i < n) : Cl0 A ol n (i + 1) (cl.set i (cls0 A ol i)) := by
  refine ⟨by simp [h.len], fun q hq => ?_, fun q hq hqn => ?_⟩
  · rw [List.getElem?_set]
    by_cases e : i = q
    · subst e; rw [if_pos rfl, if_pos (by rw [h.len]; exact hi)]
    · rw [if_neg e]; exact h.lo q (by omega)
  · rw [List.getElem?_set, if_neg (by omega)]; exact h.hi q (by omega) hqn
theorem Cl0.keep {A : Aut} {ol : List Bool} {n i : Nat} {cl : List Int} (h : Cl0 A ol n i cl) (hi : i < n) (h0 : cls0 A ol i = 0) : Cl0 A ol n (i + 1) cl := by
  refine ⟨h.len, fun q hq => ?_, fun q hq hqn => h.hi q (by omega) hqn⟩
  by_cases e : q = i
  · subst e; rw [h0]; exact h.hi q (Nat.le_refl _) hi
  · exact h.lo q (by omega)
theorem ri_init {A : Aut} {ol : List Bool} {cl : List Int} (hol : ol.length = A.fin.length) (hlive : ∀ q : Nat, ol[q]? = some true ↔ Live A q) (h : Cl0 A ol A.fin.length A.fin.length cl) : RI A cl 0 := by
  have v : ∀ q, q < A.fin.length → cl.getD q (-1) = cls0 A ol q := fun q hq => by simp [List.getD, h.lo q hq]
  have lv : ∀ q, q < A.fin.length → (ol.getD q false = true ↔ Live A q) := fun q hq => by
    rw [← hlive q]
    have : q < ol.length := by omega
    simp [this]
  have vl : ∀ q, q < A.fin.length → Live A q → cl.getD q (-1) = if A.fin.getD q false then 1 else 0 := fun q hq hl => by
    rw [v q hq]; unfold cls0; rw [if_pos ((lv q hq).2 hl)]
  have vn : ∀ q, q < A.fin.length → ¬ Live A q → cl.getD q (-1) = -1 := fun q hq hl => by
    rw [v q hq]; unfold cls0; rw [if_neg (fun hh => hl ((lv q hq).1 hh))]
  refine ⟨h.len, fun q hq => ?_, fun q hq => ?_, fun q q' hq hq' hl he => ?_, fun q q' hq hq' hl he => ?_, .inl rfl, fun k hk => by omega⟩
  · by_cases hl : Live A q
    · rw [vl q hq hl]
      exact ⟨fun hh => by split at hh <;> omega, fun hh => absurd hl hh⟩
    · rw [vn q hq hl]; exact ⟨fun _ => hl, fun _ => by omega⟩
  · by_cases hl : Live A q
    · rw [vl q hq hl]; split <;> omega
    · rw [vn q hq hl]; omega
  · have hl' : Live A q' := by obtain ⟨cs, hcs⟩ := hl; exact ⟨cs, by rw [← he]; exact hcs⟩
    have := he []
    rw [acc_nil, acc_nil] at this
    rw [vl q hq hl, vl q' hq' hl', this]
  · rw [vl q hq hl] at he
    by_cases hl' : Live A q'
    · rw [vl q' hq' hl'] at he
      cases h1 : A.fin.getD q false <;> cases h2 : A.fin.getD q' false <;> rw [h1, h2] at he <;> simp_all
    · rw [vn q' hq' hl'] at he; split at he <;> omega
set_option maxHeartbeats 8000000 in
theorem f78_ok (W : World) (h : AHeap) (v : Value) (A : Aut) (vf va : Value) (vs : List Value) (limit : Int) (hA : AutoV W h v A vf va vs) (w : Wf A) (hn : A.fin.length ≤ 256) (hb : ∀ l ∈ A.arcs, l.length < 1048576) (hlim : (A.fin.length : Int) ≤ limit) :
    ACalls Tryz.prog W 78 [v, .int .i64 limit] h (fun r h' => (∃ a c cl, r = .tuple #[.slice a A.fin.length c, .bool true] ∧ OwnV h.next h' a c 1 (List.map numV cl) ∧ Cls A cl) ∧ Keeps h h') := by
  have hA' := hA
  obtain ⟨rfl, hf, ha, hl, he⟩ := hA
  obtain ⟨fa, fc, hfs⟩ := hf.len
  obtain ⟨aa, ac, has⟩ := ha.len
  rw [List.length_map] at hfs has
  rw [hl, w.len] at has
  subst hfs has
  rw [w.len] at hl
  refine ACalls_ofX hmix c78 (Nat.le_of_ble_eq_true rfl) ?_
  unfold r78
  dsimp only [Rc.t, Rc.u, Rc.v, Rc.o, Rc.i, Rc.p, Rc.q, Rc.s, Rc.b, Rc.k, Rc.g, Rc.S, Rc.D]
  simp only [envOf2]
  obtain ⟨n, hnn⟩ : ∃ n, n = A.fin.length := ⟨_, rfl⟩
  have hk0 : Keeps h (h.new (.cells [.slice fa n fc, .slice aa n ac])) := (Keeps.refl h).new _
  have h56 := f56_ok W (h.new (.cells [.slice fa n fc, .slice aa n ac])) _ A _ _ vs (hA'.keeps hk0) w hn hb
  rw [← hnn] at hf ha hA' hl hn h56 hlim ⊢
  have hld0 : aloadN W (h.new (.cells [.slice fa n fc, .slice aa n ac])) ⟨h.next, 0, some 0⟩ 2 = some [.slice fa n fc, .slice aa n ac] := aload2 (by rw [AHeap.new_get, if_pos rfl])
  have hbx0 : (h.new (.cells [.slice fa n fc, .slice aa n ac])).own.get h.next = some (.cells [.slice fa n fc, .slice aa n ac]) := by rw [AHeap.new_get, if_pos rfl]
  have hwn : IntKind.i64.wrap (n : Int) = n := wrap_i64 (by omega) (by omega)
  have h0n : (0 : Int) ≤ n := by omega
  have hle : (n : Int) ≤ n := Int.le_refl _
  have h8n : 8 * (n : Int) ≤ 1099511627776 := by omega
  have htn : (n : Int).toNat = n := rfl
  replace hnn : Hid (n = A.fin.length) := hnn
  repeat refine zs ?_
  refine ops_callK zv za h56 ?_
  rintro r1 h1 ⟨⟨la, lc, ol, rfl, hol, holl, hlive⟩, hk1⟩
  rw [AHeap.new_next] at hol
  have hlt1 : h.next < h1.next := by have := hk1.le; rw [AHeap.new_next] at this; omega
  have hbx1 : h1.own.get h.next = some (.cells [.slice fa n fc, .slice aa n ac]) := by rw [hk1.same _ (by rw [AHeap.new_next]; omega)]; exact hbx0
  have hk01 : Keeps h h1 := hk0.trans hk1
  replace holl : Hid (ol.length = n) := holl
  clear h56 hld0 hbx0 hk1 hk0
  have ho0 : Ow (h1.new (.cells (repL [.int .i64 0] n))) h1.next 1 ((List.replicate n (0 : Int)).map numV) := by simpa [numV] using mk_ow (h := h1) (z := .int .i64 0) n
  have hc0 : Cl0 A ol n 0 (List.replicate n 0) := ⟨by simp, fun q hq => by omega, fun q _ hq => by simp [hq]⟩
  have hk2 : Keeps h1 (h1.new (.cells (repL [.int .i64 0] n))) := (Keeps.refl h1).new _
  repeat refine zs ?_
  refine WPX.loop hmix (fun k σ => ∃ i cl, i ≤ n ∧ k = n - i ∧ eget σ.e 1 = .int .i64 limit ∧ eget σ.e 2 = .pointer (some ⟨h.next, 0, some 0⟩) ∧ eget σ.e 6 = .slice la n lc ∧ eget σ.e 7 = .slice (some ⟨h1.next, 0, some 0⟩) n 1 ∧ eget σ.e 26 = .int .i64 n ∧ eget σ.e 27 = .int .i64 (i : Nat) ∧
    Keeps h1 σ.h ∧ Ow σ.h h1.next 1 (List.map numV cl) ∧ Cl0 A ol n i cl) n ?h0 ?round
  case h0 => exact ⟨0, _, Nat.zero_le _, rfl, zv, zv, zv, zv, zv, zv, hk2, ho0, hc0⟩
  clear ho0 hc0 hk2
  rintro k ⟨e, hh⟩ ⟨i, cl, hi, rfl, e1, e2, e6, e7, e26, e27, hk, ho, hc⟩
  dsimp only at e1 e2 e6 e7 e26 e27 hk ho
  have hbx : hh.own.get h.next = some (.cells [.slice fa n fc, .slice aa n ac]) := by rw [hk.same _ hlt1]; exact hbx1
  by_cases hlt : i < n
  · have hltI : (i : Int) < n := by omega
    have hw1 : IntKind.i64.wrap ((i : Int) + 1) = ((i + 1 : Nat) : Int) := wrap_i64 (by omega) (by omega)
    obtain ⟨b0, hb0⟩ : ∃ b, ol[i]? = some b := ⟨_, List.getElem?_eq_getElem (by rw [holl.out]; exact hlt)⟩
    have hx1 : (ol.map boolV)[i]? = some [.bool b0] := by simp [hb0, boolV]
    obtain ⟨d, hd1, _, hd3⟩ := ((hol.keeps hk).sl (W := W)).at hx1
    rw [List.length_map, holl.out] at hd1
    have hr1 := (hd3 0 (.bool b0) rfl).1
    have hdd : aadd d 0 = d := rfl
    rw [hdd] at hr1
    obtain ⟨f0, hf0⟩ : ∃ b, A.fin[i]? = some b := ⟨_, List.getElem?_eq_getElem (by rw [← hnn.out]; exact hlt)⟩
    have hx2 : (A.fin.map fun b => [Value.bool b])[i]? = some [.bool f0] := by simp [hf0]
    obtain ⟨d2, hd21, _, hd23⟩ := (hf.keeps (hk01.trans hk)).at hx2
    have hr2 := (hd23 0 (.bool f0) rfl).1
    have hdd2 : aadd d2 0 = d2 := rfl
    rw [hdd2] at hr2
    have hidx : idxV 1 (.slice (some ⟨h1.next, 0, some 0⟩) n 1) (.int .i64 i) = some (.pointer (some ⟨h1.next, i * 1, some 0⟩)) := idx_own hlt
    have hcv : cls0 A ol i = if b0 then (if f0 then 1 else 0) else -1 := by simp [cls0, hb0, hf0]
    clear hx1 hd3 hx2 hd23
    have put : ∀ x : Int, ∃ C, hh.own.get h1.next = some (.cells C) ∧ Nat.ble (i * 1 + 1) C.length = true ∧ ∃ C2, splice C (i * 1) [.int .i64 x] = C2 ∧ Ow (hh.put h1.next (.cells C2)) h1.next 1 ((cl.set i x).map numV) := fun x => ho.set1 (f := numV) (fun x => rfl) (by rw [hc.len]; exact hlt) x
    have hkp : ∀ C2, Keeps h1 (hh.put h1.next (.cells C2)) := fun C2 => hk.put (Nat.le_refl _) _
    cases b0 with
    | false =>
      obtain ⟨C, hC, hble, C2, hsp, ho2⟩ := put (-1)
      have hc2 := hc.set hlt
      have hkf := hkp C2
      rw [hcv] at hc2
      clear hb0 hf0 hcv put hkp
      repeat refine zs ?_
      exact ⟨n - (i + 1), by omega, i + 1, _, by omega, rfl, zv, zv, zv, zv, zv, zv, hkf, ho2, hc2⟩
    | true =>
      cases f0 with
      | true =>
        obtain ⟨C, hC, hble, C2, hsp, ho2⟩ := put 1
        have hc2 := hc.set hlt
        have hkf := hkp C2
        rw [hcv] at hc2
        clear hb0 hf0 hcv put hkp
        repeat refine zs ?_
        exact ⟨n - (i + 1), by omega, i + 1, _, by omega, rfl, zv, zv, zv, zv, zv, zv, hkf, ho2, hc2⟩
      | false =>
        have hc2 := hc.keep hlt (by rw [hcv]; rfl)
        clear hb0 hf0 hcv put hkp
        repeat refine zs ?_
        exact ⟨n - (i + 1), by omega, i + 1, _, by omega, rfl, zv, zv, zv, zv, zv, zv, hk, ho, hc2⟩
  · have hltI : ¬ (i : Int) < n := by omega
    have hin : i = n := by omega
    rw [hin] at hc
    have hR0 : RI A cl 0 := ri_init (by rw [← hnn.out]; exact holl.out) hlive (by rw [← hnn.out]; exact hc)
    have hkh : Keeps h hh := hk01.trans hk
    have hbc : h.next < h1.next := hlt1
    obtain ⟨bc, hbce⟩ : ∃ bc, bc = h1.next := ⟨_, rfl⟩
    rw [← hbce] at e7 ho hbc
    clear hin hc hi hlt hk01 hlt1 hol hlive hbx1 hbce
    repeat refine zs ?_
    refine WPX.loop hmix (fun k σ => ∃ cl bc cnt, k = n + 1 - cnt ∧ cnt ≤ n ∧ eget σ.e 1 = .int .i64 limit ∧ eget σ.e 2 = .pointer (some ⟨h.next, 0, some 0⟩) ∧ eget σ.e 7 = .slice (some ⟨bc, 0, some 0⟩) n 1 ∧ eget σ.e 9 = .int .i64 (cnt : Nat) ∧
      σ.h.own.get h.next = some (.cells [.slice fa n fc, .slice aa n ac]) ∧ Keeps h σ.h ∧ Ow σ.h bc 1 (List.map numV cl) ∧ h.next < bc ∧ RI A cl cnt) (n + 1) ?h1 ?round1
    case h1 => exact ⟨cl, bc, 0, rfl, Nat.zero_le _, zv, zv, zv, zv, hbx, hkh, ho, hbc, hR0⟩
    clear e1 e2 e6 e7 e26 e27 hk ho hbx hkh hbc hR0 hltI holl
    rintro K ⟨e, H0⟩ ⟨cl, bc, cnt, rfl, hcn, e1, e2, e7, e9, hbx, hk, ho, hbc, hR⟩
    dsimp only at e1 e2 e7 e9 hbx hk ho
    have hbcl := ho.lt
    obtain ⟨H1, hH1⟩ : ∃ H1, H1 = (H0.new (.map [])).new (.cells (repL [.int .i64 0] n)) := ⟨_, rfl⟩
    have hH1n : H1.next = H0.next + 2 := by rw [hH1]; rfl
    have hk01 : Keeps H0 H1 := by rw [hH1]; exact ((Keeps.refl H0).new _).new _
    have hm1 : H1.own.get H0.next = some (.map (mapFrom strK 0 [])) := by rw [hH1, AHeap.new_get, AHeap.new_next, if_neg (by omega), AHeap.new_get, if_pos rfl]; rfl
    have hx1 : Ow H1 (H0.next + 1) 1 (([] ++ List.replicate (n - 0) (0 : Int)).map numV) := by
      have := mk_ow (h := H0.new (.map [])) (z := .int .i64 0) n
      rw [AHeap.new_next] at this
      rw [hH1]; simpa [numV] using this
    have hca0 : Hid (clsAfter A cl 0 = ([], [])) := rfl
    rw [hH1] at hm1 hx1 hk01
    repeat refine zs ?_
    refine WPX.loop hmix (fun k σ => ∃ j ss nx, j ≤ n ∧ k = n - j ∧ eget σ.e 1 = .int .i64 limit ∧ eget σ.e 2 = .pointer (some ⟨h.next, 0, some 0⟩) ∧ eget σ.e 7 = .slice (some ⟨bc, 0, some 0⟩) n 1 ∧ eget σ.e 9 = .int .i64 (cnt : Nat) ∧ eget σ.e 10 = .map (some H0.next) ∧
      eget σ.e 11 = .slice (some ⟨H0.next + 1, 0, some 0⟩) n 1 ∧ eget σ.e 53 = .slice (some ⟨bc, 0, some 0⟩) n 1 ∧ eget σ.e 54 = .int .i64 n ∧ eget σ.e 55 = .int .i64 (j : Nat) ∧ Keeps H0 σ.h ∧ σ.h.own.get H0.next = some (.map (mapFrom strK 0 ss)) ∧
      Ow σ.h (H0.next + 1) 1 (List.map numV (nx ++ List.replicate (n - j) 0)) ∧ Hid (clsAfter A cl j = (ss, nx))) n ?h2 ?round2
    case h2 => exact ⟨0, [], [], Nat.zero_le _, rfl, zv, zv, zv, zv, zv, zv, zv, zv, zv, hk01, hm1, hx1, hca0⟩
    clear e1 e2 e7 e9 hk01 hm1 hx1 hca0 hH1 hH1n
    rintro K2 ⟨e, g⟩ ⟨j, ss, nx, hj, rfl, e1, e2, e7, e9, e10, e11, e53, e54, e55, hkg, hmg, hxg, hca⟩
    dsimp only at e1 e2 e7 e9 e10 e11 e53 e54 e55 hkg hmg hxg
    have hAf := after_spec A cl j
    rw [hca.out] at hAf
    simp only at hAf
    have hnl : nx.length = j := hAf.len
    have hssl := hAf.sz
    replace hnl : Hid (nx.length = j) := hnl
    have hog : Ow g bc 1 (List.map numV cl) := ho.keeps hkg
    have hbxg : g.own.get h.next = some (.cells [.slice fa n fc, .slice aa n ac]) := by rw [hkg.same _ (by omega)]; exact hbx
    have hbn := hxg.lt
    by_cases hjn : j < n
    · have hjnI : (j : Int) < n := by omega
      have hw1 : IntKind.i64.wrap ((j : Int) + 1) = ((j + 1 : Nat) : Int) := wrap_i64 (by omega) (by omega)
      have hjA : j < A.fin.length := by rw [← hnn.out]; exact hjn
      obtain ⟨k, hkj⟩ : ∃ k, cl[j]? = some k := ⟨_, List.getElem?_eq_getElem (by rw [hR.len]; exact hjA)⟩
      have hkd : cl.getD j (-1) = k := by simp [List.getD, hkj]
      obtain ⟨C0, hC0, hC0j⟩ := hog.get1 (f := numV) hkj rfl
      have hidx : idxV 1 (.slice (some ⟨bc, 0, some 0⟩) n 1) (.int .i64 j) = some (.pointer (some ⟨bc, j * 1, some 0⟩)) := idx_own hjn
      have hidx2 : idxV 1 (.slice (some ⟨H0.next + 1, 0, some 0⟩) n 1) (.int .i64 j) = some (.pointer (some ⟨H0.next + 1, j * 1, some 0⟩)) := idx_own hjn
      have hset : ∀ x : Int, (nx ++ List.replicate (n - j) 0).set j x = (nx ++ [x]) ++ List.replicate (n - (j + 1)) 0 := fun x => by
        rw [List.set_append_right _ _ (by have := hnl.out; omega), show n - j = (n - (j + 1)) + 1 by omega, List.replicate_succ]
        have : j - nx.length = 0 := by have := hnl.out; omega
        rw [this]; simp
      obtain ⟨C, hC, hble, C2, hsp, hx2⟩ := hxg.set1 (f := numV) (fun x => rfl) (i := j) (by simp; have := hnl.out; omega) (-1)
      rw [hset] at hx2
      simp only [numV] at hsp
      obtain ⟨G, hG⟩ : ∃ G, G = g.put (H0.next + 1) (.cells C2) := ⟨_, rfl⟩
      have hGn : G.next = g.next := by rw [hG]; rfl
      have hGg : ∀ i, i ≠ H0.next + 1 → G.own.get i = g.own.get i := fun i hi => by rw [hG, AHeap.put_get, if_neg hi]
      have hkG : Keeps H0 G := by rw [hG]; exact hkg.put (by omega) _
      have hmG : G.own.get H0.next = some (.map (mapFrom strK 0 ss)) := by rw [hGg _ (by omega)]; exact hmg
      rw [← hG] at hx2
      by_cases hk0 : k < 0
      · have hca2 : Hid (clsAfter A cl (j + 1) = (ss, nx ++ [-1])) := by
          show _ = _
          rw [clsAfter_succ, hca.out]; unfold clsStepQ; rw [if_pos (by rw [hkd]; exact hk0)]
        rw [hG] at hkG hmG hx2
        clear hkj hkd hAf hset hxg hog hmg
        repeat refine zs ?_
        exact ⟨n - (j + 1), by omega, j + 1, ss, nx ++ [-1], by omega, rfl, zv, zv, zv, zv, zv, zv, zv, zv, zv, hkG, hmG, hx2, hca2⟩
      · obtain ⟨kn, rfl⟩ : ∃ kn : Nat, k = kn := ⟨k.toNat, by omega⟩
        have hkpos : ¬ ((kn : Int) < 0) := by omega
        have hkhG : Keeps h G := hk.trans hkG
        have hbxG : G.own.get h.next = some (.cells [.slice fa n fc, .slice aa n ac]) := by rw [hGg _ (by omega)]; exact hbxg
        have hogG : Ow G bc 1 (List.map numV cl) := hog.same (hGg _ (by omega)) (by omega)
        have h113 := f113_ok W (G.new (.cells [])) kn
        rw [hG] at h113
        repeat refine zs ?_
        refine ops_callK zv za h113 ?_
        rintro r1 g1 ⟨b1, rfl, hb1, ob1, hk1⟩
        rw [← hG] at hk1
        clear h113
        have hk1G : Keeps G g1 := ((Keeps.refl G).new _).trans hk1
        have os0 : OwnV G.next g1 (some ⟨g.next, 0, some 0⟩) 1 1 (([] : List UInt8).map byteV) := .inr ⟨g.next, rfl, rfl, by omega, ⟨by rw [hk1.same _ (by rw [AHeap.new_next]; omega), AHeap.new_get, if_pos hGn.symm]; rfl, fun e he => by simp at he, by have := hk1.le; rw [AHeap.new_next] at this; omega⟩⟩
        obtain ⟨sa, sc, g2, happ1, os1, _, _, hk2G, hn2, _, _⟩ := signApp (W := W) os0 (OwnV.nil G.next g1 3) (Apart.none_r _) hk1G (Nat.le_refl _) hk1G.le ob1 (by simp)
        rw [List.nil_append] at happ1 os1
        simp only [List.length_nil] at happ1
        have hbx2 : g2.own.get h.next = some (.cells [.slice fa n fc, .slice aa n ac]) := by rw [hk2G.same _ (by omega)]; exact hbxG
        obtain ⟨l, hll⟩ : ∃ l, A.arcs[j]? = some l := ⟨_, List.getElem?_eq_getElem (by rw [w.len]; exact hjA)⟩
        obtain ⟨x, hxs⟩ : ∃ x, vs[j]? = some x := ⟨_, List.getElem?_eq_getElem (show j < vs.length by omega)⟩
        have hxm : (vs.map fun x => [x])[j]? = some [x] := by simp [hxs]
        obtain ⟨a, ha1, _, ha3⟩ := (ha.keeps (hkhG.trans hk2G)).at hxm
        have hrd := (ha3 0 x rfl).1
        have haa : aadd a 0 = a := rfl
        rw [haa] at hrd
        have hlm := List.mem_of_getElem? hll
        have hcsl := (hogG.keeps hk2G).sl (W := W)
        have hcl : cl.length = n := by rw [hR.len]; exact hnn.out.symm
        rw [List.length_map, hcl] at hcsl
        have h81 := f81_ok W g2 x _ l cl ((he j x l hxs hll).keeps (hkhG.trans hk2G)) hcsl (by have := hb l hlm; omega) (fun y hy => (w.range hlm hy).1) (fun y hy => by have := (w.range hlm hy).2; rw [hcl]; have := hnn.out; omega)
        obtain ⟨es, hes⟩ : ∃ es, es = byClassM cl l := ⟨_, rfl⟩
        rw [← hes] at h81
        have hesl : es.length < 1048576 := by rw [hes]; exact Nat.lt_of_le_of_lt (byClassM_len l) (hb l hlm)
        have hesE : es = edgC A cl j := by rw [hes]; unfold edgC; rw [show A.arcs.getD j [] = l by simp [hll]]
        have hesR : InR es := by rw [hes]; exact byClassM_in fun y hy => (w.range hlm hy).1
        have hesK : ∀ y ∈ es, 0 ≤ y.2.2 ∧ y.2.2 < 4294967296 := fun y hy => by
          have := edgC_small w hR hjA y (by rw [← hesE]; exact hy); omega
        replace hcl : Hid (cl.length = n) := hcl
        replace hesE : Hid (es = edgC A cl j) := hesE
        clear ha3 hxm hxs hes hcsl
        repeat refine zs ?_
        refine ops_callK zv za h81 ?_
        rintro r2 g3 ⟨⟨ea, ec, rfl, oe⟩, hk3⟩
        clear h81 hrd ha1
        have os3 := os1.keeps hk3
        have oe3 : OwnV G.next g3 ea ec 3 (es.map arcV) := oe.base hk2G.le
        have hap3 : Apart sa ea := fun y z hy hz e => by
          have := (os1.lt hy).2; have := (oe.lt hz).1; omega
        have hk3G : Keeps G g3 := hk2G.trans hk3
        have hbs0 : Hid (bytesN kn = bytesN kn ++ (es.take 0).flatMap encE) := by show _ = _; simp
        repeat refine zs ?_
        refine WPX.loop hmix (fun kk σ => ∃ m bs sa sc, m ≤ es.length ∧ kk = es.length - m ∧ eget σ.e 1 = .int .i64 limit ∧ eget σ.e 2 = .pointer (some ⟨h.next, 0, some 0⟩) ∧ eget σ.e 7 = .slice (some ⟨bc, 0, some 0⟩) n 1 ∧ eget σ.e 9 = .int .i64 (cnt : Nat) ∧ eget σ.e 10 = .map (some H0.next) ∧
          eget σ.e 11 = .slice (some ⟨H0.next + 1, 0, some 0⟩) n 1 ∧ eget σ.e 12 = .int .i64 (j : Nat) ∧ eget σ.e 14 = .slice sa (List.length bs) sc ∧ eget σ.e 53 = .slice (some ⟨bc, 0, some 0⟩) n 1 ∧ eget σ.e 54 = .int .i64 n ∧ eget σ.e 55 = .int .i64 (j : Nat) ∧ eget σ.e 75 = .slice ea es.length ec ∧ eget σ.e 76 = .int .i64 es.length ∧ eget σ.e 77 = .int .i64 (m : Nat) ∧
          Keeps G σ.h ∧ OwnV G.next σ.h sa sc 1 (List.map byteV bs) ∧ OwnV G.next σ.h ea ec 3 (es.map arcV) ∧ Apart sa ea ∧ Hid (bs = bytesN kn ++ (es.take m).flatMap encE)) es.length ?h3 ?round3
        case h3 => exact ⟨0, _, sa, sc, Nat.zero_le _, rfl, zv, zv, zv, zv, zv, zv, zv, zv, zv, zv, zv, zv, zv, zv, hk3G, os3, oe3, hap3, hbs0⟩
        clear e1 e2 e7 e9 e10 e11 e53 e54 e55 hk3G os3 oe3 hap3 hbs0 hk3 oe os1 os0 happ1 hk2G hbx2 ob1 hk1 hk1G hC0 hC0j hC hble hsp hog hmg hxg hset
        rintro K3 ⟨e, g4⟩ ⟨m, bs, sa, sc, hm, rfl, e1, e2, e7, e9, e10, e11, e12, e14, e53, e54, e55, e75, e76, e77, hkG4, os4, oe4, hap4, hbs⟩
        dsimp only at e1 e2 e7 e9 e10 e11 e12 e14 e53 e54 e55 e75 e76 e77 hkG4 os4 oe4
        have hbsl : bs.length = 4 + 12 * m := by rw [hbs.out, List.length_append, bytesN_len, flat12]; simp; omega
        replace hbsl : Hid (bs.length = 4 + 12 * m) := hbsl
        by_cases hml : m < es.length
        · have hmlI : (m : Int) < es.length := by omega
          obtain ⟨⟨f, t, s⟩, hx⟩ : ∃ x, es[m]? = some x := ⟨_, List.getElem?_eq_getElem hml⟩
          have hxl := List.mem_of_getElem? hx
          have hxr := hesR _ hxl
          have hxk := hesK _ hxl
          simp only at hxr hxk
          obtain ⟨fn, rfl⟩ : ∃ fn : Nat, f = fn := ⟨f.toNat, by omega⟩
          obtain ⟨tn, rfl⟩ : ∃ tn : Nat, t = tn := ⟨t.toNat, by omega⟩
          obtain ⟨sn, rfl⟩ : ∃ sn : Nat, s = sn := ⟨s.toNat, by omega⟩
          have hwf : IntKind.i64.wrap (fn : Int) = fn := wrap_i64 (by omega) (by omega)
          have hwt : IntKind.i64.wrap (tn : Int) = tn := wrap_i64 (by omega) (by omega)
          have hw2 : IntKind.i64.wrap ((m : Int) + 1) = ((m + 1 : Nat) : Int) := wrap_i64 (by omega) (by omega)
          have hbs2 : Hid (((bs ++ bytesN fn) ++ bytesN tn) ++ bytesN sn = bytesN kn ++ (es.take (m + 1)).flatMap encE) := by
            show _ = _
            rw [List.take_add_one, hx, hbs.out]; simp [encE]
          have hxj : (es.map arcV)[m]? = some (arcV ((fn : Int), (tn : Int), (sn : Int))) := by simp [hx]
          obtain ⟨b, hb1, _, hb3⟩ := (oe4.sl (W := W)).at hxj
          rw [List.length_map] at hb1
          have hld := aloadN_of _ _ hb3
          simp only [arcV, List.length_cons, List.length_nil, Nat.reduceAdd] at hld
          obtain ⟨H5, hH5⟩ : ∃ H5, H5 = (g4.new (.cells [.int .i32 0, .int .i32 0, .int .i64 0])).put g4.next (.cells [.int .i32 fn, .int .i32 tn, .int .i64 sn]) := ⟨_, rfl⟩
          have hkk : Keeps g4 H5 := by rw [hH5]; exact ((Keeps.refl g4).new _).put (Nat.le_refl _) _
          have hn5 : H5.next = g4.next + 1 := by rw [hH5]; rfl
          have hg5 : H5.own.get g4.next = some (.cells [.int .i32 fn, .int .i32 tn, .int .i64 sn]) := by rw [hH5, AHeap.put_get, if_pos rfl]
          have hsalt : ∀ y, sa = some y → y.block < g4.next := fun y hy => (os4.lt hy).2
          have hf1 := f113_ok W H5 fn
          rw [hH5] at hf1
          clear hb3 hxj hx hxl hbs
          repeat refine zs ?_
          refine x_draws (d_eff (by kernel_rfl) ?_)
          repeat refine zs ?_
          refine aop_callK rfl zv za hf1 ?_
          rintro r3 g6 ⟨b2, rfl, hb2, ob2, hk6⟩
          rw [← hH5] at hk6
          clear hf1 hld hb1
          have hb6 : g6.own.get g4.next = some (.cells [.int .i32 fn, .int .i32 tn, .int .i64 sn]) := by rw [hk6.same _ (by omega)]; exact hg5
          have hk6n := hk6.le
          obtain ⟨sa7, sc7, g7, happ7, os7, oe7, ap7, hk7, hn7, hs7, hf7⟩ := signApp (W := W) ((os4.keeps hkk).keeps hk6) ((oe4.keeps hkk).keeps hk6) hap4 ((hkG4.trans hkk).trans hk6) (Nat.le_refl _) ((hkG4.trans hkk).trans hk6).le ob2 (by have := hbsl.out; omega)
          have hb7 : g7.own.get g4.next = some (.cells [.int .i32 fn, .int .i32 tn, .int .i64 sn]) := by rw [hs7 _ (by omega) (fun y hy => by have := hsalt y hy; omega)]; exact hb6
          refine d_chk (by kernel_rfl) ?chk1 ?_
          case chk1 =>
            intro o ho
            simp only [List.mem_cons, List.not_mem_nil, or_false] at ho
            rcases ho with rfl | rfl | rfl | rfl | rfl | rfl <;> simp only [Chk, kindOf, dval, rop, opd, celsL, oneV, aadd, binV, isSh, intBin, scEq, keq, unV, fillL, oP, oA, oS, wantedA, BX, BL, BS, seval, *]
          refine aop_do zr ?_
          have hf2 := f113_ok W g7 tn
          refine d_chk (by kernel_rfl) ?chk2 ?_
          case chk2 =>
            intro o ho
            simp only [List.mem_cons, List.not_mem_nil, or_false] at ho
            rcases ho with rfl | rfl | rfl | rfl | rfl <;> simp only [Chk, kindOf, dval, rop, opd, celsL, oneV, aadd, binV, isSh, intBin, scEq, keq, unV, fillL, oP, oA, oS, wantedA, BX, BL, BS, seval, *]
          refine aop_callK rfl zv za hf2 ?_
          rintro r4 g8 ⟨b3, rfl, hb3, ob3, hk8⟩
          clear hf2
          have hb8 : g8.own.get g4.next = some (.cells [.int .i32 fn, .int .i32 tn, .int .i64 sn]) := by rw [hk8.same _ (by omega)]; exact hb7
          have hk8n := hk8.le
          obtain ⟨sa9, sc9, g9, happ9, os9, oe9, ap9, hk9, hn9, hs9, hf9⟩ := signApp (W := W) (os7.keeps hk8) (oe7.keeps hk8) ap7 (hk7.trans hk8) (Nat.le_refl _) (hk7.trans hk8).le ob3 (by rw [List.length_append, bytesN_len]; have := hbsl.out; omega)
          have hb9 : g9.own.get g4.next = some (.cells [.int .i32 fn, .int .i32 tn, .int .i64 sn]) := by rw [hs9 _ (by omega) (hf7 _ (by omega))]; exact hb8
          refine d_chk (by kernel_rfl) ?chk3 ?_
          case chk3 =>
            intro o ho
            simp only [List.mem_cons, List.not_mem_nil, or_false] at ho
            rcases ho with rfl | rfl <;> simp only [Chk, kindOf, dval, rop, opd, celsL, oneV, aadd, binV, isSh, intBin, scEq, keq, unV, fillL, oP, oA, oS, wantedA, BX, BL, BS, seval, *]
          refine aop_do zr ?_
          have hf3 := f113_ok W g9 sn
          refine d_chk (by kernel_rfl) ?chk4 ?_
          case chk4 =>
            intro o ho
            simp only [List.mem_cons, List.not_mem_nil, or_false] at ho
            rcases ho with rfl | rfl <;> simp only [Chk, kindOf, dval, rop, opd, celsL, oneV, aadd, binV, isSh, intBin, scEq, keq, unV, fillL, oP, oA, oS, wantedA, BX, BL, BS, seval, *]
          refine aop_callK rfl zv za hf3 ?_
          rintro r5 g10 ⟨b4, rfl, hb4, ob4, hk10⟩
          clear hf3
          obtain ⟨sa11, sc11, g11, happ11, os11, oe11, ap11, hk11, hn11, _, _⟩ := signApp (W := W) (os9.keeps hk10) (oe9.keeps hk10) ap9 (hk9.trans hk10) (Nat.le_refl _) (hk9.trans hk10).le ob4 (by rw [List.length_append, List.length_append, bytesN_len, bytesN_len]; have := hbsl.out; omega)
          refine d_chk (by kernel_rfl) (fun o ho => by cases ho) ?_
          refine aop_do zr ?_
          refine d_chk (by kernel_rfl) (fun o ho => by cases ho) ?_
          refine aop_do zr ?_
          refine d_end ?_
          repeat refine zs ?_
          exact ⟨es.length - (m + 1), by omega, m + 1, _, sa11, sc11, by omega, rfl, zv, zv, zv, zv, zv, zv, zv, zv, zv, zv, zv, zv, zv, zv, hk11, os11, oe11, ap11, hbs2⟩
        · have hmlI : ¬ (m : Int) < es.length := by omega
          have hsg : bs = sgn A cl j := by
            rw [hbs.out, List.take_of_length_le (by omega)]
            unfold sgn
            rw [hkd, ← hesE.out]; rfl
          have hmG4 : g4.own.get H0.next = some (.map (mapFrom strK 0 ss)) := by rw [hkG4.same _ (by omega)]; exact hmG
          have hx4 : Ow g4 (H0.next + 1) 1 (List.map numV ((nx ++ [-1]) ++ List.replicate (n - (j + 1)) 0)) := hx2.keeps hkG4
          have hkH4 : Keeps H0 g4 := hkG.trans hkG4
          have hbx4 : g4.own.get h.next = some (.cells [.slice fa n fc, .slice aa n ac]) := by rw [hkG4.same _ (by omega)]; exact hbxG
          obtain ⟨bb, rfl, rfl, hbb, obb⟩ : ∃ bb, sa = some ⟨bb, 0, some 0⟩ ∧ sc = 1 ∧ G.next ≤ bb ∧ Ow g4 bb 1 (List.map byteV bs) := by
            rcases os4 with ⟨_, _, hnil⟩ | ⟨b, e1, e2, e3, e4⟩
            · have h0 := congrArg List.length hnil
              rw [List.length_map, List.length_nil] at h0
              have h1 := hbsl.out
              exfalso; omega
            · exact ⟨b, e1, e2, e3, e4⟩
          have hbst := bytes_str (W := W) obb
          have hin : (some 0 : Option Nat).isNone = false := rfl
          have hfo : ∀ b : Bool, (false || b) = b := fun b => rfl
          obtain ⟨q0, b0, hlk, hlk1, hlk2⟩ := lookIx keyedStr hmG4 bs
          simp only [strK] at hlk
          have hmlen : (mapFrom strK 0 ss).length = ss.length := mapFrom_len _ _ _
          have hset2 : ∀ q : Int, ((nx ++ [-1]) ++ List.replicate (n - (j + 1)) 0).set j q = (nx ++ [q]) ++ List.replicate (n - (j + 1)) 0 := fun q => by
            rw [List.append_assoc, List.set_append_right _ _ (by have := hnl.out; omega)]
            have : j - nx.length = 0 := by have := hnl.out; omega
            rw [this]; simp
          replace hsg : Hid (bs = sgn A cl j) := hsg
          repeat refine zs ?_
          refine c_mid (fun σ => ∃ ss2, ∃ q : Nat, Hid (clsAfter A cl (j + 1) = (ss2, nx ++ [(q : Int)])) ∧ eget σ.e 1 = .int .i64 limit ∧ eget σ.e 2 = .pointer (some ⟨h.next, 0, some 0⟩) ∧ eget σ.e 7 = .slice (some ⟨bc, 0, some 0⟩) n 1 ∧ eget σ.e 9 = .int .i64 (cnt : Nat) ∧ eget σ.e 10 = .map (some H0.next) ∧
            eget σ.e 11 = .slice (some ⟨H0.next + 1, 0, some 0⟩) n 1 ∧ eget σ.e 12 = .int .i64 (j : Nat) ∧ eget σ.e 17 = .int .i64 (q : Nat) ∧ eget σ.e 53 = .slice (some ⟨bc, 0, some 0⟩) n 1 ∧ eget σ.e 54 = .int .i64 n ∧ eget σ.e 55 = .int .i64 (j : Nat) ∧ Keeps H0 σ.h ∧ σ.h.own.get H0.next = some (.map (mapFrom strK 0 ss2)) ∧
            Ow σ.h (H0.next + 1) 1 (List.map numV ((nx ++ [-1]) ++ List.replicate (n - (j + 1)) 0))) ?key ?rest
          case key =>
            cases b0 with
            | true =>
              obtain ⟨hmem, rfl⟩ := hlk1 rfl
              have hca2 : Hid (clsAfter A cl (j + 1) = (ss, nx ++ [((ixOf ss bs : Nat) : Int)])) := by
                show _ = _
                rw [clsAfter_succ, hca.out]; unfold clsStepQ
                rw [if_neg (by rw [hkd]; exact hkpos), ← hsg.out]; simp only [hmem, if_true]
              clear hlk hlk1 hlk2 hmem
              refine c_isF rfl ?_
              repeat refine zs ?_
              exact ⟨rfl, ss, _, hca2, zv, zv, zv, zv, zv, zv, zv, zv, zv, zv, zv, hkH4, hmG4, hx4⟩
            | false =>
              have hmem := hlk2 rfl
              have hca2 : Hid (clsAfter A cl (j + 1) = (ss ++ [bs], nx ++ [((ss.length : Nat) : Int)])) := by
                show _ = _
                rw [clsAfter_succ, hca.out]; unfold clsStepQ
                rw [if_neg (by rw [hkd]; exact hkpos), ← hsg.out]; simp only [hmem, if_false, ixOf_out hmem]
              have hmu := mapUpd_out keyedStr hmG4 hmem
              simp only [strK] at hmu
              have hkH5 : Keeps H0 (g4.put H0.next (.map (mapFrom strK 0 (ss ++ [bs])))) := hkH4.put (Nat.le_refl _) _
              have hm5 : (g4.put H0.next (.map (mapFrom strK 0 (ss ++ [bs])))).own.get H0.next = some (.map (mapFrom strK 0 (ss ++ [bs]))) := by rw [AHeap.put_get, if_pos rfl]
              have hx5 : Ow (g4.put H0.next (.map (mapFrom strK 0 (ss ++ [bs])))) (H0.next + 1) 1 (List.map numV ((nx ++ [-1]) ++ List.replicate (n - (j + 1)) 0)) := hx4.same (by rw [AHeap.put_get, if_neg (by omega)]) (Nat.le_refl _)
              clear hlk hlk1 hlk2 hmem
              refine c_isT rfl ?_
              repeat refine zs ?_
              exact ⟨rfl, ss ++ [bs], _, hca2, zv, zv, zv, zv, zv, zv, zv, zv, zv, zv, zv, hkH5, hm5, hx5⟩
          case rest =>
            rintro ⟨e', g5⟩ ⟨ss2, q, hca2, p1, p2, p7, p9, p10, p11, p12, p17, p53, p54, p55, hkH5, hm5, hx5⟩
            dsimp only at p1 p2 p7 p9 p10 p11 p12 p17 p53 p54 p55 hkH5 hm5 hx5
            clear e1 e2 e7 e9 e10 e11 e12 e14 e53 e54 e55 e75 e76 e77 hlk hlk1 hlk2 hbst hmG4 hx4 hkH4
            obtain ⟨C3, hC3, hble3, C4, hsp3, hx6⟩ := hx5.set1 (f := numV) (fun x => rfl) (i := j) (by simp; have := hnl.out; omega) (q : Int)
            rw [hset2] at hx6
            simp only [numV] at hsp3
            have hkH6 : Keeps H0 (g5.put (H0.next + 1) (.cells C4)) := hkH5.put (by omega) _
            have hm6 : (g5.put (H0.next + 1) (.cells C4)).own.get H0.next = some (.map (mapFrom strK 0 ss2)) := by rw [AHeap.put_get, if_neg (by omega)]; exact hm5
            refine t_normal ?_
            repeat refine zs ?_
            exact ⟨n - (j + 1), by omega, j + 1, ss2, nx ++ [(q : Int)], by omega, rfl, zv, zv, zv, zv, zv, zv, zv, zv, zv, hkH6, hm6, hx6, hca2⟩
    · have hjnI : ¬ (j : Int) < n := by omega
      have hjn' : j = n := by omega
      rw [hjn'] at hAf
      rw [hjn', Nat.sub_self, List.replicate_zero, List.append_nil] at hxg
      obtain ⟨hR2, hcle, hfin⟩ := refine_ok w hR (by rw [← hnn.out]; exact hn) (by rw [← hnn.out]; exact hAf)
      have hmlen : (mapFrom strK 0 ss).length = ss.length := mapFrom_len _ _ _
      have hng : ¬ ((ss.length : Nat) : Int) > limit := by have := hAf.sz; omega
      have hssn : ss.length ≤ n := hAf.sz
      replace hnl : True := trivial
      clear hAf hjn'
      by_cases heq : cnt = ss.length
      · have hd : decide (((ss.length : Nat) : Int) = (cnt : Int)) = true := by rw [heq]; simp
        have hC := hfin heq
        have hfinal : (∃ a c cl, Value.tuple #[.slice (some ⟨H0.next + 1, 0, some 0⟩) n 1, .bool true] = .tuple #[.slice a n c, .bool true] ∧ OwnV h.next g a c 1 (List.map numV cl) ∧ Cls A cl) ∧ Keeps h g :=
          ⟨⟨_, _, nx, rfl, .inr ⟨H0.next + 1, rfl, rfl, by omega, hxg⟩, hC⟩, hk.trans hkg⟩
        clear heq hfin hcle hR2
        repeat refine zs ?_
        refine ⟨.inr rfl, _, rfl, ?_⟩
        simp only [resOf, rop, opd, celsL, oneV, aadd, binV, isSh, intBin, scEq, keq, unV, fillL, oP, oA, oS, wantedA, BX, BL, BS, seval]
        exact hfinal
      · have hd : ¬ (((ss.length : Nat) : Int) = (cnt : Int)) := by omega
        have hlt2 : cnt < ss.length := by omega
        have hbc2 : h.next < H0.next + 1 := by omega
        have hkf := hk.trans hkg
        clear heq hfin hcle
        repeat refine zs ?_
        exact ⟨n + 1 - ss.length, by omega, nx, H0.next + 1, ss.length, rfl, hssn, zv, zv, zv, zv, hbxg, hkf, hxg, hbc2, hR2⟩
end Go.Proofs.YtlipmjpapkfaeaaGreatDoor.Fn
end
section
set_option linter.unusedSimpArgs false
set_option linter.unusedVariables false
set_option maxRecDepth 100000
namespace Go.Proofs.YtlipmjpapkfaeaaGreatDoor.Fn
open Go Go.Mach Go.RowKit Go.Proofs
attribute [local irreducible] AOps WPX DOps thenS blockS AOp GOps CPick
def mapOf (st : List (Int × Int)) : List (Value × Value) := st.map fun p => (numK p.1, numK p.2)
def isK (k : Int) (p : Int × Int) : Bool := decide (p.1 = k)
theorem findK_st (k : Int) : ∀ (st : List (Int × Int)) (j : Nat), (∃ i p, st[i]? = some p ∧ p.1 = k ∧ st.find? (isK k) = some p ∧ findK (.sc .i) (numK k) (mapOf st) j = some (some (j + i, numK p.2))) ∨ ((∀ p ∈ st, p.1 ≠ k) ∧ findK (.sc .i) (numK k) (mapOf st) j = some none)
  | [], j => .inr ⟨fun p hp => by simp at hp, rfl⟩
  | (a, q) :: st, j => by
    have e : findK (.sc .i) (numK k) (mapOf ((a, q) :: st)) j = if k = a then some (some (j, numK q)) else findK (.sc .i) (numK k) (mapOf st) (j + 1) := by
      simp only [mapOf, List.map_cons, findK, keyedNum.eq]
      by_cases h : k = a <;> simp [h]
    by_cases h : k = a
    · left
      exact ⟨0, (a, q), rfl, h.symm, by simp [isK, h], by rw [e, if_pos h]; rfl⟩
    · rw [if_neg h] at e
      have h' : ¬ a = k := fun e => h e.symm
      rcases findK_st k st (j + 1) with ⟨i, p, h1, h2, h3, h4⟩ | ⟨h1, h2⟩
      · left
        refine ⟨i + 1, p, by simpa using h1, h2, by rw [List.find?_cons_of_neg (by simp [isK, h'])]; exact h3, ?_⟩
        rw [e, h4, show j + 1 + i = j + (i + 1) by omega]
      · right
        refine ⟨fun p hp => ?_, by rw [e, h2]⟩
        rcases List.mem_cons.1 hp with rfl | hp
        · exact h'
        · exact h1 p hp
structure StM (cl : List Int) (i : Nat) (st : List (Int × Int)) : Prop where
  snd : ∀ p ∈ st, ∃ q : Nat, q < i ∧ p.2 = q ∧ cl[q]? = some p.1
  all : ∀ (q : Nat) k, q < i → cl[q]? = some k → ∃ p ∈ st, p.1 = k
theorem StM.upd {cl : List Int} {i : Nat} {st : List (Int × Int)} (S : StM cl i st) {h : AHeap} {b : Nat} (hb : h.own.get b = some (.map (mapOf st))) {k : Int} (hk : cl[i]? = some k) :
    ∃ st', mapUpdH (.sc .i) h (.map (some b)) (.int .i64 k) (.int .i64 i) = some (h.put b (.map (mapOf st'))) ∧ StM cl (i + 1) st' := by
  rcases findK_st k st 0 with ⟨j, p, h1, h2, h3, h4⟩ | ⟨h1, h2⟩
  · refine ⟨st.set j (k, (i : Int)), ?_, fun q hq => ?_, fun q k' hq hk' => ?_⟩
    · unfold mapUpdH
      have hg : goodKey (.sc .i) (.int .i64 k) = true := rfl
      have h4' : findK (.sc .i) (.int .i64 k) (mapOf st) 0 = some (some (j, numK p.2)) := by rw [Nat.zero_add] at h4; exact h4
      simp only [hg, cond_true, hb, h4']
      congr 3
      simp [mapOf, numK, List.map_set]
    · rcases List.mem_or_eq_of_mem_set hq with hq | rfl
      · obtain ⟨q', a, b, c⟩ := S.snd q hq; exact ⟨q', by omega, b, c⟩
      · exact ⟨i, by omega, rfl, hk⟩
    · have hjl := (List.getElem?_eq_some_iff.1 h1).1
      have hself : (k, (i : Int)) ∈ st.set j (k, (i : Int)) := List.mem_iff_getElem?.2 ⟨j, by rw [List.getElem?_set]; simp [hjl]⟩
      by_cases hqi : q < i
      · obtain ⟨p', hp', e⟩ := S.all q k' hqi hk'
        by_cases hkk : k' = k
        · exact ⟨_, hself, hkk.symm⟩
        · obtain ⟨m, hm⟩ := List.mem_iff_getElem?.1 hp'
          refine ⟨p', List.mem_iff_getElem?.2 ⟨m, ?_⟩, e⟩
          rw [List.getElem?_set, if_neg]
          · exact hm
          · intro e2; subst e2; rw [h1] at hm; cases hm; exact hkk (e.symm.trans h2)
      · obtain rfl : q = i := by omega
        rw [hk] at hk'; cases hk'
        exact ⟨_, hself, rfl⟩
  · refine ⟨st ++ [(k, (i : Int))], ?_, fun q hq => ?_, fun q k' hq hk' => ?_⟩
    · unfold mapUpdH
      have hg : goodKey (.sc .i) (.int .i64 k) = true := rfl
      have h2' : findK (.sc .i) (.int .i64 k) (mapOf st) 0 = some none := h2
      simp only [hg, cond_true, hb, h2']
      congr 3
      simp [mapOf, numK]
    · rcases List.mem_append.1 hq with hq | hq
      · obtain ⟨q', a, b, c⟩ := S.snd q hq; exact ⟨q', by omega, b, c⟩
      · simp at hq; subst hq; exact ⟨i, by omega, rfl, hk⟩
    · by_cases hqi : q < i
      · obtain ⟨p', hp', e⟩ := S.all q k' hqi hk'; exact ⟨p', List.mem_append_left _ hp', e⟩
      · obtain rfl : q = i := by omega
        rw [hk] at hk'; cases hk'
        exact ⟨(k, (q : Int)), by simp, rfl⟩
def repOf (st : List (Int × Int)) (k : Int) : Nat := ((st.find? (isK k)).map fun p => p.2.toNat).getD 0
theorem StM.rep {cl : List Int} {n : Nat} {st : List (Int × Int)} (S : StM cl n st) (hl : cl.length = n) {k : Int} (hk : ∃ q : Nat, q < n ∧ cl.getD q (-1) = k) : repOf st k < n ∧ cl.getD (repOf st k) (-1) = k ∧
    ∀ {h : AHeap} {b : Nat}, h.own.get b = some (.map (mapOf st)) → lookupV (.sc .i) (.int .i64 0) h (.map (some b)) (.int .i64 k) false = some (.int .i64 (repOf st k : Nat)) := by
  obtain ⟨q, hq, hqk⟩ := hk
  have hqs : cl[q]? = some k := by
    have : q < cl.length := by omega
    simp [List.getD, this] at hqk ⊢; exact hqk
  rcases findK_st k st 0 with ⟨j, p, h1, h2, h3, h4⟩ | ⟨h1, h2⟩
  · obtain ⟨q', a, b, c⟩ := S.snd p (List.mem_of_getElem? h1)
    have hrep : repOf st k = q' := by unfold repOf; rw [h3]; simp [b]
    rw [hrep]
    refine ⟨a, by simp [List.getD, c, h2], fun {h} {bb} hb => ?_⟩
    unfold lookupV
    have hg : goodKey (.sc .i) (.int .i64 k) = true := rfl
    have h4' : findK (.sc .i) (.int .i64 k) (mapOf st) 0 = some (some (j, numK p.2)) := by rw [Nat.zero_add] at h4; exact h4
    simp only [hg, cond_true, hb, h4', numK, b, cond_false]
  · obtain ⟨p, hp, e⟩ := S.all q k hq hqs
    exact absurd e (h1 p hp)
set_option maxHeartbeats 4000000 in
theorem f79_ok (W : World) (h : AHeap) (b bm b8 : Nat) (A : Aut) (vf va : Value) (vs : List Value) (k : Int) (q : Nat) (hb : h.own.get b = some (.cells [vf, va])) (hA : AutoV W h (.agg #[vf, va]) A vf va vs) (h8 : h.own.get b8 = some (.cells [.map (some bm)]))
    (hlk : lookupV (.sc .i) (.int .i64 0) h (.map (some bm)) (.int .i64 k) false = some (.int .i64 (q : Nat))) (hq : q < A.fin.length) :
    ACalls Tryz.prog W 79 [.int .i64 k, .pointer (some ⟨b, 0, some 0⟩), .pointer (some ⟨b8, 0, some 0⟩)] h (fun r h' => r = .bool (A.fin.getD q false) ∧ Keeps h h') := by
  obtain ⟨_, hf, ha, hl, he⟩ := hA
  obtain ⟨fa, fc, hfs⟩ := hf.len
  rw [List.length_map] at hfs
  subst hfs
  refine ACalls_ofX hmix c79 (Nat.le_of_ble_eq_true rfl) ?_
  unfold r79
  dsimp only [Rc.t, Rc.u, Rc.v, Rc.o, Rc.i, Rc.p, Rc.q, Rc.s, Rc.b, Rc.k, Rc.g, Rc.S, Rc.D]
  simp only [envOf3]
  have hxm : (A.fin.map fun b => [Value.bool b])[q]? = some [.bool A.fin[q]] := by simp [hq]
  obtain ⟨a, ha1, _, ha3⟩ := hf.at hxm
  have hrd := (ha3 0 (.bool A.fin[q]) rfl).1
  have haa : aadd a 0 = a := rfl
  rw [haa] at hrd
  have hv : A.fin.getD q false = A.fin[q] := by simp [hq]
  rw [hv]
  clear ha3 hxm hv
  repeat refine zs ?_
  refine ⟨.inr rfl, _, rfl, ?_, Keeps.refl h⟩
  simp only [resOf, rop, opd, celsL, oneV, aadd, binV, isSh, intBin, scEq, keq, unV, fillL, oP, oA, oS, wantedA, BX, BL, BS, seval]
set_option maxHeartbeats 4000000 in
theorem f80_ok (W : World) (h : AHeap) (b bm b8 b6 : Nat) (A : Aut) (vf va : Value) (vs : List Value) (k : Int) (q : Nat) (cl : List Int) (vc : Value) (hb : h.own.get b = some (.cells [vf, va])) (hA : AutoV W h (.agg #[vf, va]) A vf va vs) (h8 : h.own.get b8 = some (.cells [.map (some bm)]))
    (h6 : h.own.get b6 = some (.cells [vc])) (hc : Sl W h 1 vc (cl.map numV)) (hcl : cl.length = A.fin.length) (w : Wf A) (hbl : ∀ l ∈ A.arcs, l.length < 1048576)
    (hlk : lookupV (.sc .i) (.int .i64 0) h (.map (some bm)) (.int .i64 k) false = some (.int .i64 (q : Nat))) (hq : q < A.fin.length) :
    ACalls Tryz.prog W 80 [.int .i64 k, .pointer (some ⟨b, 0, some 0⟩), .pointer (some ⟨b8, 0, some 0⟩), .pointer (some ⟨b6, 0, some 0⟩)] h (fun r h' => (∃ a c, r = .slice a (edgC A cl q).length c ∧ OwnV h.next h' a c 3 ((edgC A cl q).map arcV)) ∧ Keeps h h') := by
  obtain ⟨_, hf, ha, hl, he⟩ := hA
  obtain ⟨aa, ac, has⟩ := ha.len
  rw [List.length_map] at has
  subst has
  refine ACalls_ofX hmix c80 (Nat.le_of_ble_eq_true rfl) ?_
  unfold r80
  dsimp only [Rc.t, Rc.u, Rc.v, Rc.o, Rc.i, Rc.p, Rc.q, Rc.s, Rc.b, Rc.k, Rc.g, Rc.S, Rc.D]
  simp only [envOf4]
  have hll := getD_arcs w hq
  obtain ⟨l, hl2⟩ : ∃ l, l = A.arcs.getD q [] := ⟨_, rfl⟩
  rw [← hl2] at hll
  have hlm := List.mem_of_getElem? hll
  obtain ⟨x, hxs⟩ : ∃ x, vs[q]? = some x := ⟨_, List.getElem?_eq_getElem (show q < vs.length by rw [hl, w.len]; exact hq)⟩
  have hxm : (vs.map fun x => [x])[q]? = some [x] := by simp [hxs]
  obtain ⟨a, ha1, _, ha3⟩ := ha.at hxm
  have hrd := (ha3 0 x rfl).1
  have haa : aadd a 0 = a := rfl
  rw [haa] at hrd
  have h81 := f81_ok W h x vc l cl (he q x l hxs hll) hc (by have := hbl l hlm; omega) (fun y hy => (w.range hlm hy).1) (fun y hy => by have := (w.range hlm hy).2; omega)
  have hed : byClassM cl l = edgC A cl q := by rw [hl2]; rfl
  rw [hed] at h81
  clear ha3 hxm hed hl2 hl
  repeat refine zs ?_
  refine x_draws (d_eff (by kernel_rfl) ?_)
  repeat refine zs ?_
  refine aop_callK rfl zv za h81 ?_
  rintro r1 h1 ⟨⟨la, lc, rfl, ho⟩, hk1⟩
  refine d_pure (by kernel_rfl) ?_
  repeat refine zs ?_
  refine ⟨.inr rfl, _, rfl, ⟨la, lc, ?_, ho⟩, hk1⟩
  simp only [resOf, rop, opd, celsL, oneV, aadd, binV, isSh, intBin, scEq, keq, unV, fillL, oP, oA, oS, wantedA, BX, BL, BS, seval]
end Go.Proofs.YtlipmjpapkfaeaaGreatDoor.Fn
end
