/- corporaref20.pairs (F46) in the machine: the complete automaton of the pairs of states. No condition but sizes.
Merged from 2 texts. -/
import Derived.Test.YtlipmjpapkfaeaaGreatDoorZD29
import Derived.Test.YtlipmjpapkfaeaaGreatDoorZD13
section
set_option linter.unusedSimpArgs false
set_option linter.unusedVariables false
set_option maxRecDepth 100000
namespace Go.Proofs.YtlipmjpapkfaeaaGreatDoor.Fn
open Go Go.Mach Go.RowKit Go.Proofs
attribute [local irreducible] AOps WPX DOps thenS blockS AOp GOps CPick
structure TabV (W : World) (h : AHeap) (pv fv nv : Value) (vs : List Value) (ps : List Int) (F : List Bool) (rows : List (List Int)) : Prop where
  pts : Sl W h 1 pv (ps.map runeV)
  fin : Sl W h 1 fv (F.map boolV)
  nxt : LsV W h 1 numV nv vs rows
theorem TabV.keeps {W : World} {h h' : AHeap} {pv fv nv : Value} {vs : List Value} {ps : List Int} {F : List Bool} {rows : List (List Int)} (t : TabV W h pv fv nv vs ps F rows) (k : Keeps h h') : TabV W h' pv fv nv vs ps F rows :=
  ⟨t.pts.keeps k, t.fin.keeps k, t.nxt.keeps k⟩
def PairR (W : World) (A B : Aut) (op : Int) (r : Value) (h' : AHeap) : Prop :=
  ∃ ps ks rows pv fv nv vs, r = .agg #[pv, fv, nv] ∧ TabV W h' pv fv nv vs ps (ks.map (finP A B op)) rows ∧ Pts ps ∧ (∀ l ∈ A.arcs, ∀ x ∈ l, CutAt ps (rngOf x)) ∧ (∀ l ∈ B.arcs, ∀ x ∈ l, CutAt ps (rngOf x)) ∧ ps.length ≤ 4194305 ∧ PairT A B ps ks rows ks.length ∧ ks.length ≤ 66049
theorem flat_bound {α : Type} {m : Nat} : ∀ (ls : List (List α)), (∀ l ∈ ls, l.length ≤ m) → ls.flatten.length ≤ ls.length * m
  | [], _ => by simp
  | l :: ls, h => by
    have h1 := h l (by simp)
    have h2 := flat_bound ls fun l hl => h l (by simp [hl])
    rw [List.flatten_cons, List.length_append, List.length_cons, Nat.succ_mul]; omega
theorem rngs_ok {A : Aut} (w : Wf A) : ∀ l ∈ rngsA A, ∀ x ∈ l, (0 ≤ x.1 ∧ x.1 ≤ 1114111) ∧ 0 ≤ x.2 ∧ x.2 ≤ 1114111 := fun l hl x hx => by
  obtain ⟨l0, h0, rfl⟩ := List.mem_map.1 hl
  obtain ⟨y, hy, rfl⟩ := List.mem_map.1 hx
  have := (w.range h0 hy).1
  simp only [rngOf]; omega
theorem aload3 {W : World} {h : AHeap} {b : Nat} {x y z : Value} (hb : h.own.get b = some (.cells [x, y, z])) : aloadN W h ⟨b, 0, some 0⟩ 3 = some [x, y, z] := by simp [aloadN, aload1, aadd, hb]
set_option maxHeartbeats 16000000 in
theorem f46_ok (W : World) (h : AHeap) (vA vB : Value) (A B : Aut) (vf va vf' va' : Value) (ws ws' : List Value) (hA : AutoV W h vA A vf va ws) (hB : AutoV W h vB B vf' va' ws') (wA : Wf A) (wB : Wf B)
    (hA0 : 0 < A.fin.length) (hB0 : 0 < B.fin.length) (hnA : A.fin.length ≤ 256) (hnB : B.fin.length ≤ 256) (hbA : ∀ l ∈ A.arcs, l.length ≤ 4096) (hbB : ∀ l ∈ B.arcs, l.length ≤ 4096) (op : Int) :
    ACalls Tryz.prog W 46 [vA, vB, .int .i64 op] h (fun r h' => PairR W A B op r h' ∧ Keeps h h') := by
  have hA' := hA
  have hB' := hB
  obtain ⟨rfl, hf, ha, hl, he⟩ := hA
  obtain ⟨rfl, hf2, ha2, hl2, he2⟩ := hB
  obtain ⟨fa, fc, hfs⟩ := hf.len
  obtain ⟨aa, ac, has⟩ := ha.len
  obtain ⟨fa2, fc2, hfs2⟩ := hf2.len
  obtain ⟨aa2, ac2, has2⟩ := ha2.len
  rw [List.length_map] at hfs has hfs2 has2
  rw [hl, wA.len] at has
  rw [hl2, wB.len] at has2
  obtain ⟨n1, hn1⟩ : ∃ n1, n1 = A.fin.length := ⟨_, rfl⟩
  obtain ⟨n2, hn2⟩ : ∃ n2, n2 = B.fin.length := ⟨_, rfl⟩
  rw [← hn1] at hfs has
  rw [← hn2] at hfs2 has2
  subst hfs has hfs2 has2
  have hn1' : 0 < n1 ∧ n1 ≤ 256 := by omega
  have hn2' : 0 < n2 ∧ n2 ≤ 256 := by omega
  replace hn1 : Hid (n1 = A.fin.length) := hn1
  replace hn2 : Hid (n2 = B.fin.length) := hn2
  refine ACalls_ofX hmix c46 (Nat.le_of_ble_eq_true rfl) ?_
  unfold r46
  dsimp only [Rc.t, Rc.u, Rc.v, Rc.o, Rc.i, Rc.p, Rc.q, Rc.s, Rc.b, Rc.k, Rc.g, Rc.S, Rc.D]
  simp only [envOf3]
  obtain ⟨H0, hH0⟩ : ∃ H0, H0 = ((h.new (.cells [.slice fa n1 fc, .slice aa n1 ac])).new (.cells [.slice fa2 n2 fc2, .slice aa2 n2 ac2])).new (.cells [.slice none 0 0, .slice none 0 0, .slice none 0 0]) := ⟨_, rfl⟩
  have hk0 : Keeps h H0 := by rw [hH0]; exact (((Keeps.refl h).new _).new _).new _
  have hn0 : H0.next = h.next + 3 := by rw [hH0]; rfl
  have gA : H0.own.get h.next = some (.cells [.slice fa n1 fc, .slice aa n1 ac]) := by rw [hH0, AHeap.new_get, AHeap.new_next, AHeap.new_next, if_neg (by omega), AHeap.new_get, AHeap.new_next, if_neg (by omega), AHeap.new_get, if_pos rfl]
  have gB : H0.own.get (h.next + 1) = some (.cells [.slice fa2 n2 fc2, .slice aa2 n2 ac2]) := by rw [hH0, AHeap.new_get, AHeap.new_next, AHeap.new_next, if_neg (by omega), AHeap.new_get, AHeap.new_next, if_pos rfl]
  have gR : H0.own.get (h.next + 2) = some (.cells [.slice none 0 0, .slice none 0 0, .slice none 0 0]) := by rw [hH0, AHeap.new_get, AHeap.new_next, AHeap.new_next, if_pos rfl]
  obtain ⟨H1, hH1⟩ : ∃ H1, H1 = H0.new (.cells [.slice fa n1 fc, .slice aa n1 ac, .slice fa2 n2 fc2, .slice aa2 n2 ac2]) := ⟨_, rfl⟩
  have hk1 : Keeps H0 H1 := by rw [hH1]; exact (Keeps.refl H0).new _
  have oSl : Ow H1 (h.next + 3) 2 [[.slice fa n1 fc, .slice aa n1 ac], [.slice fa2 n2 fc2, .slice aa2 n2 ac2]] :=
    ⟨by rw [hH1, AHeap.new_get, hn0, if_pos rfl]; rfl, fun e he => by simp at he; rcases he with rfl | rfl <;> rfl, by rw [hH1, AHeap.new_next]; omega⟩
  have hkA : Keeps h H1 := hk0.trans hk1
  have hRl : ([A, B].flatMap rngsA).length = n1 + n2 := by simp [rngsA_len, wA.len, wB.len, hn1.out, hn2.out]
  have hq1 : ∀ A2 ∈ [A, B], ∀ l ∈ A2.arcs, l.length < 1073741824 := fun A2 hA2 l hm => by
    simp at hA2
    rcases hA2 with rfl | rfl
    · have := hbA l hm; omega
    · have := hbB l hm; omega
  have hq2 : ∀ A2 ∈ [A, B], A2.arcs.length < 1073741824 := fun A2 hA2 => by
    simp at hA2
    rcases hA2 with rfl | rfl
    · rw [wA.len]; omega
    · rw [wB.len]; omega
  have h87 := f87_ok W H1 (some ⟨h.next + 3, 0, some 0⟩) 2 2 [A, B] [(.slice fa n1 fc, .slice aa n1 ac, ws), (.slice fa2 n2 fc2, .slice aa2 n2 ac2, ws')] rfl rfl oSl.sl
    (fun i ct A2 hc hA2 => by
      match i, hc, hA2 with
      | 0, hc, hA2 => simp at hc hA2; subst hc hA2; exact hA'.keeps hkA
      | 1, hc, hA2 => simp at hc hA2; subst hc hA2; exact hB'.keeps hkA
      | i + 2, hc, hA2 => simp at hc)
    (by decide) hq1 hq2 (by rw [hRl]; omega)
  have hlA := aload2 (W := W) gA
  have hlB := aload2 (W := W) gB
  rw [hH1, hH0] at h87
  rw [hH0] at hlA hlB
  repeat refine zs ?_
  refine ops_callK zv za h87 ?_
  rintro r1 h1 ⟨⟨a1, c1, vs1, g1, rfl, hL1⟩, hk2⟩
  rw [← hH0, ← hH1] at hk2
  clear h87 hlA hlB
  have hnx1 : h.next + 3 ≤ h1.next := by have := hk1.le; have := hk2.le; omega
  have hvl1 : vs1.length = n1 + n2 := by rw [hL1.len, hRl]
  have hfl : ([A, B].flatMap rngsA).flatten.length ≤ (n1 + n2) * 4096 := by
    rw [← hRl]
    refine flat_bound _ fun l hl => ?_
    simp only [List.flatMap_cons, List.flatMap_nil, List.append_nil] at hl
    rcases List.mem_append.1 hl with hl | hl
    · obtain ⟨l0, h0, rfl⟩ := List.mem_map.1 hl; rw [List.length_map]; exact hbA l0 h0
    · obtain ⟨l0, h0, rfl⟩ := List.mem_map.1 hl; rw [List.length_map]; exact hbB l0 h0
  have h86 := f86_ok W h1 a1 vs1.length c1 vs1 _ hL1.read rfl
    (fun l hl => by
      simp only [List.flatMap_cons, List.flatMap_nil, List.append_nil] at hl
      rcases List.mem_append.1 hl with hl | hl
      · exact rngs_ok wA l hl
      · exact rngs_ok wB l hl)
    (by omega) (fun l hl => by
      simp only [List.flatMap_cons, List.flatMap_nil, List.append_nil] at hl
      rcases List.mem_append.1 hl with hl | hl
      · obtain ⟨l0, h0, rfl⟩ := List.mem_map.1 hl; rw [List.length_map]; have := hbA l0 h0; omega
      · obtain ⟨l0, h0, rfl⟩ := List.mem_map.1 hl; rw [List.length_map]; have := hbB l0 h0; omega) (by omega)
  repeat refine zs ?_
  refine ops_callK zv za h86 ?_
  rintro r2 h2 ⟨⟨ps, pa, pc, rfl, hop, hP, hcut, hpl⟩, hk3⟩
  clear h86
  have hcA : ∀ l ∈ A.arcs, ∀ x ∈ l, CutAt ps (rngOf x) := fun l hl x hx => hcut (l.map rngOf) (by simp [rngsA]; exact .inl ⟨l, hl, rfl⟩) _ (List.mem_map.2 ⟨x, hx, rfl⟩)
  have hcB : ∀ l ∈ B.arcs, ∀ x ∈ l, CutAt ps (rngOf x) := fun l hl x hx => hcut (l.map rngOf) (by simp [rngsA]; exact .inr ⟨l, hl, rfl⟩) _ (List.mem_map.2 ⟨x, hx, rfl⟩)
  have hplen : ps.length ≤ 4194305 := by omega
  have hk02 : Keeps H0 h2 := (hk1.trans hk2).trans hk3
  have hnx2 : h.next + 3 ≤ h2.next := by have := hk02.le; omega
  have gA2 : h2.own.get h.next = some (.cells [.slice fa n1 fc, .slice aa n1 ac]) := by rw [hk02.same _ (by omega)]; exact gA
  have gB2 : h2.own.get (h.next + 1) = some (.cells [.slice fa2 n2 fc2, .slice aa2 n2 ac2]) := by rw [hk02.same _ (by omega)]; exact gB
  have gR2 : h2.own.get (h.next + 2) = some (.cells [.slice none 0 0, .slice none 0 0, .slice none 0 0]) := by rw [hk02.same _ (by omega)]; exact gR
  obtain ⟨H4, hH4⟩ : ∃ H4, H4 = ((h2.new (.cells [.slice none 0 0, .slice none 0 0, .slice none 0 0])).put h2.next (.cells [.slice pa ps.length pc, .slice none 0 0, .slice none 0 0])).new (.cells [.int .i64 0, .int .i64 0]) := ⟨_, rfl⟩
  have hk4 : Keeps h2 H4 := by rw [hH4]; exact (((Keeps.refl h2).new _).put (by omega) _).new _
  have hn4 : H4.next = h2.next + 2 := by rw [hH4]; rfl
  have gt4 : H4.own.get h2.next = some (.cells [.slice pa ps.length pc, .slice none 0 0, .slice none 0 0]) := by rw [hH4, AHeap.new_get, AHeap.put_next, AHeap.new_next, if_neg (by omega), AHeap.put_get, if_pos rfl]
  have T0 : T3 W (h2.next + 1) (fun i => i < h2.next + 1) H4 2 (some ⟨h2.next + 1, 0, some 0⟩) 2 (([((0 : Int), (0 : Int))]).map pairV) none 0 ((([((0 : Int), (0 : Int))]).take 0).map fun p => boolV (finP A B op p)) 1 numV none 0 [] [] AHeap.empty none 0 [] := by
    refine ⟨by omega, .inr ⟨h2.next + 1, rfl, rfl, Nat.le_refl _, ?_, fun e he => by simp at he; subst he; rfl, by omega⟩, OwnV.nil _ _ _, LL.nil _ _ _, OwnV.nil _ _ _, Apart.none_r _, Apart.none_r _, Apart.none_l _, Apart.none_l _, Apart.none_l _, Apart.none_l _, fun x hx => rfl, fun x hx => (by cases hx), fun x hx => (by cases hx), fun i hi => ⟨by omega, fun x hx => by cases hx; show h2.next + 1 ≠ i; omega, fun x hx => (by cases hx), fun x hx => (by cases hx), fun x hx => (by cases hx), rfl⟩⟩
    rw [hH4, AHeap.new_get, AHeap.put_next, AHeap.new_next, if_pos (by omega)]; rfl
  have hP4 : PairT A B ps [(0, 0)] [] 0 := ⟨rfl, by simp, fun p hp => by simp at hp; subst hp; exact ⟨⟨by decide, by omega⟩, by decide, by omega⟩, rfl, fun j p row hj hrow => by simp at hrow⟩
  have hk2t : Keeps h h2 := hk0.trans hk02
  clear hcut hRl hfl hL1 hvl1 oSl hk1 hk2 hk3 hk02 gA gB gR hpl hk0 hn0 hkA hl hl2 hn4 hq1 hq2
  rw [hH4] at T0 gt4 hk4
  clear hH4
  repeat refine zs ?_
  refine WPX.loop hmix (fun k σ => ∃ (i : Nat) (ks : List (Int × Int)) (rows : List (List Int)) (vs : List Value) (ka : Option Addr) (kc : Nat) (ya : Option Addr) (yc : Nat) (na : Option Addr) (nc : Nat) (g : AHeap), i ≤ ks.length ∧ k = 66050 - i ∧
    eget σ.e 2 = .int .i64 op ∧ eget σ.e 3 = .pointer (some ⟨h.next, 0, some 0⟩) ∧ eget σ.e 4 = .pointer (some ⟨h.next + 1, 0, some 0⟩) ∧ eget σ.e 6 = .pointer (some ⟨h.next + 2, 0, some 0⟩) ∧ eget σ.e 7 = .pointer (some ⟨h2.next, 0, some 0⟩) ∧ eget σ.e 8 = .slice ka ks.length kc ∧ eget σ.e 9 = .int .i64 (i : Nat) ∧
    Keeps h2 σ.h ∧ σ.h.own.get h2.next = some (.cells [.slice pa ps.length pc, .slice ya i yc, .slice na i nc]) ∧
    T3 W (h2.next + 1) (fun i => i < h2.next + 1) σ.h 2 ka kc (ks.map pairV) ya yc ((ks.take i).map fun p => boolV (finP A B op p)) 1 numV na nc vs rows g none 0 [] ∧ PairT A B ps ks rows i) 66050 ?h0 ?round
  case h0 => exact ⟨0, [(0, 0)], [], [], _, _, none, 0, none, 0, AHeap.empty, Nat.zero_le _, rfl, zv, zv, zv, zv, zv, (by simp only [rop, opd, celsL, oneV, aadd, binV, isSh, intBin, scEq, keq, unV, fillL, oP, oA, oS, wantedA, BX, BL, BS, seval, *, List.length_cons, List.length_nil]), zv, hk4, gt4, T0, hP4⟩
  clear hk4 gt4 T0 hP4
  rintro K ⟨e, hh⟩ ⟨i, ks, rows, vs, ka, kc, ya, yc, na, nc, g, hi, rfl, e2, e3, e4, e6, e7, e8, e9, hk, gt, T, hP'⟩
  dsimp only at e2 e3 e4 e6 e7 e8 e9 hk gt T
  have hkl := pairs_bound hP'.nd hP'.vp
  have hmul : (A.fin.length + 1) * (B.fin.length + 1) ≤ 257 * 257 := Nat.mul_le_mul (by omega) (by omega)
  have hkl : ks.length ≤ 66049 := by omega
  have hkn := hk.le
  by_cases hlt : i < ks.length
  · have hltI : (i : Int) < ks.length := by omega
    have hwi : IntKind.i64.wrap ((i : Int) + 1) = ((i + 1 : Nat) : Int) := wrap_i64 (by omega) (by omega)
    obtain ⟨⟨p1, p2⟩, hpi⟩ : ∃ p, ks[i]? = some p := ⟨_, List.getElem?_eq_getElem hlt⟩
    have hvp := hP'.vp _ (List.mem_of_getElem? hpi)
    have v1 : -1 ≤ p1 := hvp.1.1
    have v2 : p1 < A.fin.length := hvp.1.2
    have v3 : -1 ≤ p2 := hvp.2.1
    have v4 : p2 < B.fin.length := hvp.2.2
    have hne1 : ¬ h2.next = hh.next := by have := T.nx; omega
    have hks := T.keys.sl (W := W)
    rw [List.length_map] at hks
    obtain ⟨d, hd1, _, hd3⟩ := hks.at (i := i) (x := pairV (p1, p2)) (by simp [hpi])
    have hld := aloadN_of _ _ hd3
    simp only [pairV, List.length_cons, List.length_nil, Nat.reduceAdd] at hld
    obtain ⟨H5, hH5⟩ : ∃ H5, H5 = (hh.new (.cells [.int .i64 0, .int .i64 0])).put hh.next (.cells [.int .i64 p1, .int .i64 p2]) := ⟨_, rfl⟩
    have hk5 : Keeps hh H5 := by rw [hH5]; exact ((Keeps.refl hh).new _).put (Nat.le_refl _) _
    have hn5 : H5.next = hh.next + 1 := by rw [hH5]; rfl
    have gp5 : H5.own.get hh.next = some (.cells [.int .i64 p1, .int .i64 p2]) := by rw [hH5, AHeap.put_get, if_pos rfl]
    have gA5 : H5.own.get h.next = some (.cells [.slice fa n1 fc, .slice aa n1 ac]) := by rw [hk5.same _ (by omega), hk.same _ (by omega)]; exact gA2
    have gB5 : H5.own.get (h.next + 1) = some (.cells [.slice fa2 n2 fc2, .slice aa2 n2 ac2]) := by rw [hk5.same _ (by omega), hk.same _ (by omega)]; exact gB2
    have gt5 : H5.own.get h2.next = some (.cells [.slice pa ps.length pc, .slice ya i yc, .slice na i nc]) := by rw [hk5.same _ (by omega)]; exact gt
    have lA5 := aload2 (W := W) gA5
    have lB5 := aload2 (W := W) gB5
    have T5 := T.mark hk5 (Nat.le_refl _) (by omega)
    have hix0 : ∀ b, idxArrV 2 1 (.pointer (some ⟨b, 0, some 0⟩)) (.int .i64 0) = some (.pointer (some ⟨b, 0, some 0⟩)) := fun b => rfl
    have hix1 : ∀ b, idxArrV 2 1 (.pointer (some ⟨b, 0, some 0⟩)) (.int .i64 1) = some (.pointer (some ⟨b, 1, some 0⟩)) := fun b => rfl
    have hkh5 : Keeps h H5 := (hk2t.trans hk).trans hk5
    have h89 := f89_ok W H5 _ A _ _ ws p1 (hA'.keeps hkh5) (by omega)
    rw [hH5] at lA5 lB5 h89
    clear hd3 hks
    repeat refine zs ?_
    refine x_draws (d_eff (by kernel_rfl) ?_)
    repeat refine zs ?_
    refine aop_callK rfl zv za h89 ?_
    rintro r3 h3 ⟨rfl, hk6⟩
    rw [← hH5] at hk6
    have gB6 : h3.own.get (h.next + 1) = some (.cells [.slice fa2 n2 fc2, .slice aa2 n2 ac2]) := by rw [hk6.same _ (by omega)]; exact gB5
    have gt6 : h3.own.get h2.next = some (.cells [.slice pa ps.length pc, .slice ya i yc, .slice na i nc]) := by rw [hk6.same _ (by omega)]; exact gt5
    have gp6 : h3.own.get hh.next = some (.cells [.int .i64 p1, .int .i64 p2]) := by rw [hk6.same _ (by omega)]; exact gp5
    have lB6 := aload2 (W := W) gB6
    clear lA5 lB5 h89
    have h89 := f89_ok W h3 _ B _ _ ws' p2 (hB'.keeps (hkh5.trans hk6)) (by omega)
    refine d_chk (by kernel_rfl) ?chk1 ?_
    case chk1 =>
      intro o ho
      simp only [List.mem_cons, List.not_mem_nil, or_false] at ho
      rcases ho with rfl | rfl | rfl | rfl | rfl | rfl <;> simp only [Chk, kindOf, dval, rop, opd, celsL, oneV, aadd, binV, isSh, intBin, scEq, keq, unV, fillL, oP, oA, oS, wantedA, BX, BL, BS, seval, *]
    refine aop_callK rfl zv za h89 ?_
    rintro r4 h4 ⟨rfl, hk7⟩
    clear h89
    have gt7 : h4.own.get h2.next = some (.cells [.slice pa ps.length pc, .slice ya i yc, .slice na i nc]) := by rw [hk7.same _ (by have := hk6.le; omega)]; exact gt6
    have h88 := f88_ok W h4 (acceptsQ A p1) (acceptsQ B p2) op
    refine d_chk (by kernel_rfl) ?chk2 ?_
    case chk2 =>
      intro o ho
      simp only [List.mem_cons, List.not_mem_nil, or_false] at ho
      rcases ho with rfl | rfl | rfl <;> simp only [Chk, kindOf, dval, rop, opd, celsL, oneV, aadd, binV, isSh, intBin, scEq, keq, unV, fillL, oP, oA, oS, wantedA, BX, BL, BS, seval, *]
    refine aop_callK rfl zv za h88 ?_
    rintro r5 h4' ⟨rfl, hh4⟩
    rw [hh4]
    clear h88 hh4 h4'
    have hne4 : ¬ h2.next = h4.next := by have := hk6.le; have := hk7.le; omega
    obtain ⟨bv, hbv⟩ : ∃ bv, bv = decideZ (acceptsQ A p1) (acceptsQ B p2) op := ⟨_, rfl⟩
    rw [← hbv]
    replace hbv : Hid (bv = decideZ (acceptsQ A p1) (acceptsQ B p2) op) := hbv
    refine d_chk (by kernel_rfl) ?chk3 ?_
    case chk3 =>
      intro o ho
      simp only [List.mem_cons, List.not_mem_nil, or_false] at ho
      rcases ho with rfl | rfl <;> simp only [Chk, kindOf, dval, rop, opd, celsL, oneV, aadd, binV, isSh, intBin, scEq, keq, unV, fillL, oP, oA, oS, wantedA, BX, BL, BS, seval, *]
    refine aop_do zr ?_
    have hFl : ((ks.take i).map fun p => boolV (finP A B op p)).length = i := by rw [List.length_map, List.length_take]; omega
    obtain ⟨ya', yc', h6, happ, T8, hn8, hs8⟩ := ((T5.keeps (hk6.trans hk7)).keeps ((Keeps.refl h4).new (.cells [.bool bv]))).pushFin (W := W) (b' := h4.next) (e := [.bool bv]) hFl (by rw [AHeap.new_get, if_pos rfl]) (by rw [AHeap.new_next]; omega) rfl rfl (by omega)
    have hk67 := hk6.le
    have hk77 := hk7.le
    have gt8 : h6.own.get h2.next = some (.cells [.slice pa ps.length pc, .slice ya i yc, .slice na i nc]) := by rw [hs8 _ (.inl (by omega)), AHeap.new_get, if_neg (by omega)]; exact gt7
    have gp8 : h6.own.get hh.next = some (.cells [.int .i64 p1, .int .i64 p2]) := by rw [hs8 _ (.inr rfl), AHeap.new_get, if_neg (by omega), hk7.same _ (by omega)]; exact gp6
    have hk8 : Keeps h2 h6 := ⟨by have := T8.nx; omega, fun j hj => by rw [hs8 _ (.inl (by omega)), AHeap.new_get, if_neg (by omega), hk7.same _ (by omega), hk6.same _ (by omega), hk5.same _ (by omega), hk.same _ hj]⟩
    have hFL : ((ks.take i).map fun p => boolV (finP A B op p)) ++ [[Value.bool bv]] = (ks.take (i + 1)).map fun p => boolV (finP A B op p) := by
      rw [List.take_add_one, hpi, hbv.out]; simp [boolV, finP]
    rw [hFL] at T8
    refine d_chk (by kernel_rfl) ?chk4 ?_
    case chk4 =>
      intro o ho
      simp only [List.mem_cons, List.not_mem_nil, or_false] at ho
      rcases ho with rfl | rfl <;> simp only [Chk, kindOf, dval, rop, opd, celsL, oneV, aadd, binV, isSh, intBin, scEq, keq, unV, fillL, oP, oA, oS, wantedA, BX, BL, BS, seval, *]
    refine aop_do zr ?_
    refine d_eff (by kernel_rfl) ?_
    repeat refine zs ?_
    refine aop_do zr ?_
    refine d_end ?_
    have T9 := T8.put (j := h2.next) (.inl (by omega)) (.cells [.slice pa ps.length pc, .slice ya' (i + 1) yc', .slice na i nc])
    have gt9 : (h6.put h2.next (.cells [.slice pa ps.length pc, .slice ya' (i + 1) yc', .slice na i nc])).own.get h2.next = some (.cells [.slice pa ps.length pc, .slice ya' (i + 1) yc', .slice na i nc]) := by rw [AHeap.put_get, if_pos rfl]
    have gp9 : (h6.put h2.next (.cells [.slice pa ps.length pc, .slice ya' (i + 1) yc', .slice na i nc])).own.get hh.next = some (.cells [.int .i64 p1, .int .i64 p2]) := by rw [AHeap.put_get, if_neg (by omega)]; exact gp8
    have hk9 : Keeps h2 (h6.put h2.next (.cells [.slice pa ps.length pc, .slice ya' (i + 1) yc', .slice na i nc])) := hk8.put (Nat.le_refl _) _
    have hsp := hop.sl (W := W)
    rw [List.length_map] at hsp
    have hhlt : h2.next < hh.next := by omega
    replace hbv : True := trivial
    clear T8 hn8 hs8 happ gt8 gp8 hFL hk8 gB5 gA5 gt5 gp5 hld hd1 hk5 hn5 hkh5 T5 gB6 gt6 gp6 lB6 hk6 hk7 gt7 hFl hk67 hk77 T hH5 gt hk
    repeat refine zs ?_
    refine WPX.loop hmix (fun k σ => ∃ (q : Nat) (ks' : List (Int × Int)) (L : List Int) (ka : Option Addr) (kc : Nat) (la : Option Addr) (lc : Nat), q ≤ ps.length ∧ k = ps.length - q ∧
      eget σ.e 2 = .int .i64 op ∧ eget σ.e 3 = .pointer (some ⟨h.next, 0, some 0⟩) ∧ eget σ.e 4 = .pointer (some ⟨h.next + 1, 0, some 0⟩) ∧ eget σ.e 6 = .pointer (some ⟨h.next + 2, 0, some 0⟩) ∧ eget σ.e 7 = .pointer (some ⟨h2.next, 0, some 0⟩) ∧ eget σ.e 8 = .slice ka ks'.length kc ∧ eget σ.e 9 = .int .i64 (i : Nat) ∧
      eget σ.e 10 = .pointer (some ⟨hh.next, 0, some 0⟩) ∧ eget σ.e 11 = .slice la q lc ∧ eget σ.e 50 = .slice pa ps.length pc ∧ eget σ.e 51 = .int .i64 ps.length ∧ eget σ.e 52 = .int .i64 (q : Nat) ∧
      Keeps h2 σ.h ∧ σ.h.own.get h2.next = some (.cells [.slice pa ps.length pc, .slice ya' (i + 1) yc', .slice na i nc]) ∧ σ.h.own.get hh.next = some (.cells [.int .i64 p1, .int .i64 p2]) ∧
      T3 W (h2.next + 1) (fun j => j < h2.next + 1 ∨ j = hh.next) σ.h 2 ka kc (ks'.map pairV) ya' yc' ((ks.take (i + 1)).map fun p => boolV (finP A B op p)) 1 numV na nc vs rows g la lc L ∧ PairT A B ps ks' rows i ∧ Hid (L.length = q) ∧ Hid (i < ks'.length) ∧ Hid (ks'.take (i + 1) = ks.take (i + 1)) ∧
      Hid (∀ (j : Nat) c k, ps[j]? = some c → L[j]? = some k → 0 ≤ k ∧ ks'[k.toNat]? = some (stepP A B (p1, p2) c))) ps.length ?h1 ?round1
    case h1 => exact ⟨0, ks, [], ka, kc, none, 0, Nat.zero_le _, rfl, zv, zv, zv, zv, zv, zv, zv, zv, zv, zv, zv, zv, hk9, gt9, gp9, T9, hP', rfl, hlt, rfl, fun j c k _ hk => by simp at hk⟩
    clear hk9 gt9 gp9 T9 e2 e3 e4 e6 e7 e8 e9 hP' hltI hkl hkn
    replace hlt : Hid (i < ks.length) := hlt
    rintro K ⟨e, q2⟩ ⟨q, ks', L, ka, kc, la, lc, hq, rfl, e2, e3, e4, e6, e7, e8, e9, e10, e11, e50, e51, e52, hk, gt, gp, T, hP', hLl, hil, htk, hLk⟩
    dsimp only at e2 e3 e4 e6 e7 e8 e9 e10 e11 e50 e51 e52 hk gt gp T
    have hkl := pairs_bound hP'.nd hP'.vp
    have hkl : ks'.length ≤ 66049 := by omega
    have hkn := hk.le
    have hst := (T.st hh.next (.inr rfl)).1
    by_cases hqp : q < ps.length
    · have hqpI : (q : Int) < ps.length := by omega
      have hwq : IntKind.i64.wrap ((q : Int) + 1) = ((q + 1 : Nat) : Int) := wrap_i64 (by omega) (by omega)
      obtain ⟨c, hc⟩ : ∃ c, ps[q]? = some c := ⟨_, List.getElem?_eq_getElem hqp⟩
      obtain ⟨d, hd1, hr, _⟩ := Sl.one (hsp.keeps hk) hc (u := .int .i32 c) rfl
      obtain ⟨H8, hH8⟩ : ∃ H8, H8 = q2.new (.cells [.int .i64 0, .int .i64 0]) := ⟨_, rfl⟩
      have hk8 : Keeps q2 H8 := by rw [hH8]; exact (Keeps.refl q2).new _
      have hn8 : H8.next = q2.next + 1 := by rw [hH8]; rfl
      have gA8 : q2.own.get h.next = some (.cells [.slice fa n1 fc, .slice aa n1 ac]) := by rw [hk.same _ (by omega)]; exact gA2
      have gB8 : q2.own.get (h.next + 1) = some (.cells [.slice fa2 n2 fc2, .slice aa2 n2 ac2]) := by rw [hk.same _ (by omega)]; exact gB2
      have lA8 := aload2 (W := W) gA8
      have lB8 := aload2 (W := W) gB8
      have lA9 := aload2 (W := W) (show H8.own.get h.next = _ by rw [hk8.same _ (by omega)]; exact gA8)
      have lB9 := aload2 (W := W) (show H8.own.get (h.next + 1) = _ by rw [hk8.same _ (by omega)]; exact gB8)
      have hkh8 : Keeps h H8 := (hk2t.trans hk).trans hk8
      have hne2 : ¬ hh.next = q2.next := by omega
      have hne3 : ¬ h2.next = q2.next := by omega
      have h43 := f43_ok W H8 _ A _ _ ws p1 c (hA'.keeps hkh8) (fun l hl => by have := hbA l hl; omega) (by rw [wA.len]; omega)
      rw [hH8] at lA9 lB9 h43
      repeat refine zs ?_
      refine x_draws (d_make (by kernel_rfl) ?_)
      repeat refine zs ?_
      refine ⟨?chk5, ?ids5, ?nd5, ?_⟩
      case chk5 =>
        intro o ho
        simp only [List.mem_cons, List.not_mem_nil, or_false] at ho
        rcases ho with rfl | rfl | rfl | rfl | rfl | rfl | rfl | rfl | rfl <;> simp only [Chk, kindOf, dval, mkOf, mkVal, ownId, rop, opd, celsL, oneV, aadd, binV, isSh, intBin, scEq, keq, unV, fillL, oP, oA, oS, wantedA, BX, BL, BS, seval, *]
        exact ⟨_, rfl, trivial, by omega, rfl⟩
      case ids5 =>
        intro i hi
        simp only [BM, rop, opd, celsL, oneV, aadd, binV, isSh, intBin, scEq, keq, unV, fillL, oP, oA, oS, wantedA, BX, BL, BS, seval, *, List.mem_cons, List.not_mem_nil, or_false] at hi
        subst hi
        exact Nat.le_refl _
      case nd5 =>
        simp only [BM, rop, opd, celsL, oneV, aadd, binV, isSh, intBin, scEq, keq, unV, fillL, oP, oA, oS, wantedA, BX, BL, BS, seval, *]
        exact List.nodup_cons.2 ⟨List.not_mem_nil, List.nodup_nil⟩
      show AOp _ _ _ _ _
      refine aop_callK rfl zv za h43 ?_
      rintro r6 h9 ⟨rfl, hk9⟩
      rw [← hH8] at hk9
      clear h43 lA8 lA9
      have gB9 : h9.own.get (h.next + 1) = some (.cells [.slice fa2 n2 fc2, .slice aa2 n2 ac2]) := by rw [hk9.same _ (by omega), hk8.same _ (by omega)]; exact gB8
      have lB9 := aload2 (W := W) gB9
      have gn8 : H8.own.get q2.next = some (.cells [.int .i64 0, .int .i64 0]) := by rw [hH8, AHeap.new_get, if_pos rfl]
      have gn9 : h9.own.get q2.next = some (.cells [.int .i64 0, .int .i64 0]) := by rw [hk9.same _ (by omega)]; exact gn8
      have gp9 : h9.own.get hh.next = some (.cells [.int .i64 p1, .int .i64 p2]) := by rw [hk9.same _ (by omega), hk8.same _ (by omega)]; exact gp
      have hlt9 : q2.next < h9.next := by have := hk9.le; omega
      have h43 := f43_ok W h9 _ B _ _ ws' p2 c (hB'.keeps (hkh8.trans hk9)) (fun l hl => by have := hbB l hl; omega) (by rw [wB.len]; omega)
      refine d_chkN ?nd6 ?chk6 ?_
      case chk6 =>
        intro o ho
        simp only [List.mem_cons, List.not_mem_nil, or_false] at ho
        rcases ho with rfl | rfl | rfl | rfl | rfl <;> simp only [Chk, kindOf, dval, mkOf, mkVal, ownId, rop, opd, celsL, oneV, aadd, binV, isSh, intBin, scEq, keq, unV, fillL, oP, oA, oS, wantedA, BX, BL, BS, seval, *]
        exact ⟨_, rfl, trivial, trivial, rfl⟩
      case nd6 =>
        simp only [BM, rop, opd, celsL, oneV, aadd, binV, isSh, intBin, scEq, keq, unV, fillL, oP, oA, oS, wantedA, BX, BL, BS, seval, *]
        exact List.nodup_cons.2 ⟨List.not_mem_nil, List.nodup_nil⟩
      refine aop_callK rfl zv za h43 ?_
      rintro r7 h10 ⟨rfl, hk10⟩
      clear h43
      have gn10 : h10.own.get q2.next = some (.cells [.int .i64 0, .int .i64 0]) := by rw [hk10.same _ (by omega)]; exact gn9
      have hlt10 : q2.next < h10.next := by have := hk10.le; omega
      obtain ⟨x1, hx1⟩ : ∃ x1, x1 = nextQ A p1 c := ⟨_, rfl⟩
      obtain ⟨x2, hx2⟩ : ∃ x2, x2 = nextQ B p2 c := ⟨_, rfl⟩
      rw [← hx1, ← hx2]
      replace hx1 : Hid (x1 = nextQ A p1 c) := hx1
      replace hx2 : Hid (x2 = nextQ B p2 c) := hx2
      refine d_make (by kernel_rfl) ?_
      repeat refine zs ?_
      refine ⟨?chk7, ?ids7, ?nd7, ?_⟩
      case chk7 =>
        intro o ho
        simp only [List.mem_cons, List.not_mem_nil, or_false] at ho
        rcases ho with rfl | rfl <;> simp only [Chk, kindOf, dval, mkOf, mkVal, ownId, rop, opd, celsL, oneV, aadd, binV, isSh, intBin, scEq, keq, unV, fillL, oP, oA, oS, wantedA, BX, BL, BS, seval, *]
        exact ⟨_, rfl, trivial, trivial, rfl⟩
      case ids7 =>
        intro i hi
        simp only [BM, rop, opd, celsL, oneV, aadd, binV, isSh, intBin, scEq, keq, unV, fillL, oP, oA, oS, wantedA, BX, BL, BS, seval, *, List.not_mem_nil] at hi
      case nd7 =>
        simp only [BM, rop, opd, celsL, oneV, aadd, binV, isSh, intBin, scEq, keq, unV, fillL, oP, oA, oS, wantedA, BX, BL, BS, seval, *]
        exact List.nodup_cons.2 ⟨List.not_mem_nil, List.nodup_nil⟩
      show AOp _ _ _ _ _
      refine aop_do zr ?_
      refine d_end ?_
      obtain ⟨H11, hH11⟩ : ∃ H11, H11 = h10.put q2.next (.cells [.int .i64 x1, .int .i64 x2]) := ⟨_, rfl⟩
      rw [← hH11]
      have hk11 : Keeps q2 H11 := by rw [hH11]; exact ((hk8.trans hk9).trans hk10).put (Nat.le_refl _) _
      have gn11 : H11.own.get q2.next = some (.cells [.int .i64 x1, .int .i64 x2]) := by rw [hH11, AHeap.put_get, if_pos rfl]
      have hlt11 : q2.next < H11.next := by rw [hH11, AHeap.put_next]; exact hlt10
      have T11 := T.mark hk11 (Nat.le_refl _) hlt11
      have gt11 : H11.own.get h2.next = some (.cells [.slice pa ps.length pc, .slice ya' (i + 1) yc', .slice na i nc]) := by rw [hk11.same _ (by omega)]; exact gt
      have gp11 : H11.own.get hh.next = some (.cells [.int .i64 p1, .int .i64 p2]) := by rw [hk11.same _ (by omega)]; exact gp
      have hks := T11.keys.sl (W := W)
      rw [List.length_map] at hks
      have ln11 := aload2 (W := W) gn11
      have hstep : Hid (stepP A B (p1, p2) c = (x1, x2)) := by show _ = _; unfold stepP; rw [← hx1.out, ← hx2.out]
      have hvx : VP A B (x1, x2) := by
        have := VP.step wA wB (hP'.vp (p1, p2) (List.mem_of_getElem? (show ks'[i]? = some (p1, p2) by
          have e := congrArg (fun l => l[i]?) htk.out
          simp only [List.getElem?_take, Nat.lt_succ_self, if_true] at e
          rw [e]; exact hpi))) c
        rw [hstep.out] at this; exact this
      have hkh11 : Keeps h2 H11 := hk.trans hk11
      have hN11 := T11.nx
      clear gn10 hlt10 gn8 gn9 gp9 gB9 lB9 hk9 hk10 hH8 hn8 hH11 hk8 hkh8 gA8 gB8 lB8 hd1 hr hx1 hx2 gt gp hlt9 T hk
      repeat refine zs ?_
      refine WPX.loop hmix (fun k σ => ∃ (j : Nat), j ≤ ks'.length ∧ k = ks'.length - j ∧
        eget σ.e 2 = .int .i64 op ∧ eget σ.e 3 = .pointer (some ⟨h.next, 0, some 0⟩) ∧ eget σ.e 4 = .pointer (some ⟨h.next + 1, 0, some 0⟩) ∧ eget σ.e 6 = .pointer (some ⟨h.next + 2, 0, some 0⟩) ∧ eget σ.e 7 = .pointer (some ⟨h2.next, 0, some 0⟩) ∧ eget σ.e 8 = .slice ka ks'.length kc ∧ eget σ.e 9 = .int .i64 (i : Nat) ∧
        eget σ.e 10 = .pointer (some ⟨hh.next, 0, some 0⟩) ∧ eget σ.e 11 = .slice la q lc ∧ eget σ.e 50 = .slice pa ps.length pc ∧ eget σ.e 51 = .int .i64 ps.length ∧ eget σ.e 52 = .int .i64 (q : Nat) ∧ eget σ.e 14 = .pointer (some ⟨q2.next, 0, some 0⟩) ∧ eget σ.e 15 = .int .i64 (j : Nat) ∧
        σ.h = H11 ∧ Hid (∀ (j' : Nat), j' < j → ks'[j']? ≠ some (x1, x2))) ks'.length ?h2 ?round2
      case h2 => exact ⟨0, Nat.zero_le _, rfl, zv, zv, zv, zv, zv, zv, zv, zv, zv, zv, zv, zv, zv, zv, rfl, fun j hj => absurd hj (Nat.not_lt_zero j)⟩
      clear e2 e3 e4 e6 e7 e8 e9 e10 e11 e50 e51 e52
      rintro K ⟨e, q3⟩ ⟨j, hj, rfl, e2, e3, e4, e6, e7, e8, e9, e10, e11, e50, e51, e52, e14, e15, hq3, hnot⟩
      dsimp only at e2 e3 e4 e6 e7 e8 e9 e10 e11 e50 e51 e52 e14 e15 hq3
      subst hq3
      have hwj : IntKind.i64.wrap ((j : Int) + 1) = ((j + 1 : Nat) : Int) := wrap_i64 (by omega) (by omega)
      by_cases hjl : j < ks'.length
      · have hjlI : (j : Int) < ks'.length := by omega
        have hjne : ¬ (j : Int) = ks'.length := by omega
        obtain ⟨⟨y1, y2⟩, hy⟩ : ∃ p, ks'[j]? = some p := ⟨_, List.getElem?_eq_getElem hjl⟩
        obtain ⟨d, hd1, _, hd3⟩ := hks.at (i := j) (x := pairV (y1, y2)) (by simp [hy])
        have hld := aloadN_of _ _ hd3
        simp only [pairV, List.length_cons, List.length_nil, Nat.reduceAdd] at hld
        obtain ⟨bv, hbv, hbt, hbf⟩ : ∃ bv, scEqs [.i, .i] [.int .i64 y1, .int .i64 y2] [.int .i64 x1, .int .i64 x2] = some bv ∧ (bv = true → (y1, y2) = (x1, x2)) ∧ (bv = false → (y1, y2) ≠ (x1, x2)) := by
          by_cases h1 : y1 = x1
          · by_cases h2 : y2 = x2
            · exact ⟨true, by simp [scEqs, scEq, h1, h2], fun _ => by rw [h1, h2], fun h => by cases h⟩
            · exact ⟨false, by simp [scEqs, scEq, int_beq, h1, h2], (fun h => by cases h), fun _ h => by cases h; exact h2 rfl⟩
          · exact ⟨false, by simp [scEqs, scEq, int_beq, h1], (fun h => by cases h), fun _ h => by cases h; exact h1 rfl⟩
        clear hd3
        cases bv with
        | false =>
          have hnot' : Hid (∀ (j' : Nat), j' < j + 1 → ks'[j']? ≠ some (x1, x2)) := fun j' hj' => by
            rcases Nat.lt_or_ge j' j with h1 | h1
            · exact hnot.out j' h1
            · obtain rfl : j' = j := by omega
              rw [hy]; intro e; exact hbf rfl (Option.some.inj e)
          clear hbt hbf hy hnot
          repeat refine zs ?_
          exact ⟨ks'.length - (j + 1), by omega, j + 1, by omega, rfl, zv, zv, zv, zv, zv, zv, zv, zv, zv, zv, zv, zv, zv, zv, rfl, hnot'⟩
        | true =>
          have hyx := hbt rfl
          rw [hyx] at hy
          obtain ⟨la', lc', h12, happ, T12, hn12, hs12⟩ := (T11.keeps ((Keeps.refl q3).new (.cells [.int .i64 (j : Nat)]))).pushRow (W := W) (b' := q3.next) (n := q) (x := (j : Int)) hLl.out (by rw [AHeap.new_get, if_pos rfl]; rfl) (by rw [AHeap.new_next]; omega) rfl rfl (by omega)
          have gt12 : h12.own.get h2.next = some (.cells [.slice pa ps.length pc, .slice ya' (i + 1) yc', .slice na i nc]) := by rw [hs12 _ (.inl (.inl (by omega))), AHeap.new_get, if_neg (by omega)]; exact gt11
          have gp12 : h12.own.get hh.next = some (.cells [.int .i64 p1, .int .i64 p2]) := by rw [hs12 _ (.inl (.inr rfl)), AHeap.new_get, if_neg (by omega)]; exact gp11
          have hk12 : Keeps h2 h12 := ⟨by have := T12.nx; omega, fun i hi => by rw [hs12 _ (.inl (.inl (by omega))), AHeap.new_get, if_neg (by omega)]; exact hkh11.same i hi⟩
          have T13 := T12.less (S' := fun j => j < h2.next + 1 ∨ j = hh.next) (fun i hi => .inl hi)
          have hLl' : Hid ((L ++ [(j : Int)]).length = q + 1) := by show _ = _; rw [List.length_append, hLl.out]; rfl
          have hLk' : Hid (∀ (j' : Nat) c k, ps[j']? = some c → (L ++ [(j : Int)])[j']? = some k → 0 ≤ k ∧ ks'[k.toNat]? = some (stepP A B (p1, p2) c)) := fun j' c' k' hc' hk' => by
            rcases Nat.lt_or_ge j' q with h1 | h1
            · rw [List.getElem?_append_left (by rw [hLl.out]; exact h1)] at hk'
              exact hLk.out j' c' k' hc' hk'
            · rw [List.getElem?_append_right (by rw [hLl.out]; exact h1), hLl.out] at hk'
              have h0 : j' - q = 0 := by have := (List.getElem?_eq_some_iff.1 hk').1; simp at this; exact this
              rw [h0] at hk'
              simp at hk'
              obtain rfl : j' = q := by omega
              rw [hc] at hc'; cases hc'; subst hk'
              rw [hstep.out]; exact ⟨by omega, hy⟩
          clear T12 hs12 hy hyx hbt hbf hnot hn12 hLk hLl T11 gt11 gp11
          repeat refine zs ?_
          exact ⟨ps.length - (q + 1), by omega, q + 1, ks', _, ka, kc, la', lc', by omega, rfl, zv, zv, zv, zv, zv, zv, zv, zv, zv, zv, zv, zv, hk12, gt12, gp12, T13, hP', hLl', hil, htk, hLk'⟩
      · obtain rfl : j = ks'.length := by omega
        have hjlI : ¬ (ks'.length : Int) < ks'.length := by omega
        have hself : decide ((ks'.length : Int) = (ks'.length : Int)) = true := decide_eq_true rfl
        have hnm : (x1, x2) ∉ ks' := fun hm => by
          obtain ⟨j', hj'⟩ := List.mem_iff_getElem?.1 hm
          exact hnot.out j' (List.getElem?_eq_some_iff.1 hj').1 hj'
        obtain ⟨ka', kc', h12, happ, T12, hn12, hs12⟩ := (T11.keeps ((Keeps.refl q3).new (.cells [.int .i64 x1, .int .i64 x2]))).pushKey (W := W) (b' := q3.next) (n := ks'.length) (e := pairV (x1, x2)) (by rw [List.length_map]) (by rw [AHeap.new_get, if_pos rfl]; rfl) (by rw [AHeap.new_next]; omega) rfl rfl (by omega)
        obtain ⟨la', lc', h13, happ3, T13, hn13, hs13⟩ := (T12.keeps ((Keeps.refl h12).new (.cells [.int .i64 (ks'.length : Nat)]))).pushRow (W := W) (b' := h12.next) (n := q) (x := (ks'.length : Int)) hLl.out (by rw [AHeap.new_get, if_pos rfl]; rfl) (by rw [AHeap.new_next]; omega) rfl rfl (by omega)
        have hS : ∀ i, (i < h2.next + 1 ∨ i = hh.next) → h13.own.get i = q3.own.get i := fun i hi => by
          have hil : i < q3.next := (T11.st i (.inl hi)).1
          rw [hs13 _ (.inl hi), AHeap.new_get, if_neg (by rw [hn12, AHeap.new_next]; omega), hs12 _ (.inl hi), AHeap.new_get, if_neg (by omega)]
        have gt13 : h13.own.get h2.next = some (.cells [.slice pa ps.length pc, .slice ya' (i + 1) yc', .slice na i nc]) := by rw [hS _ (.inl (by omega))]; exact gt11
        have gp13 : h13.own.get hh.next = some (.cells [.int .i64 p1, .int .i64 p2]) := by rw [hS _ (.inr rfl)]; exact gp11
        have hk13 : Keeps h2 h13 := ⟨by have := T13.nx; omega, fun i hi => by rw [hS _ (.inl (by omega))]; exact hkh11.same i hi⟩
        have T14 := T13.less (S' := fun j => j < h2.next + 1 ∨ j = hh.next) (fun i hi => .inl hi)
        have hKL : ks'.map pairV ++ [pairV (x1, x2)] = (ks' ++ [(x1, x2)]).map pairV := by simp
        rw [hKL] at T14
        have hlen : (ks' ++ [(x1, x2)]).length = ks'.length + 1 := by simp
        have hP2 := hP'.grow (by have := hil.out; omega) hnm hvx
        have hil2 : Hid (i < (ks' ++ [(x1, x2)]).length) := by show _ < _; rw [hlen]; have := hil.out; omega
        have htk2 : Hid ((ks' ++ [(x1, x2)]).take (i + 1) = ks.take (i + 1)) := by show _ = _; rw [List.take_append_of_le_length (by have := hil.out; omega)]; exact htk.out
        have hLl' : Hid ((L ++ [(ks'.length : Int)]).length = q + 1) := by show _ = _; rw [List.length_append, hLl.out]; rfl
        have hLk' : Hid (∀ (j' : Nat) c k, ps[j']? = some c → (L ++ [(ks'.length : Int)])[j']? = some k → 0 ≤ k ∧ (ks' ++ [(x1, x2)])[k.toNat]? = some (stepP A B (p1, p2) c)) := fun j' c' k' hc' hk' => by
          rcases Nat.lt_or_ge j' q with h1 | h1
          · rw [List.getElem?_append_left (by rw [hLl.out]; exact h1)] at hk'
            have := hLk.out j' c' k' hc' hk'
            exact ⟨this.1, getElem?_pre this.2⟩
          · rw [List.getElem?_append_right (by rw [hLl.out]; exact h1), hLl.out] at hk'
            have h0 : j' - q = 0 := by have := (List.getElem?_eq_some_iff.1 hk').1; simp at this; exact this
            rw [h0] at hk'
            simp at hk'
            obtain rfl : j' = q := by omega
            rw [hc] at hc'; cases hc'; subst hk'
            rw [hstep.out]; exact ⟨by omega, by simp⟩
        clear T12 T13 hs12 hs13 hn12 hn13 hnm hnot hLk hLl T11 gt11 gp11 hKL hil htk hP' hj
        repeat refine zs ?_
        exact ⟨ps.length - (q + 1), by omega, q + 1, _, _, ka', kc', la', lc', by omega, rfl, zv, zv, zv, zv, zv, zv, zv, zv, zv, zv, zv, zv, hk13, gt13, gp13, T14, hP2, hLl', hil2, htk2, hLk'⟩
    · have hqpI : ¬ (q : Int) < ps.length := by omega
      have hqe : Hid (q = ps.length) := by show _ = _; omega
      have hvl : vs.length = i := by rw [T.out.len]; exact hP'.rl
      obtain ⟨na', nc', h12, happ, ⟨g', T12⟩, hn12, hs12⟩ := (T.keeps ((Keeps.refl q2).new (.cells [.slice la q lc]))).pushOut (W := W) (b' := q2.next) (n := i) (m := q) hvl hLl.out (by rw [AHeap.new_get, if_pos rfl]) (by rw [AHeap.new_next]; omega) (by have := hil.out; omega)
      have gt12 : h12.own.get h2.next = some (.cells [.slice pa ps.length pc, .slice ya' (i + 1) yc', .slice na i nc]) := by rw [hs12 _ (.inl (by omega)), AHeap.new_get, if_neg (by omega)]; exact gt
      have hk12 : Keeps h2 h12 := ⟨by have := T12.nx; omega, fun i hi => by rw [hs12 _ (.inl (by omega)), AHeap.new_get, if_neg (by omega)]; exact hk.same i hi⟩
      have T13 := (T12.less (S' := fun j => j < h2.next + 1) (fun i hi => .inl hi)).put (j := h2.next) (Nat.lt_succ_self _) (.cells [.slice pa ps.length pc, .slice ya' (i + 1) yc', .slice na' (i + 1) nc'])
      have gt13 : (h12.put h2.next (.cells [.slice pa ps.length pc, .slice ya' (i + 1) yc', .slice na' (i + 1) nc'])).own.get h2.next = some (.cells [.slice pa ps.length pc, .slice ya' (i + 1) yc', .slice na' (i + 1) nc']) := by rw [AHeap.put_get, if_pos rfl]
      have hk13 : Keeps h2 (h12.put h2.next (.cells [.slice pa ps.length pc, .slice ya' (i + 1) yc', .slice na' (i + 1) nc'])) := hk12.put (Nat.le_refl _) _
      rw [← htk.out] at T13
      have hpi' : ks'[i]? = some (p1, p2) := by
        have e := congrArg (fun l => l[i]?) htk.out
        simp only [List.getElem?_take, Nat.lt_succ_self, if_true] at e
        rw [e]; exact hpi
      have hP2 := hP'.row hpi' (hLl.out.trans hqe.out) hLk.out
      have hile : i + 1 ≤ ks'.length := hil.out
      clear T12 hs12 hn12 hk12 hP' hLk hLl hil htk T hqe hvl hpi' hk
      repeat refine zs ?_
      exact ⟨66050 - (i + 1), by omega, i + 1, ks', _, _, ka, kc, ya', yc', na', nc', g', hile, rfl, zv, zv, zv, zv, zv, zv, zv, hk13, gt13, T13, hP2⟩
  · obtain rfl : i = ks.length := by omega
    have hltI : ¬ (ks.length : Int) < ks.length := by omega
    have hvl : vs.length = ks.length := by rw [T.out.len]; exact hP'.rl
    have l3 := aload3 (W := W) gt
    obtain ⟨H7, hH7⟩ : ∃ H7, H7 = hh.put (h.next + 2) (.cells [.slice pa ps.length pc, .slice ya ks.length yc, .slice na ks.length nc]) := ⟨_, rfl⟩
    have gR7 : hh.own.get (h.next + 2) = some (.cells [.slice none 0 0, .slice none 0 0, .slice none 0 0]) := by rw [hk.same _ (by omega)]; exact gR2
    have T7 := T.put (j := h.next + 2) (by omega) (.cells [.slice pa ps.length pc, .slice ya ks.length yc, .slice na ks.length nc])
    rw [← hH7] at T7
    have kb7 : KeepsBut (fun i => i = h.next + 2) hh H7 := by rw [hH7]; exact KeepsBut.put (M := fun i => i = h.next + 2) (KeepsBut.refl _ hh) (.inr rfl) _
    have hp7 := ((hop.keeps hk).but kb7 (fun y hy e => by have := (hop.lt hy).1; omega)).sl (W := W)
    have hf7 := T7.fin.sl (W := W)
    have hn7 := T7.out.read
    rw [List.length_map] at hp7
    rw [List.length_map, List.take_length] at hf7
    rw [hvl] at hn7
    have ef : (ks.map fun p => boolV (finP A B op p)) = (ks.map (finP A B op)).map boolV := by rw [List.map_map]; rfl
    rw [ef] at hf7
    have l7 : aloadN W H7 ⟨h.next + 2, 0, some 0⟩ 3 = some [.slice pa ps.length pc, .slice ya ks.length yc, .slice na ks.length nc] := aload3 (by rw [hH7, AHeap.put_get, if_pos rfl])
    have hkf : Keeps h H7 := by rw [hH7]; exact (hk2t.trans hk).put (by omega) _
    have hR : PairR W A B op (.agg #[.slice pa ps.length pc, .slice ya ks.length yc, .slice na ks.length nc]) H7 := ⟨ps, ks, rows, _, _, _, vs, rfl, ⟨hp7, hf7, hn7⟩, hP, hcA, hcB, hplen, hP', hkl⟩
    rw [hH7] at l7 hR hkf
    clear hp7 hf7 hn7 ef kb7 T7 T hH7 hvl
    repeat refine zs ?_
    refine ⟨.inr rfl, [.agg #[.slice pa ps.length pc, .slice ya ks.length yc, .slice na ks.length nc]], ?_, hR, hkf⟩
    simp only [resVals, rop, opd, celsL, oneV, aadd, binV, isSh, intBin, scEq, keq, unV, fillL, oP, oA, oS, wantedA, BX, BL, BS, seval, *]
end Go.Proofs.YtlipmjpapkfaeaaGreatDoor.Fn
end
section
set_option linter.unusedSimpArgs false
set_option linter.unusedVariables false
namespace Go.Proofs.YtlipmjpapkfaeaaGreatDoor.Fn
open Go Go.Mach Go.RowKit Go.Proofs
theorem ascA_hit {l : List Arc3} {p : Option Arc3} (h : AscA p l) {x : Arc3} (hx : x ∈ l) {c : Int} (h1 : x.1 ≤ c) (h2 : c ≤ x.2.1) : findA l c = some x.2.2 := by
  induction l generalizing p with
  | nil => simp at hx
  | cons y l ih =>
    rcases List.mem_cons.1 hx with rfl | hx
    · rw [findA_cons, if_pos ((hitA_iff _ _).2 ⟨h1, h2⟩)]
    · have ihx := ih h.2.2 hx
      rw [findA_cons, if_neg]
      · exact ihx
      · intro hy
        have hlow := ascA_low h.2.2 ((hitA_iff _ _).1 hy).2
        rw [ihx] at hlow; cases hlow
def foldA (l : List Arc3) : List Arc3 := l.foldl addArc []
theorem fold_good : ∀ (l out : List Arc3) (p : Option Arc3) (b : Int), AscA p l → (∀ q, p = some q → q.2.1 = b) → (p = none → ∀ x ∈ l, b < x.1) → Good out b →
    ∃ b', Good (l.foldl addArc out) b' ∧ ∀ c, findA (l.foldl addArc out) c = match findA l c with
      | some t => some t
      | none => findA out c
  | [], out, p, b, _, _, _, h => ⟨b, h, fun c => rfl⟩
  | x :: l, out, p, b, hs, hp, hp0, h => by
    have hbx : b < x.1 := by
      cases p with
      | none => exact hp0 rfl x (by simp)
      | some q => have := hs.2.1 q rfl; have := hp q rfl; omega
    obtain ⟨a1, a2⟩ := h.add (x := x) hbx hs.1
    obtain ⟨b', g1, g2⟩ := fold_good l (addArc out x) (some x) x.2.1 hs.2.2 (fun q hq => by cases hq; rfl) (fun hh => by cases hh) a1
    refine ⟨b', g1, fun c => ?_⟩
    show findA (l.foldl addArc (addArc out x)) c = _
    rw [g2 c, findA_cons, a2 c]
    by_cases hh : hitA c x = true
    · have hh' := (hitA_iff c x).1 hh
      rw [if_pos hh, ascA_low hs.2.2 hh'.2]
      simp only
      rw [if_pos hh']
    · rw [if_neg hh, if_neg (fun h' => hh ((hitA_iff c x).2 h'))]
theorem foldA_ok {l : List Arc3} (h : AscA none l) (h0 : ∀ x ∈ l, 0 ≤ x.1) : Srt none (foldA l) ∧ ∀ c, findA (foldA l) c = findA l c := by
  obtain ⟨b', g1, g2⟩ := fold_good l [] none (-1) h (fun q hq => by cases hq) (fun _ x hx => by have := h0 x hx; omega) ⟨trivial, fun y hy => by simp at hy⟩
  refine ⟨g1.1, fun c => ?_⟩
  unfold foldA
  rw [g2 c]
  cases findA l c <;> rfl
theorem fold_in : ∀ (l out : List Arc3), InR l → InR out → InR (l.foldl addArc out)
  | [], out, _, h => h
  | x :: l, out, hl, h => fold_in l (addArc out x) (fun y hy => hl y (by simp [hy])) (addArc_in h (hl x (by simp)))
theorem fold_tgt {D : Int → Prop} : ∀ (l out : List Arc3), (∀ x ∈ l, D x.2.2) → (∀ x ∈ out, D x.2.2) → ∀ x ∈ l.foldl addArc out, D x.2.2
  | [], out, _, h => h
  | x :: l, out, hl, h => fold_tgt l (addArc out x) (fun y hy => hl y (by simp [hy])) (fun y hy => by
      rcases addArc_mem hy with ⟨z, hz, e⟩ | e
      · rw [e]; exact h z hz
      · rw [e]; exact hl x (by simp))
def rawL (ps row : List Int) : List Arc3 := (List.range ps.length).map fun q => (ps.getD q 0, endZ ps q, row.getD q 0)
theorem rawL_get (ps row : List Int) {q : Nat} (hq : q < ps.length) : (rawL ps row)[q]? = some (ps.getD q 0, endZ ps q, row.getD q 0) := by
  simp [rawL, hq]
theorem rawL_len (ps row : List Int) : (rawL ps row).length = ps.length := by simp [rawL]
theorem getD_get {l : List Int} {q : Nat} {d x : Int} (h : l[q]? = some x) : l.getD q d = x := by simp [List.getD, h]
theorem get_getD {l : List Int} {q : Nat} (h : q < l.length) (d : Int) : l[q]? = some (l.getD q d) := by simp [List.getD, h]
theorem Pts.rngQ {ps : List Int} (h : Pts ps) {q : Nat} (hq : q < ps.length) : (0 ≤ ps.getD q 0 ∧ ps.getD q 0 ≤ endZ ps q) ∧ endZ ps q ≤ 1114111 := by
  have h1 := get_getD hq 0
  have h2 := h.rng _ (List.mem_of_getElem? h1)
  unfold endZ
  split
  · rename_i h3
    have h4 := get_getD h3 0
    have h5 := asc_get h.asc (Nat.lt_succ_self q) h1 h4
    have h6 := h.rng _ (List.mem_of_getElem? h4)
    omega
  · omega
theorem ascA_of : ∀ (l : List Arc3) (p : Option Arc3), (∀ x ∈ l, x.1 ≤ x.2.1) → (∀ (i : Nat) x y, l[i]? = some x → l[i + 1]? = some y → x.2.1 < y.1) → (∀ q x, p = some q → l[0]? = some x → q.2.1 < x.1) → AscA p l
  | [], _, _, _, _ => trivial
  | x :: l, p, h1, h2, h3 => ⟨h1 x (by simp), fun q hq => h3 q x hq rfl, ascA_of l (some x) (fun y hy => h1 y (by simp [hy])) (fun i a b ha hb => h2 (i + 1) a b ha hb) (fun q y hq hy => by cases hq; exact h2 0 x y rfl hy)⟩
theorem raw_asc {ps : List Int} (h : Pts ps) (row : List Int) : AscA none (rawL ps row) := by
  refine ascA_of _ _ (fun x hx => ?_) (fun i x y hx hy => ?_) (fun q x hq => by cases hq)
  · obtain ⟨q, hq⟩ := List.mem_iff_getElem?.1 hx
    have hlt := (List.getElem?_eq_some_iff.1 hq).1
    rw [rawL_len] at hlt
    rw [rawL_get ps row hlt] at hq; cases hq
    exact (h.rngQ hlt).1.2
  · have h1 := (List.getElem?_eq_some_iff.1 hx).1
    have h2 := (List.getElem?_eq_some_iff.1 hy).1
    rw [rawL_len] at h1 h2
    rw [rawL_get ps row h1] at hx; cases hx
    rw [rawL_get ps row h2] at hy; cases hy
    simp only
    unfold endZ
    rw [if_pos h2]; omega
theorem raw_in {ps : List Int} (h : Pts ps) (row : List Int) : InR (rawL ps row) := fun x hx => by
  obtain ⟨q, hq⟩ := List.mem_iff_getElem?.1 hx
  have hlt := (List.getElem?_eq_some_iff.1 hq).1
  rw [rawL_len] at hlt
  rw [rawL_get ps row hlt] at hq; cases hq
  have := h.rngQ hlt
  exact ⟨this.1.1, this.1.2, this.2⟩
theorem pts_cover {ps : List Int} (h : Pts ps) {c : Int} (hc : 0 ≤ c ∧ c ≤ 1114111) : ∃ q, q < ps.length ∧ ps.getD q 0 ≤ c ∧ c ≤ endZ ps q := by
  have key : ∀ k q : Nat, ps.length - q ≤ k → q < ps.length → ps.getD q 0 ≤ c → ∃ q, q < ps.length ∧ ps.getD q 0 ≤ c ∧ c ≤ endZ ps q := by
    intro k
    induction k with
    | zero => intro q h1 h2; omega
    | succ k ih =>
      intro q h1 h2 h3
      by_cases h4 : q + 1 < ps.length ∧ ps.getD (q + 1) 0 ≤ c
      · exact ih (q + 1) (by omega) h4.1 h4.2
      · refine ⟨q, h2, h3, ?_⟩
        unfold endZ
        split
        · rename_i h5
          have : ¬ ps.getD (q + 1) 0 ≤ c := fun h => h4 ⟨h5, h⟩
          omega
        · exact hc.2
  have h0 := (List.getElem?_eq_some_iff.1 h.hd).1
  exact key ps.length 0 (by omega) h0 (by rw [getD_get h.hd]; exact hc.1)
theorem raw_find {ps : List Int} (h : Pts ps) (row : List Int) {q : Nat} (hq : q < ps.length) {c : Int} (h1 : ps.getD q 0 ≤ c) (h2 : c ≤ endZ ps q) : findA (rawL ps row) c = some (row.getD q 0) :=
  ascA_hit (raw_asc h row) (List.mem_of_getElem? (rawL_get ps row hq)) h1 h2
structure TabOk (ps : List Int) (F : List Bool) (rows : List (List Int)) : Prop where
  pts : Pts ps
  len : rows.length = F.length
  row : ∀ r ∈ rows, r.length = ps.length ∧ ∀ k ∈ r, 0 ≤ k ∧ k < F.length
def tabA (ps : List Int) (F : List Bool) (rows : List (List Int)) : Aut := ⟨F, rows.map fun r => foldA (rawL ps r)⟩
section
variable {ps : List Int} {F : List Bool} {rows : List (List Int)}
theorem TabOk.get (t : TabOk ps F rows) {i : Nat} (hi : i < F.length) : ∃ r, rows[i]? = some r ∧ r.length = ps.length ∧ (∀ k ∈ r, 0 ≤ k ∧ k < F.length) ∧ (tabA ps F rows).arcs[i]? = some (foldA (rawL ps r)) := by
  obtain ⟨r, hr⟩ : ∃ r, rows[i]? = some r := ⟨_, List.getElem?_eq_getElem (by rw [t.len]; exact hi)⟩
  exact ⟨r, hr, (t.row _ (List.mem_of_getElem? hr)).1, (t.row _ (List.mem_of_getElem? hr)).2, by show (rows.map _)[i]? = _; rw [List.getElem?_map, hr]; rfl⟩
theorem TabOk.cell (t : TabOk ps F rows) {r : List Int} (hr : r ∈ rows) {q : Nat} (hq : q < ps.length) : 0 ≤ r.getD q 0 ∧ r.getD q 0 < F.length := by
  obtain ⟨h1, h2⟩ := t.row r hr
  exact h2 _ (List.mem_of_getElem? (get_getD (by omega) 0))
theorem rawL_tgt {r : List Int} : ∀ x ∈ rawL ps r, ∃ q, q < ps.length ∧ x.2.2 = r.getD q 0 := fun x hx => by
  obtain ⟨q, hq⟩ := List.mem_iff_getElem?.1 hx
  have hlt := (List.getElem?_eq_some_iff.1 hq).1
  rw [rawL_len] at hlt
  rw [rawL_get ps r hlt] at hq; cases hq
  exact ⟨q, hlt, rfl⟩
theorem TabOk.wf (t : TabOk ps F rows) : Wf (tabA ps F rows) := by
  refine ⟨by show (rows.map _).length = _; rw [List.length_map]; exact t.len, fun l hl => ?_⟩
  obtain ⟨r, hr, rfl⟩ := List.mem_map.1 hl
  obtain ⟨s1, s2⟩ := foldA_ok (raw_asc t.pts r) fun x hx => (raw_in t.pts r x hx).1
  refine chk_of_srt s1 (fun q hq => by cases hq) fun x hx => ?_
  have h1 := fold_in (rawL ps r) [] (raw_in t.pts r) (fun y hy => by simp at hy) x hx
  have h2 := fold_tgt (D := fun k => 0 ≤ k ∧ k < F.length) (rawL ps r) [] (fun y hy => by
    obtain ⟨q, hq, e⟩ := rawL_tgt y hy
    rw [e]; exact t.cell hr hq) (fun y hy => by simp at hy) x hx
  simp only [badArc, Bool.or_eq_false_iff, decide_eq_false_iff_not]
  show ((((¬ x.1 < 0) ∧ ¬ x.1 > x.2.1) ∧ ¬ x.2.1 > 1114111) ∧ ¬ x.2.2 < 0) ∧ ¬ x.2.2 ≥ F.length
  omega
theorem TabOk.next (t : TabOk ps F rows) {i : Nat} {r : List Int} (hr : rows[i]? = some r) {q : Nat} (hq : q < ps.length) {c : Int} (h1 : ps.getD q 0 ≤ c) (h2 : c ≤ endZ ps q) : nextQ (tabA ps F rows) i c = r.getD q 0 := by
  have hl : (tabA ps F rows).arcs[i]? = some (foldA (rawL ps r)) := by show (rows.map _)[i]? = _; rw [List.getElem?_map, hr]; rfl
  rw [nextQ_arcs hl, (foldA_ok (raw_asc t.pts r) fun x hx => (raw_in t.pts r x hx).1).2, raw_find t.pts r hq h1 h2]; rfl
end
def okC (c : Int) : Bool := decide (0 ≤ c) && decide (c ≤ 1114111)
theorem next_bad {A : Aut} (w : Wf A) {q : Int} (hq : q < A.fin.length) {c : Int} (hc : okC c = false) : nextQ A q c = -1 := by
  unfold nextQ
  split
  · rfl
  · have hl := getD_arcs w (q := q.toNat) (by omega)
    have hr := (arcs_in w (q := q.toNat) (by omega)).2
    unfold nextA
    rw [List.find?_eq_none.2]
    intro x hx hh
    have := hr x hx
    have hh' := (hitA_iff c x).1 hh
    simp [okC] at hc; omega
theorem acc_ok {A : Aut} (w : Wf A) : ∀ (cs : List Int) {q : Int}, q < A.fin.length → cs.all okC = false → acc A q cs = false
  | [], q, _, h => by simp at h
  | c :: cs, q, hq, h => by
    rw [acc_cons]
    cases hc : okC c with
    | false => rw [next_bad w hq hc]; exact acc_dead A cs (by decide)
    | true =>
      simp only [List.all_cons, hc, Bool.true_and] at h
      exact acc_ok w cs (nextQ_range w hq c).2 h
theorem cut_same {ps : List Int} (h : Pts ps) {l : List Arc3} (hl : ∀ x ∈ l, CutAt ps (rngOf x)) {q : Nat} (hq : q < ps.length) {c : Int} (h1 : ps.getD q 0 ≤ c) (h2 : c ≤ endZ ps q) : nextA l c = nextA l (ps.getD q 0) := by
  have hp := get_getD hq 0
  have he := (h.rngQ hq).2
  have hh : ∀ x ∈ l, hitA c x = hitA (ps.getD q 0) x := fun x hx => by
    obtain ⟨c1, c2⟩ := hl x hx
    simp only [rngOf] at c1 c2
    have e1 : x.1 ≤ c ↔ x.1 ≤ ps.getD q 0 := by
      obtain ⟨j, hj⟩ := List.mem_iff_getElem?.1 c1
      constructor
      · intro hxc
        rcases Nat.lt_or_ge q j with hlt | hge
        · exfalso
          have hj1 : q + 1 < ps.length := by have := (List.getElem?_eq_some_iff.1 hj).1; omega
          unfold endZ at h2
          rw [if_pos hj1] at h2
          have hp1 := get_getD hj1 0
          rcases Nat.lt_or_ge (q + 1) j with h3 | h3
          · have := asc_get h.asc h3 hp1 hj; omega
          · obtain rfl : j = q + 1 := by omega
            have := Option.some.inj (hp1.symm.trans hj); omega
        · rcases Nat.lt_or_ge j q with h3 | h3
          · have := asc_get h.asc h3 hj hp; omega
          · obtain rfl : j = q := by omega
            have := Option.some.inj (hp.symm.trans hj); omega
      · omega
    have e2 : c ≤ x.2.1 ↔ ps.getD q 0 ≤ x.2.1 := by
      constructor
      · omega
      · intro hx2
        by_cases hb : x.2.1 + 1 ≤ 1114111
        · obtain ⟨j, hj⟩ := List.mem_iff_getElem?.1 (c2 hb)
          have hqj : q < j := by
            rcases Nat.lt_or_ge q j with h3 | h3
            · exact h3
            · rcases Nat.lt_or_ge j q with h4 | h4
              · have := asc_get h.asc h4 hj hp; omega
              · obtain rfl : j = q := by omega
                have := Option.some.inj (hp.symm.trans hj); omega
          have hj1 : q + 1 < ps.length := by have := (List.getElem?_eq_some_iff.1 hj).1; omega
          unfold endZ at h2
          rw [if_pos hj1] at h2
          have hp1 := get_getD hj1 0
          rcases Nat.lt_or_ge (q + 1) j with h3 | h3
          · have := asc_get h.asc h3 hp1 hj; omega
          · obtain rfl : j = q + 1 := by omega
            have := Option.some.inj (hp1.symm.trans hj); omega
        · omega
    rw [Bool.eq_iff_iff, hitA_iff, hitA_iff, e1, e2]
  unfold nextA
  have : l.find? (fun x => decide (x.1 ≤ c) && decide (c ≤ x.2.1)) = l.find? (fun x => decide (x.1 ≤ ps.getD q 0) && decide (ps.getD q 0 ≤ x.2.1)) := by
    clear hl
    induction l with
    | nil => rfl
    | cons x l ih =>
      have h0 := hh x (by simp)
      unfold hitA at h0
      rw [List.find?_cons, List.find?_cons, h0, ih fun y hy => hh y (by simp [hy])]
  rw [this]
theorem cut_next {ps : List Int} (h : Pts ps) {A : Aut} (hA : ∀ l ∈ A.arcs, ∀ x ∈ l, CutAt ps (rngOf x)) {q : Nat} (hq : q < ps.length) {c : Int} (h1 : ps.getD q 0 ≤ c) (h2 : c ≤ endZ ps q) (s : Int) : nextQ A s c = nextQ A s (ps.getD q 0) := by
  unfold nextQ
  split
  · rfl
  · refine cut_same h (fun x hx => ?_) hq h1 h2
    cases hl : A.arcs[s.toNat]? with
    | none => simp [List.getD, hl] at hx
    | some l =>
      have e : A.arcs.getD s.toNat [] = l := by simp [List.getD, hl]
      rw [e] at hx
      exact hA l (List.mem_of_getElem? hl) x hx
theorem PairT.tab {A B : Aut} {ps : List Int} {ks : List (Int × Int)} {rows : List (List Int)} (t : PairT A B ps ks rows ks.length) (hP : Pts ps) (op : Int) : TabOk ps (ks.map (finP A B op)) rows := by
  refine ⟨hP, by rw [List.length_map]; exact t.rl, fun r hr => ?_⟩
  obtain ⟨j, hj⟩ := List.mem_iff_getElem?.1 hr
  have hlt := (List.getElem?_eq_some_iff.1 hj).1
  rw [t.rl] at hlt
  obtain ⟨h1, h2⟩ := t.ok j ks[j] r (List.getElem?_eq_getElem hlt) hj
  refine ⟨h1, fun k hk => ?_⟩
  obtain ⟨q, hq⟩ := List.mem_iff_getElem?.1 hk
  have hql := (List.getElem?_eq_some_iff.1 hq).1
  obtain ⟨a, b⟩ := h2 q _ k (get_getD (by omega) 0) hq
  have := (List.getElem?_eq_some_iff.1 b).1
  rw [List.length_map]; omega
theorem PairT.acc {A B : Aut} {ps : List Int} {ks : List (Int × Int)} {rows : List (List Int)} (t : PairT A B ps ks rows ks.length) (hP : Pts ps) (hA : ∀ l ∈ A.arcs, ∀ x ∈ l, CutAt ps (rngOf x)) (hB : ∀ l ∈ B.arcs, ∀ x ∈ l, CutAt ps (rngOf x)) (op : Int) :
    ∀ (cs : List Int) (i : Nat) (p : Int × Int), ks[i]? = some p → cs.all okC = true → Fn.acc (tabA ps (ks.map (finP A B op)) rows) i cs = decideZ (Fn.acc A p.1 cs) (Fn.acc B p.2 cs) op
  | [], i, p, hi, _ => by
    rw [acc_nil]
    show (ks.map (finP A B op)).getD i false = _
    simp only [List.getD, List.getElem?_map, hi]
    rfl
  | c :: cs, i, p, hi, hc => by
    simp only [List.all_cons, Bool.and_eq_true] at hc
    have hcr : 0 ≤ c ∧ c ≤ 1114111 := by have := hc.1; simp [okC] at this; exact this
    obtain ⟨q, hq, h1, h2⟩ := pts_cover hP hcr
    have hil := (List.getElem?_eq_some_iff.1 hi).1
    obtain ⟨r, hr⟩ : ∃ r, rows[i]? = some r := ⟨_, List.getElem?_eq_getElem (by rw [t.rl]; exact hil)⟩
    obtain ⟨r1, r2⟩ := t.ok i p r hi hr
    obtain ⟨k1, k2⟩ := r2 q _ _ (get_getD hq 0) (get_getD (by omega) 0)
    rw [acc_cons, acc_cons, acc_cons, (t.tab hP op).next hr hq h1 h2]
    have ih := PairT.acc t hP hA hB op cs _ _ k2 hc.2
    rw [Int.toNat_of_nonneg k1] at ih
    rw [ih]
    simp only [stepP]
    rw [cut_next hP hA hq h1 h2, cut_next hP hB hq h1 h2]
end Go.Proofs.YtlipmjpapkfaeaaGreatDoor.Fn
end
