/- automaton.explore over numbers (F82) in the machine. No condition but sizes.
Merged from 1 texts. -/
import Derived.Test.YtlipmjpapkfaeaaGreatDoorZC9
import Derived.Test.YtlipmjpapkfaeaaGreatDoorZC24
section
set_option linter.unusedSimpArgs false
set_option linter.unusedVariables false
set_option maxRecDepth 100000
namespace Go.Proofs.YtlipmjpapkfaeaaGreatDoor.Fn
open Go Go.Mach Go.RowKit Go.Proofs
attribute [local irreducible] AOps WPX DOps thenS blockS AOp GOps CPick

theorem envOf4 (v u x y : Value) : envOf 0 [v, u, x, y] .lf = eput (eput (eput (eput .lf (some 0) v) (some 1) u) (some 2) x) (some 3) y := rfl

def boolV (b : Bool) : List Value := [.bool b]
def oneL (v : Value) : List Value := [v]

/-- What holds between two states of the exploration. -/
structure OutI (W : World) (h hh : AHeap) (F : Int → Bool) (i : Nat) (ks : List Int) (As : List (List Arc3)) (ka : Option Addr) (kc : Nat) (fa : Option Addr) (fc : Nat) (oa : Option Addr) (oc : Nat) (vs : List Value) (g : AHeap) : Prop where
  le : i ≤ ks.length
  b8 : hh.own.get h.next = some (.cells [.slice none 0 0, .slice none 0 0])
  b10 : hh.own.get (h.next + 1) = some (.cells [.slice fa i fc, .slice oa i oc])
  mp : hh.own.get (h.next + 2) = some (.map (mapFrom numK 0 ks))
  nx : h.next + 3 ≤ hh.next
  kp : Keeps h hh
  keys : OwnV (h.next + 3) hh ka kc 1 (ks.map numV)
  fin : OwnV (h.next + 3) hh fa fc 1 ((ks.take i).map fun k => boolV (F k))
  out : OwnV (h.next + 3) hh oa oc 1 (vs.map oneL)
  kf : Apart ka fa
  ko : Apart ka oa
  fo : Apart fa oa
  vl : vs.length = i
  al : As.length = i
  sub : Sub g hh
  inner : ∀ (j : Nat) (x : Value) (l : List Arc3), vs[j]? = some x → As[j]? = some l → Sl W g 3 x (l.map arcV)
  g0 : ∀ j, j < h.next + 3 → g.own.get j = none
  gk : ∀ x, ka = some x → g.own.get x.block = none
  gf : ∀ x, fa = some x → g.own.get x.block = none
  go : ∀ x, oa = some x → g.own.get x.block = none

theorem OutI.keeps {W : World} {h hh hh' : AHeap} {F : Int → Bool} {i : Nat} {ks : List Int} {As : List (List Arc3)} {ka : Option Addr} {kc : Nat} {fa : Option Addr} {fc : Nat} {oa : Option Addr} {oc : Nat} {vs : List Value} {g : AHeap}
    (O : OutI W h hh F i ks As ka kc fa fc oa oc vs g) (k : Keeps hh hh') : OutI W h hh' F i ks As ka kc fa fc oa oc vs g :=
  have hn := O.nx
  ⟨O.le, by rw [k.same _ (by omega)]; exact O.b8, by rw [k.same _ (by omega)]; exact O.b10, by rw [k.same _ (by omega)]; exact O.mp, Nat.le_trans hn k.le, O.kp.trans k, O.keys.keeps k, O.fin.keeps k, O.out.keeps k, O.kf, O.ko, O.fo, O.vl, O.al, O.sub.keeps k, O.inner, O.g0, O.gk, O.gf, O.go⟩

theorem lookNum {H : AHeap} {b : Nat} {ks : List Int} (hb : H.own.get b = some (.map (mapFrom numK 0 ks))) (s : Int) :
    ∃ (q0 : Int) (b0 : Bool), lookupV (.sc .i) (.int .i64 0) H (.map (some b)) (.int .i64 s) true = some (.tuple #[.int .i64 q0, .bool b0]) ∧ (b0 = true → s ∈ ks ∧ q0 = (ks.idxOf s : Nat)) ∧ (b0 = false → s ∉ ks) := by
  by_cases hs : s ∈ ks
  · exact ⟨_, true, lookup_in keyedNum hb hs _ true, fun _ => ⟨hs, rfl⟩, fun h => by cases h⟩
  · exact ⟨_, false, lookup_out keyedNum hb hs _ true, (fun h => by cases h), fun _ => hs⟩

/-- What holds between two edges; H0: the heap where the state's edges were taken. -/
structure InnI (h H0 hh : AHeap) (ka : Option Addr) (ks' : List Int) (L : List Arc3) (ka' : Option Addr) (kc' : Nat) (la : Option Addr) (lc : Nat) : Prop where
  but : KeepsBut (fun x => x = h.next + 2 ∨ ∃ y, ka = some y ∧ y.block = x) H0 hh
  mp : hh.own.get (h.next + 2) = some (.map (mapFrom numK 0 ks'))
  keys : OwnV (h.next + 3) hh ka' kc' 1 (ks'.map numV)
  new : ∀ x, ka' = some x → (∃ y, ka = some y ∧ y.block = x.block) ∨ H0.next ≤ x.block
  arcs : OwnV H0.next hh la lc 3 (L.map arcV)
  apart : Apart la ka'

theorem InnI.nx {h H0 hh : AHeap} {ka : Option Addr} {ks' : List Int} {L : List Arc3} {ka' : Option Addr} {kc' : Nat} {la : Option Addr} {lc : Nat} (I : InnI h H0 hh ka ks' L ka' kc' la lc) (h0 : h.next + 3 ≤ H0.next) : h.next + 3 ≤ hh.next := Nat.le_trans h0 I.but.le

/-- New blocks change nothing. -/
theorem InnI.keeps {h H0 hh hh' : AHeap} {ka : Option Addr} {ks' : List Int} {L : List Arc3} {ka' : Option Addr} {kc' : Nat} {la : Option Addr} {lc : Nat} (I : InnI h H0 hh ka ks' L ka' kc' la lc) (h0 : h.next + 3 ≤ H0.next) (k : Keeps hh hh') : InnI h H0 hh' ka ks' L ka' kc' la lc :=
  ⟨I.but.keeps k, by rw [k.same _ (by have := I.but.le; omega)]; exact I.mp, I.keys.keeps k, I.new, I.arcs.keeps k, I.apart⟩

/-- A new key gets its number. -/
theorem InnI.addKey {W : World} {h H0 H1 : AHeap} {ka : Option Addr} {ks' : List Int} {L : List Arc3} {ka' : Option Addr} {kc' : Nat} {la : Option Addr} {lc : Nat} (I : InnI h H0 H1 ka ks' L ka' kc' la lc) (h0 : h.next + 3 ≤ H0.next) (kp : Keeps h H0) (hka : ∀ y, ka = some y → h.next + 3 ≤ y.block) {s : Int} (hl : ks'.length + 1 ≤ 1073741824) :
    ∃ a' c' h3, appA W ((H1.put (h.next + 2) (.map (mapFrom numK 0 (ks' ++ [s])))).new (.cells [.int .i64 s])) 1 (.slice ka' ks'.length kc') (.slice (some ⟨H1.next, 0, some 0⟩) 1 1) = some (.slice a' (ks' ++ [s]).length c', h3) ∧
      InnI h H0 h3 ka (ks' ++ [s]) L a' c' la lc ∧ H1.next < h3.next ∧ ∀ i, i < H1.next → i ≠ h.next + 2 → NotIn ka' i → h3.own.get i = H1.own.get i := by
  have hH0 := I.but.le
  obtain ⟨G1, hG1⟩ : ∃ G1, G1 = H1.put (h.next + 2) (.map (mapFrom numK 0 (ks' ++ [s]))) := ⟨_, rfl⟩
  have hG1n : G1.next = H1.next := by rw [hG1]; rfl
  have hG1g : ∀ i, i ≠ h.next + 2 → G1.own.get i = H1.own.get i := fun i hi => by rw [hG1, AHeap.put_get, if_neg hi]
  have hG1m : G1.own.get (h.next + 2) = some (.map (mapFrom numK 0 (ks' ++ [s]))) := by rw [hG1, AHeap.put_get, if_pos rfl]
  have hG1b : KeepsBut (fun x => x = h.next + 2 ∨ ∃ y, ka = some y ∧ y.block = x) H0 G1 := by rw [hG1]; exact I.but.put (.inr (.inl rfl)) _
  have hG1k : OwnV (h.next + 3) G1 ka' kc' 1 (ks'.map numV) := I.keys.same (fun i hi _ => hG1g i (by omega)) (by omega)
  have hG1l : OwnV H0.next G1 la lc 3 (L.map arcV) := I.arcs.same (fun i hi _ => hG1g i (by omega)) (by omega)
  have kpG : Keeps h G1 := hG1b.all kp (fun i hi => by
    rcases hi with rfl | ⟨y, hy, rfl⟩
    · omega
    · have := hka y hy; omega)
  rw [← hG1]
  obtain ⟨a', c', h3, g1, g2, g3, g4, g5, g6⟩ := OwnV.app (W := W) (h0 := h) (h := G1.new (.cells [.int .i64 s])) (b' := H1.next) (e := numV s) (hG1k.keeps ((Keeps.refl _).new _)) (kpG.new _) (by omega) (by rw [AHeap.new_next]; omega)
    (by rw [AHeap.new_get, hG1n, if_pos rfl]; rfl) (by rw [AHeap.new_next]; omega) rfl rfl (by simpa using hl)
  have hn3 : h3.next = H1.next + 2 := by rw [g4, AHeap.new_next, hG1n]
  have gsame : ∀ i, i < H1.next → i ≠ h.next + 2 → NotIn ka' i → h3.own.get i = H1.own.get i := fun i hi hm hn => by
    rw [g5 i (by rw [AHeap.new_next]; omega) hn, AHeap.new_get, if_neg (by omega), hG1g i hm]
  refine ⟨a', c', h3, by simpa using g1, ⟨?_, ?_, by simpa using g2, fun x hx => .inr ?_, ?_, ?_⟩, by omega, gsame⟩
  · refine (hG1b.new _).step g5 (by omega) fun y hy => ?_
    rcases I.new y hy with ⟨z, hz, e⟩ | hz
    · exact .inr (.inr ⟨z, hz, e⟩)
    · exact .inl hz
  · rw [g5 (h.next + 2) (by rw [AHeap.new_next]; omega) (hG1k.notOld (by omega)), AHeap.new_get, if_neg (by omega)]; exact hG1m
  · have hnot := g6
    rcases Nat.lt_or_ge x.block (H1.next + 1) with hlt | hge
    · exact absurd rfl (hnot x.block (by rw [AHeap.new_next]; omega) x hx)
    · omega
  · refine OwnV.other (hG1l.keeps ((Keeps.refl _).new _)) g5 (by rw [g4]; omega) I.apart
  · exact (hG1l.keeps ((Keeps.refl _).new (.cells [.int .i64 s]))).apartNew g6

theorem InnI.kp {h H0 hh : AHeap} {ka : Option Addr} {ks' : List Int} {L : List Arc3} {ka' : Option Addr} {kc' : Nat} {la : Option Addr} {lc : Nat} (I : InnI h H0 hh ka ks' L ka' kc' la lc) (kp : Keeps h H0) (hka : ∀ y, ka = some y → h.next + 3 ≤ y.block) : Keeps h hh :=
  I.but.all kp (fun i hi => by
    rcases hi with rfl | ⟨y, hy, rfl⟩
    · omega
    · have := hka y hy; omega)

/-- The last arc is lengthened. -/
theorem InnI.join {h H0 H1 : AHeap} {ka : Option Addr} {ks' : List Int} {l0 : List Arc3} {f' t' s' : Int} {ka' : Option Addr} {kc' : Nat} {la : Option Addr} {lc : Nat} (I : InnI h H0 H1 ka ks' (l0 ++ [(f', t', s')]) ka' kc' la lc) (h0 : h.next + 3 ≤ H0.next) (t : Int) :
    ∃ b C, la = some ⟨b, 0, some 0⟩ ∧ lc = 3 ∧ H0.next ≤ b ∧ b < H1.next ∧ H1.own.get b = some (.cells C) ∧ C[l0.length * 3 + 1]? = some (.int .i32 t') ∧ C[l0.length * 3 + 2]? = some (.int .i64 s') ∧ Nat.ble (l0.length * 3 + 2) C.length = true ∧
      ∃ C2, splice C (l0.length * 3 + 1) [.int .i32 t] = C2 ∧ InnI h H0 (H1.put b (.cells C2)) ka ks' (l0 ++ [(f', t, s')]) ka' kc' la lc := by
  rcases I.arcs with ⟨_, _, hnil⟩ | ⟨b, rfl, rfl, hb1, hb2⟩
  · simp at hnil
  obtain ⟨C, hC, hC1, hC2, hble, C2, hsp, ho2⟩ := Ow.lastArc hb2 t
  refine ⟨b, C, rfl, rfl, hb1, hb2.lt, hC, hC1, hC2, hble, C2, hsp, I.but.put (.inl hb1) _, ?_, ?_, I.new, .inr ⟨b, rfl, rfl, hb1, ho2⟩, I.apart⟩
  · rw [AHeap.put_get, if_neg (by omega)]; exact I.mp
  · rcases I.keys with o | ⟨b2, e1, e2, e3, e4⟩
    · exact .inl o
    · have hne : b ≠ b2 := I.apart _ _ rfl e1
      exact .inr ⟨b2, e1, e2, e3, e4.same (by rw [AHeap.put_get, if_neg (fun e => hne e.symm)]) (Nat.le_refl _)⟩

/-- An arc is put behind. -/
theorem InnI.newArc {W : World} {h H0 H1 : AHeap} {ka : Option Addr} {ks' : List Int} {L : List Arc3} {ka' : Option Addr} {kc' : Nat} {la : Option Addr} {lc : Nat} (I : InnI h H0 H1 ka ks' L ka' kc' la lc) (h0 : h.next + 3 ≤ H0.next) (kp : Keeps h H0) (hka : ∀ y, ka = some y → h.next + 3 ≤ y.block) (x : Arc3) (hl : L.length + 1 ≤ 1073741824) :
    ∃ a' c' h3, appA W (H1.new (.cells (arcV x))) 3 (.slice la L.length lc) (.slice (some ⟨H1.next, 0, some 0⟩) 1 3) = some (.slice a' (L ++ [x]).length c', h3) ∧ InnI h H0 h3 ka ks' (L ++ [x]) ka' kc' a' c' := by
  have hH0 := I.but.le
  obtain ⟨a', c', h3, g1, g2, g3, g4, g5, g6⟩ := OwnV.app (W := W) (h0 := h) (h := H1.new (.cells (arcV x))) (b' := H1.next) (e := arcV x) (I.arcs.keeps ((Keeps.refl _).new _)) ((I.kp kp hka).new _) (by omega) (by rw [AHeap.new_next]; omega)
    (by rw [AHeap.new_get, if_pos rfl]) (by rw [AHeap.new_next]; omega) rfl rfl (by simpa using hl)
  have hlo : ∀ y, la = some y → H0.next ≤ y.block := fun y hy => (I.arcs.lt hy).1
  refine ⟨a', c', h3, by simpa using g1, ⟨(I.but.new _).step g5 (by rw [g4]; omega) fun y hy => .inl (hlo y hy), ?_, ?_, I.new, by simpa using g2, ?_⟩⟩
  · rw [g5 (h.next + 2) (by rw [AHeap.new_next]; omega) (fun y hy => by have := hlo y hy; omega), AHeap.new_get, if_neg (by omega)]; exact I.mp
  · exact OwnV.other (I.keys.keeps ((Keeps.refl _).new _)) g5 (by rw [g4]; omega) I.apart.symm
  · exact ((I.keys.keeps ((Keeps.refl _).new (.cells (arcV x)))).apartNew g6).symm
/-- All that lies in memory while a state is finished; FL, OL: what the two lists hold by now. -/
structure Bn (h hh : AHeap) (ks : List Int) (ka : Option Addr) (kc : Nat) (fa : Option Addr) (fc : Nat) (FL : List (List Value)) (oa : Option Addr) (oc : Nat) (OL : List (List Value)) (la : Option Addr) (lc : Nat) (L : List Arc3) (g : AHeap) : Prop where
  b8 : hh.own.get h.next = some (.cells [.slice none 0 0, .slice none 0 0])
  mp : hh.own.get (h.next + 2) = some (.map (mapFrom numK 0 ks))
  nx : h.next + 3 ≤ hh.next
  kp : Keeps h hh
  keys : OwnV (h.next + 3) hh ka kc 1 (ks.map numV)
  fin : OwnV (h.next + 3) hh fa fc 1 FL
  out : OwnV (h.next + 3) hh oa oc 1 OL
  arcs : OwnV (h.next + 3) hh la lc 3 (L.map arcV)
  kf : Apart ka fa
  ko : Apart ka oa
  fo : Apart fa oa
  lk : Apart la ka
  lf : Apart la fa
  lo : Apart la oa
  sub : Sub g hh
  g0 : ∀ j, j < h.next + 3 → g.own.get j = none
  gk : ∀ x, ka = some x → g.own.get x.block = none
  gf : ∀ x, fa = some x → g.own.get x.block = none
  go : ∀ x, oa = some x → g.own.get x.block = none
  gl : ∀ x, la = some x → g.own.get x.block = none

section
variable {h hh : AHeap} {ks : List Int} {ka : Option Addr} {kc : Nat} {fa : Option Addr} {fc : Nat} {FL : List (List Value)} {oa : Option Addr} {oc : Nat} {OL : List (List Value)} {la : Option Addr} {lc : Nat} {L : List Arc3} {g : AHeap}

theorem Bn.new (B : Bn h hh ks ka kc fa fc FL oa oc OL la lc L g) (b : ABlk) : Bn h (hh.new b) ks ka kc fa fc FL oa oc OL la lc L g :=
  have k : Keeps hh (hh.new b) := (Keeps.refl hh).new b
  have hn := B.nx
  ⟨by rw [k.same _ (by omega)]; exact B.b8, by rw [k.same _ (by omega)]; exact B.mp, Nat.le_trans hn k.le, B.kp.trans k, B.keys.keeps k, B.fin.keeps k, B.out.keeps k, B.arcs.keeps k, B.kf, B.ko, B.fo, B.lk, B.lf, B.lo, B.sub.keeps k, B.g0, B.gk, B.gf, B.go, B.gl⟩
theorem Bn.put10 (B : Bn h hh ks ka kc fa fc FL oa oc OL la lc L g) (b : ABlk) : Bn h (hh.put (h.next + 1) b) ks ka kc fa fc FL oa oc OL la lc L g :=
  have hs : ∀ i, h.next + 3 ≤ i → i < hh.next → (hh.put (h.next + 1) b).own.get i = hh.own.get i := fun i hi _ => by rw [AHeap.put_get, if_neg (by omega)]
  ⟨by rw [AHeap.put_get, if_neg (by omega)]; exact B.b8, by rw [AHeap.put_get, if_neg (by omega)]; exact B.mp, B.nx, B.kp.put (by omega) _, B.keys.same hs (Nat.le_refl _), B.fin.same hs (Nat.le_refl _), B.out.same hs (Nat.le_refl _), B.arcs.same hs (Nat.le_refl _),
    B.kf, B.ko, B.fo, B.lk, B.lf, B.lo, B.sub.put (B.g0 _ (by omega)) _, B.g0, B.gk, B.gf, B.go, B.gl⟩

theorem fresh_g {g hh : AHeap} (s : Sub g hh) {a' : Option Addr} (hn : ∀ i, i < hh.next → NotIn a' i) : ∀ x, a' = some x → g.own.get x.block = none := fun x hx => by
  cases hg : g.own.get x.block with
  | none => rfl
  | some b => exact absurd rfl (hn x.block (s.same _ _ hg).1 x hx)

theorem Bn.appFin {W : World} (B : Bn h hh ks ka kc fa fc FL oa oc OL la lc L g) {b' : Nat} {v : Value} (hb : hh.own.get b' = some (.cells [v])) (hb' : b' < hh.next) (h1 : oneV v = true) (hl : FL.length + 1 ≤ 1073741824) :
    ∃ a' c' h', appA W hh 1 (.slice fa FL.length fc) (.slice (some ⟨b', 0, some 0⟩) 1 1) = some (.slice a' (FL.length + 1) c', h') ∧ Bn h h' ks ka kc a' c' (FL ++ [[v]]) oa oc OL la lc L g ∧ h'.own.get (h.next + 1) = hh.own.get (h.next + 1) := by
  have hn := B.nx
  obtain ⟨a', c', h3, g1, g2, g3, g4, g5, g6⟩ := OwnV.app (W := W) (e := [v]) B.fin B.kp (by omega) hn hb hb' rfl (by simp [h1]) hl
  have hlo : ∀ i, i < h.next + 3 → NotIn fa i := fun i hi => B.fin.notOld hi
  have hn3 : hh.next ≤ h3.next := by omega
  refine ⟨a', c', h3, by rw [g1]; simp, ⟨?_, ?_, by omega, g3, B.keys.other g5 hn3 B.kf, g2, B.out.other g5 hn3 B.fo.symm, B.arcs.other g5 hn3 B.lf, B.keys.apartNew g6, B.ko, (B.out.apartNew g6).symm, B.lk, B.arcs.apartNew g6, B.lo, B.sub.step g5 hn3 B.gf, B.g0, B.gk, fresh_g B.sub g6, B.go, B.gl⟩, ?_⟩
  · rw [g5 _ (by omega) (hlo _ (by omega))]; exact B.b8
  · rw [g5 _ (by omega) (hlo _ (by omega))]; exact B.mp
  · exact g5 _ (by omega) (hlo _ (by omega))

theorem Bn.appOut {W : World} (B : Bn h hh ks ka kc fa fc FL oa oc OL la lc L g) {b' : Nat} {v : Value} (hb : hh.own.get b' = some (.cells [v])) (hb' : b' < hh.next) (h1 : oneV v = true) (hl : OL.length + 1 ≤ 1073741824) :
    ∃ a' c' h', appA W hh 1 (.slice oa OL.length oc) (.slice (some ⟨b', 0, some 0⟩) 1 1) = some (.slice a' (OL.length + 1) c', h') ∧ Bn h h' ks ka kc fa fc FL a' c' (OL ++ [[v]]) la lc L g ∧ h'.own.get (h.next + 1) = hh.own.get (h.next + 1) := by
  have hn := B.nx
  obtain ⟨a', c', h3, g1, g2, g3, g4, g5, g6⟩ := OwnV.app (W := W) (e := [v]) B.out B.kp (by omega) hn hb hb' rfl (by simp [h1]) hl
  have hlo : ∀ i, i < h.next + 3 → NotIn oa i := fun i hi => B.out.notOld hi
  have hn3 : hh.next ≤ h3.next := by omega
  refine ⟨a', c', h3, by rw [g1]; simp, ⟨?_, ?_, by omega, g3, B.keys.other g5 hn3 B.ko, B.fin.other g5 hn3 B.fo, g2, B.arcs.other g5 hn3 B.lo, B.kf, B.keys.apartNew g6, B.fin.apartNew g6, B.lk, B.lf, B.arcs.apartNew g6, B.sub.step g5 hn3 B.go, B.g0, B.gk, B.gf, fresh_g B.sub g6, B.gl⟩, ?_⟩
  · rw [g5 _ (by omega) (hlo _ (by omega))]; exact B.b8
  · rw [g5 _ (by omega) (hlo _ (by omega))]; exact B.mp
  · exact g5 _ (by omega) (hlo _ (by omega))
end

/-- A state is finished. -/
theorem OutI.next {W : World} {h H0 h2 h3 : AHeap} {F : Int → Bool} {i : Nat} {k : Int} {ks ks' : List Int} {As : List (List Arc3)} {ka : Option Addr} {kc : Nat} {fa : Option Addr} {fc : Nat} {oa : Option Addr} {oc : Nat} {vs : List Value} {g : AHeap} {L : List Arc3} {ka' : Option Addr} {kc' : Nat} {la : Option Addr} {lc : Nat}
    (O : OutI W h H0 F i ks As ka kc fa fc oa oc vs g) (I : InnI h H0 h2 ka ks' L ka' kc' la lc) (k3 : Keeps h2 h3) (hk : ks'[i]? = some k) (hpre : ks'.take i = ks.take i) (hb : i + 1 ≤ 1073741824) :
    h2.own.get (h.next + 1) = some (.cells [.slice fa i fc, .slice oa i oc]) ∧ h3.own.get (h.next + 1) = some (.cells [.slice fa i fc, .slice oa i oc]) ∧ h.next + 1 < h3.next ∧
    ∃ fa' fc' h4, appA W (h3.new (.cells [.bool (F k)])) 1 (.slice fa i fc) (.slice (some ⟨h3.next, 0, some 0⟩) 1 1) = some (.slice fa' (i + 1) fc', h4) ∧ h4.own.get (h.next + 1) = some (.cells [.slice fa i fc, .slice oa i oc]) ∧ h.next + 1 < h4.next ∧
    ∃ oa' oc' h6, appA W ((h4.put (h.next + 1) (.cells [.slice fa' (i + 1) fc', .slice oa i oc])).new (.cells [.slice la L.length lc])) 1 (.slice oa i oc) (.slice (some ⟨h4.next, 0, some 0⟩) 1 1) = some (.slice oa' (i + 1) oc', h6) ∧
      h6.own.get (h.next + 1) = some (.cells [.slice fa' (i + 1) fc', .slice oa i oc]) ∧
    ∃ g', OutI W h (h6.put (h.next + 1) (.cells [.slice fa' (i + 1) fc', .slice oa' (i + 1) oc'])) F (i + 1) ks' (As ++ [L]) ka' kc' fa' fc' oa' oc' (vs ++ [.slice la L.length lc]) g' := by
  have hn := O.nx
  have hilt : i < ks'.length := (List.getElem?_eq_some_iff.1 hk).1
  have hle := O.le
  have I3 := I.keeps hn k3
  have hMk : ∀ y, ka = some y → h.next + 3 ≤ y.block ∧ y.block < H0.next := fun y hy => O.keys.lt hy
  have notM : ∀ j, j ≠ h.next + 2 → j < h.next + 3 → ¬ (j = h.next + 2 ∨ ∃ y, ka = some y ∧ y.block = j) := fun j h1 h2 hm => by
    rcases hm with hm | ⟨y, hy, hm⟩
    · exact h1 hm
    · have := (hMk y hy).1; omega
  have b10 : ∀ {hx}, KeepsBut (fun x => x = h.next + 2 ∨ ∃ y, ka = some y ∧ y.block = x) H0 hx → hx.own.get (h.next + 1) = some (.cells [.slice fa i fc, .slice oa i oc]) := fun kb => by
    rw [kb.same _ (by omega) (notM _ (by omega) (by omega))]; exact O.b10
  have b8 : h3.own.get h.next = some (.cells [.slice none 0 0, .slice none 0 0]) := by
    rw [I3.but.same _ (by omega) (notM _ (by omega) (by omega))]; exact O.b8
  have hfin3 := O.fin.but I3.but (fun y hy hm => by
    have := (O.fin.lt hy).1
    rcases hm with hm | ⟨z, hz, hm⟩
    · omega
    · exact O.kf z y hz hy hm)
  have hout3 := O.out.but I3.but (fun y hy hm => by
    have := (O.out.lt hy).1
    rcases hm with hm | ⟨z, hz, hm⟩
    · omega
    · exact O.ko z y hz hy hm)
  have hsub3 : Sub g h3 := O.sub.but I3.but (fun j hm => by
    rcases hm with rfl | ⟨z, hz, rfl⟩
    · exact O.g0 _ (by omega)
    · exact O.gk z hz)
  have hnew : ∀ (x : Addr), H0.next ≤ x.block → g.own.get x.block = none := fun x hx => by
    cases hg : g.own.get x.block with
    | none => rfl
    | some b => have := (O.sub.same _ _ hg).1; omega
  have hla : ∀ x, la = some x → H0.next ≤ x.block := fun x hx => (I3.arcs.lt hx).1
  have apK : ∀ {a : Option Addr} {c : Nat} {es : List (List Value)}, OwnV (h.next + 3) H0 a c 1 es → Apart ka a → Apart ka' a := fun o hap x y hx hy e => by
    rcases I.new x hx with ⟨z, hz, hzx⟩ | hz
    · exact hap z y hz hy (by omega)
    · have := (o.lt hy).2; omega
  have apL : ∀ {a : Option Addr} {c : Nat} {es : List (List Value)}, OwnV (h.next + 3) H0 a c 1 es → Apart la a := fun o x y hx hy e => by
    have := hla x hx; have := (o.lt hy).2; omega
  have B3 : Bn h h3 ks' ka' kc' fa fc ((ks.take i).map fun k => boolV (F k)) oa oc (vs.map oneL) la lc L g :=
    ⟨b8, I3.mp, I3.nx hn, I3.kp O.kp (fun y hy => (hMk y hy).1), I3.keys, hfin3, hout3, I3.arcs.base hn, apK O.fin O.kf, apK O.out O.ko, O.fo, I3.apart, apL O.fin, apL O.out, hsub3, O.g0, (fun x hx => by
      rcases I.new x hx with ⟨z, hz, hzx⟩ | hz
      · rw [← hzx]; exact O.gk z hz
      · exact hnew x hz), O.gf, O.go, fun x hx => hnew x (hla x hx)⟩
  have hFL : ((ks.take i).map fun k => boolV (F k)).length = i := by simp; omega
  have hOL : (vs.map oneL).length = i := by simp [O.vl]
  have h3n : h.next + 3 ≤ h3.next := I3.nx hn
  obtain ⟨fa', fc', h4, e1, B4, e2⟩ := (B3.new (.cells [.bool (F k)])).appFin (W := W) (b' := h3.next) (v := .bool (F k)) (by rw [AHeap.new_get, if_pos rfl]) (by rw [AHeap.new_next]; omega) rfl (by rw [hFL]; exact hb)
  rw [hFL] at e1
  have b104 : h4.own.get (h.next + 1) = some (.cells [.slice fa i fc, .slice oa i oc]) := by rw [e2, AHeap.new_get, if_neg (by omega)]; exact b10 I3.but
  have B5 := (B4.put10 (.cells [.slice fa' (i + 1) fc', .slice oa i oc])).new (.cells [.slice la L.length lc])
  obtain ⟨oa', oc', h6, e3, B6, e4⟩ := B5.appOut (W := W) (b' := h4.next) (v := .slice la L.length lc) (by rw [AHeap.new_get, AHeap.put_next, if_pos rfl]) (by rw [AHeap.new_next, AHeap.put_next]; omega) rfl (by rw [hOL]; exact hb)
  rw [hOL] at e3
  have h4n := B4.nx
  have b106 : h6.own.get (h.next + 1) = some (.cells [.slice fa' (i + 1) fc', .slice oa i oc]) := by
    rw [e4, AHeap.new_get, AHeap.put_next, if_neg (by omega), AHeap.put_get, if_pos rfl]
  refine ⟨b10 I.but, b10 I3.but, by omega, fa', fc', h4, e1, b104, by omega, oa', oc', h6, e3, b106, ?_⟩
  have B7 := B6.put10 (.cells [.slice fa' (i + 1) fc', .slice oa' (i + 1) oc'])
  have hFL' : (ks.take i).map (fun k => boolV (F k)) ++ [[.bool (F k)]] = (ks'.take (i + 1)).map fun k => boolV (F k) := by
    rw [List.take_add_one, hk, hpre]; simp [boolV]
  have hOL' : vs.map oneL ++ [[Value.slice la L.length lc]] = (vs ++ [Value.slice la L.length lc]).map oneL := by simp [oneL]
  have fin7 := B7.fin
  rw [hFL'] at fin7
  have out7 := B7.out
  rw [hOL'] at out7
  have inner' : ∀ g', (∀ (j : Nat) (x : Value) (l : List Arc3), vs[j]? = some x → As[j]? = some l → Sl W g' 3 x (l.map arcV)) → Sl W g' 3 (.slice la L.length lc) (L.map arcV) → ∀ (j : Nat) (x : Value) (l : List Arc3), (vs ++ [Value.slice la L.length lc])[j]? = some x → (As ++ [L])[j]? = some l → Sl W g' 3 x (l.map arcV) := by
    intro g' h1 h2 j x l hx hl
    have hv := O.vl
    have ha := O.al
    by_cases hj : j < i
    · rw [List.getElem?_append_left (by omega)] at hx hl
      exact h1 j x l hx hl
    · rw [List.getElem?_append_right (by omega)] at hx hl
      by_cases hj0 : j = i
      · subst hj0
        rw [hv] at hx; rw [ha] at hl
        simp at hx hl
        subst hx hl; exact h2
      · rw [List.getElem?_eq_none (by simp; omega)] at hx; cases hx
  rcases B7.arcs with ⟨hla0, hlc0, hL0⟩ | ⟨b, hb1, hb2, hb3, hb4⟩
  · refine ⟨g, by omega, B7.b8, by rw [AHeap.put_get, if_pos rfl], B7.mp, B7.nx, B7.kp, B7.keys, fin7, out7, B7.kf, B7.ko, B7.fo, by simp [O.vl], by simp [O.al], B7.sub, inner' g O.inner ?_, B7.g0, B7.gk, B7.gf, B7.go⟩
    have hL : L = [] := by simpa using hL0
    subst hla0 hlc0 hL
    exact ⟨none, 0, rfl, (fun b hb => by cases hb), fun _ => ⟨rfl, rfl⟩⟩
  · obtain ⟨g', s1, s2, s3, s4⟩ := B7.sub.freeze hb4
    have hgb : g.own.get b = none := B7.gl _ hb1
    have s5 := s4 hgb
    have nb : ∀ {a : Option Addr}, Apart la a → (∀ x, a = some x → g.own.get x.block = none) → ∀ x, a = some x → g'.own.get x.block = none := fun hap hg x hx => (s2 _).2 ⟨hg x hx, fun e => hap _ x hb1 hx e.symm⟩
    refine ⟨g', by omega, B7.b8, by rw [AHeap.put_get, if_pos rfl], B7.mp, B7.nx, B7.kp, B7.keys, fin7, out7, B7.kf, B7.ko, B7.fo, by simp [O.vl], by simp [O.al], s1, inner' g' (fun j x l hx hl => (O.inner j x l hx hl).sub s5) ?_, fun j h2 => (s2 _).2 ⟨B7.g0 j h2, by omega⟩, nb B7.lk B7.gk, nb B7.lf B7.gf, nb B7.lo B7.go⟩
    have := s3.sl (W := W)
    rw [List.length_map] at this
    rw [hb1, hb2]; exact this
end Go.Proofs.YtlipmjpapkfaeaaGreatDoor.Fn
end
