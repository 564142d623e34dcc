/- An argument that can be read as data, as the machine sees it: lists of booleans, of arcs, of lists; an automaton. No condition. -/
import Derived.Test.YtlipmjpapkfaeaaGreatDoorG1
set_option linter.unusedSimpArgs false
set_option linter.unusedVariables false
namespace Go.Mach
open Go Go.RowKit Go.ChangeShapes

/-- What the machine sees in place of a value read from memory. -/
def absV (v : Value) : Value := bif plainV v then v else .slice (some ⟨0, 0, some 1⟩) 0 0
def seenV (v : Value) : Prop := plainV v = true ∨ ∃ b, v = .slice (some b) 0 0

theorem absV_plain {v : Value} (h : plainV v = true) : absV v = v := by unfold absV; rw [h]; rfl

theorem absV_rel {μ : PMap} {v : Value} (h : seenV v) : VR μ (absV v) v := by
  cases hp : plainV v with
  | true => rw [absV_plain hp]; exact .plain hp
  | false =>
    rcases h with h | ⟨b, rfl⟩
    · rw [hp] at h; cases h
    · unfold absV; rw [hp]; exact .empty

theorem absV_load {W : World} {h : AHeap} {a : Addr} {v : Value} (ha : a.spot = none) (hc : W.cell? a = some v) (hs : seenV v) : aload1 W h a = some (absV v) := by
  unfold aload1
  simp only [ha, hc]
  cases hp : plainV v with
  | true => rw [absV_plain hp]; rfl
  | false =>
    rcases hs with hs | ⟨b, rfl⟩
    · rw [hp] at hs; cases hs
    · unfold absV; rw [hp]; rfl

section
variable {H : Type} {enc : TypeId × Value → H} {P : Program} {W : World} {base : Nat} {sp : Nat → Bool} {held : Bool}

theorem sl_seen {a : Option Addr} {n c : Nat} (h0 : a = none → n = 0 ∧ c = 0) (h1 : ∀ b, a = some b → b.spot = none ∨ (n = 0 ∧ c = 0)) : seenV (.slice a n c) := by
  cases a with
  | none => obtain ⟨rfl, rfl⟩ := h0 rfl; exact .inl rfl
  | some b =>
    rcases h1 b rfl with h | ⟨rfl, rfl⟩
    · left; simp [plainV, h]
    · exact .inr ⟨b, rfl⟩

theorem Sl_of {h : AHeap} {esz : Nat} {l : List (List Value)} {a : Option Addr} {c : Nat} (h0 : a = none → l = [] ∧ c = 0)
    (h1 : ∀ b, a = some b → (b.spot = none ∨ (l = [] ∧ c = 0)) ∧ ∀ (i : Nat) xs, l[i]? = some xs → W.cells? base (b.add (i * esz)) esz = some xs ∧ ∀ u ∈ xs, seenV u) :
    Sl W h esz (absV (.slice a l.length c)) (l.map (·.map absV)) := by
  cases a with
  | none =>
    obtain ⟨rfl, rfl⟩ := h0 rfl
    exact ⟨none, 0, rfl, (fun b hb => by cases hb), fun _ => ⟨rfl, rfl⟩⟩
  | some b =>
    obtain ⟨g1, g2⟩ := h1 b rfl
    cases hb : b.spot with
    | none =>
      have hp : plainV (.slice (some b) l.length c) = true := by simp [plainV, hb]
      refine ⟨some b, c, by rw [absV_plain hp, List.length_map], fun b' hb' => ?_, fun h => by cases h⟩
      cases hb'
      refine ⟨.inr (.inl hb), fun i x hx => ?_⟩
      rw [List.getElem?_map] at hx
      cases hl : l[i]? with
      | none => rw [hl] at hx; cases hx
      | some xs =>
        rw [hl] at hx
        simp only [Option.map_some, Option.some.injEq] at hx
        subst hx
        obtain ⟨k1, k2⟩ := g2 i xs hl
        obtain ⟨k3, k4⟩ := cells_get k1
        refine ⟨by simp [k3], fun j u hu => ?_⟩
        rw [List.getElem?_map] at hu
        cases hx : xs[j]? with
        | none => rw [hx] at hu; cases hu
        | some y =>
          rw [hx] at hu
          simp only [Option.map_some, Option.some.injEq] at hu
          subst hu
          have k5 := k4 j y hx
          have e : (b.add (i * esz)).add j = aadd b (i * esz + j) := by
            rw [aadd_base hb, aadd_base (show (aadd b (i * esz)).spot = none from hb)]
            simp [aadd, Nat.add_assoc]
          rw [e] at k5
          exact ⟨absV_load hb k5 (k2 y (List.mem_of_getElem? hx)), fun hh => absurd hb hh⟩
    | some q =>
      obtain ⟨rfl, rfl⟩ : l = [] ∧ c = 0 := by
        rcases g1 with g | g
        · rw [hb] at g; cases g
        · exact g
      have e : absV (.slice (some b) ([] : List (List Value)).length 0) = .slice (some ⟨0, 0, some 1⟩) 0 0 := by simp [absV, plainV, hb]
      rw [e]
      exact ⟨some ⟨0, 0, some 1⟩, 0, rfl, (fun b' hb' => ⟨.inl rfl, fun i x hx => by simp at hx⟩), fun h => by cases h⟩

theorem open_bool {t : TypeId} {fuel : Nat} {cs : List Value} {x : DataW H × List MemPlace} (ht : P.underlying t = some .bool) (h : DataW.trod enc P W base sp held fuel t cs = some x) : ∃ b, cs = [.bool b] := by
  cases fuel with
  | zero => unfold DataW.trod at h; cases h
  | succ fuel =>
    unfold DataW.trod at h
    rw [ht] at h
    simp only at h
    split at h <;> rename_i hu hv <;> first | (cases hu; done) | (cases hv; done) | skip
    · exact ⟨_, rfl⟩
    · cases h

theorem open_int {t : TypeId} {k : IntKind} {fuel : Nat} {cs : List Value} {x : DataW H × List MemPlace} (ht : P.underlying t = some (.int k)) (h : DataW.trod enc P W base sp held fuel t cs = some x) : ∃ n, cs = [.int k n] ∧ (Lit.int k n).wf = true := by
  cases fuel with
  | zero => unfold DataW.trod at h; cases h
  | succ fuel =>
    unfold DataW.trod at h
    rw [ht] at h
    simp only at h
    split at h <;> rename_i hu hv <;> first | (cases hu; done) | (cases hv; done) | skip
    · injection hv with hv
      injection hv with hv
      subst hv
      split at h
      · rename_i hh; obtain ⟨rfl, h2⟩ := hh; exact ⟨_, rfl, h2⟩
      · cases h
    · cases h

theorem open_string {t : TypeId} {fuel : Nat} {cs : List Value} {x : DataW H × List MemPlace} (ht : P.underlying t = some .string) (h : DataW.trod enc P W base sp held fuel t cs = some x) : ∃ s, cs = [.string s] ∧ s.size ≤ maxLen := by
  cases fuel with
  | zero => unfold DataW.trod at h; cases h
  | succ fuel =>
    unfold DataW.trod at h
    rw [ht] at h
    simp only at h
    split at h <;> rename_i hu hv <;> first | (cases hu; done) | (cases hv; done) | skip
    · split at h
      · rename_i hh; exact ⟨_, rfl, hh⟩
      · cases h
    · cases h

theorem open_struct {t : TypeId} {fs : Array Field} {fuel : Nat} {cs : List Value} {x : DataW H × List MemPlace} (ht : P.underlying t = some (.struct fs)) (h : DataW.trod enc P W base sp held (fuel + 1) t cs = some x) :
    cs.length = P.cellsOf t ∧ ∀ (i : Nat) f, fs[i]? = some f → ∃ y, DataW.trod enc P W base sp held fuel f.type ((cs.drop f.offset).take (P.cellsOf f.type)) = some y := by
  unfold DataW.trod at h
  rw [ht] at h
  simp only at h
  · split at h
    · rename_i hl
      cases hm : fs.toList.mapM fun f => DataW.trod enc P W base sp held fuel f.type ((cs.drop f.offset).take (P.cellsOf f.type)) with
      | none => rw [hm] at h; cases h
      | some ys =>
        obtain ⟨_, h2⟩ := mapM_get hm
        refine ⟨hl, fun i f hf => ?_⟩
        obtain ⟨y, _, hy⟩ := h2 i f (by simpa using hf)
        exact ⟨y, hy⟩
    · cases h

/-- What is asked of the types of automata. -/
structure AutT (P : Program) (tA tF tB tL tR tX t32 t64 : TypeId) : Prop where
  uA : ∃ fs : Array Field, P.underlying tA = some (.struct fs) ∧ ∃ f g, fs[0]? = some f ∧ fs[1]? = some g ∧ f.type = tF ∧ f.offset = 0 ∧ g.type = tL ∧ g.offset = 1
  cA : P.cellsOf tA = 2
  uF : P.underlying tF = some (.slice tB)
  cF : P.cellsOf tF = 1
  uB : P.underlying tB = some .bool
  cB : P.cellsOf tB = 1
  uL : P.underlying tL = some (.slice tR)
  cL : P.cellsOf tL = 1
  uR : P.underlying tR = some (.slice tX)
  cR : P.cellsOf tR = 1
  uX : ∃ fs : Array Field, P.underlying tX = some (.struct fs) ∧ ∃ f g h, fs[0]? = some f ∧ fs[1]? = some g ∧ fs[2]? = some h ∧ f.type = t32 ∧ f.offset = 0 ∧ g.type = t32 ∧ g.offset = 1 ∧ h.type = t64 ∧ h.offset = 2
  cX : P.cellsOf tX = 3
  u32 : P.underlying t32 = some (.int .i32)
  c32 : P.cellsOf t32 = 1
  u64 : P.underlying t64 = some (.int .i64)
  c64 : P.cellsOf t64 = 1

theorem seen_plains {xs : List Value} (h : ∀ u ∈ xs, plainV u = true) : xs.map absV = xs ∧ ∀ u ∈ xs, seenV u :=
  ⟨by conv => rhs; rw [← List.map_id xs]
      exact List.map_congr_left fun u hu => absV_plain (h u hu), fun u hu => .inl (h u hu)⟩

variable {tA tF tB tL tR tX t32 t64 : TypeId}

theorem open_arc (T : AutT P tA tF tB tL tR tX t32 t64) {fuel : Nat} {cs : List Value} {x : DataW H × List MemPlace} (h : DataW.trod enc P W base sp held fuel tX cs = some x) : ∃ a : Arc3, cs = arcV a := by
  cases fuel with
  | zero => unfold DataW.trod at h; cases h
  | succ fuel =>
    obtain ⟨fs, hu, f, g, k, hf, hg, hk, f1, f2, g1, g2, k1, k2⟩ := T.uX
    obtain ⟨hl, hh⟩ := open_struct hu h
    rw [T.cX] at hl
    match cs, hl with
    | [x, y, z], _ =>
      obtain ⟨_, e1⟩ := hh 0 f hf
      obtain ⟨_, e2⟩ := hh 1 g hg
      obtain ⟨_, e3⟩ := hh 2 k hk
      rw [f1, f2, T.c32] at e1
      rw [g1, g2, T.c32] at e2
      rw [k1, k2, T.c64] at e3
      obtain ⟨a, ha, _⟩ := open_int T.u32 e1
      obtain ⟨b, hb, _⟩ := open_int T.u32 e2
      obtain ⟨c, hc, _⟩ := open_int T.u64 e3
      simp at ha hb hc
      subst ha hb hc
      exact ⟨(a, b, c), rfl⟩

theorem choose_list {α β : Type} {R : α → β → Prop} : ∀ (l : List α), (∀ x ∈ l, ∃ y, R x y) → ∃ m : List β, m.length = l.length ∧ ∀ (i : Nat) x, l[i]? = some x → ∃ y, m[i]? = some y ∧ R x y
  | [], _ => ⟨[], rfl, fun i x h => by simp at h⟩
  | a :: l, h => by
    obtain ⟨y, hy⟩ := h a (by simp)
    obtain ⟨m, hm1, hm2⟩ := choose_list l fun x hx => h x (by simp [hx])
    refine ⟨y :: m, by simp [hm1], fun i x hx => ?_⟩
    cases i with
    | zero => simp at hx; subst hx; exact ⟨y, rfl, hy⟩
    | succ i => simpa using hm2 i x (by simpa using hx)

theorem list_ext_of {α : Type} {l m : List α} (hl : m.length = l.length) (h : ∀ (i : Nat) x, l[i]? = some x → m[i]? = some x) : m = l := by
  apply List.ext_getElem? 
  intro i
  cases hi : l[i]? with
  | some x => exact h i x hi
  | none => exact List.getElem?_eq_none (by rw [hl]; exact List.getElem?_eq_none_iff.1 hi)

/-- A list of arcs that can be read as data. -/
theorem open_arcs (hsp : ∀ k, sp k = true) (T : AutT P tA tF tB tL tR tX t32 t64) {fuel : Nat} {v : Value} {x : DataW H × List MemPlace} (h : DataW.trod enc P W base sp held fuel tR [v] = some x) :
    seenV v ∧ ∃ l : List Arc3, ∀ h : AHeap, Sl W h 3 (absV v) (l.map arcV) := by
  cases fuel with
  | zero => unfold DataW.trod at h; cases h
  | succ fuel =>
    obtain ⟨l, a, c, rfl, h0, h1⟩ := open_sl hsp T.uR T.cX (by omega) h
    refine ⟨sl_seen (fun e => ⟨by rw [(h0 e).1]; rfl, (h0 e).2⟩) (fun b hb => (h1 b hb).1.imp id fun e => ⟨by rw [e.1]; rfl, e.2⟩), ?_⟩
    have hR : ∀ xs ∈ l, ∃ y : Arc3, xs = arcV y := by
      intro xs hx
      obtain ⟨i, hi⟩ := List.mem_iff_getElem?.1 hx
      cases a with
      | none => rw [(h0 rfl).1] at hi; simp at hi
      | some b => exact (let ⟨_, y, hy⟩ := (h1 b rfl).2 i xs hi; open_arc T hy)
    obtain ⟨m, hm1, hm2⟩ := choose_list l hR
    have hml : m.map arcV = l := list_ext_of (by simp [hm1]) fun i xs hx => by
      obtain ⟨y, hy, e⟩ := hm2 i xs hx
      rw [List.getElem?_map, hy, e]; rfl
    refine ⟨m, fun hp => ?_⟩
    have hpl : ∀ xs ∈ l, ∀ u ∈ xs, plainV u = true := by
      intro xs hx u hu
      obtain ⟨y, rfl⟩ := hR xs hx
      simp [arcV] at hu
      rcases hu with rfl | rfl | rfl <;> rfl
    have hmm : l.map (·.map absV) = l := by
      conv => rhs; rw [← List.map_id l]
      exact List.map_congr_left fun xs hx => (seen_plains (hpl xs hx)).1
    rw [hml]
    have := Sl_of (W := W) (base := base) (h := hp) (esz := 3) h0 (fun b hb => ⟨(h1 b hb).1, fun i xs hx => ⟨((h1 b hb).2 i xs hx).1, (seen_plains (hpl xs (List.mem_of_getElem? hx))).2⟩⟩)
    rw [hmm] at this
    exact this

/-- A list of booleans that can be read as data. -/
theorem open_bools (hsp : ∀ k, sp k = true) (T : AutT P tA tF tB tL tR tX t32 t64) {fuel : Nat} {v : Value} {x : DataW H × List MemPlace} (h : DataW.trod enc P W base sp held fuel tF [v] = some x) :
    seenV v ∧ ∃ l : List Bool, ∀ h : AHeap, Sl W h 1 (absV v) (l.map fun b => [.bool b]) := by
  cases fuel with
  | zero => unfold DataW.trod at h; cases h
  | succ fuel =>
    obtain ⟨l, a, c, rfl, h0, h1⟩ := open_sl hsp T.uF T.cB (by omega) h
    refine ⟨sl_seen (fun e => ⟨by rw [(h0 e).1]; rfl, (h0 e).2⟩) (fun b hb => (h1 b hb).1.imp id fun e => ⟨by rw [e.1]; rfl, e.2⟩), ?_⟩
    have hR : ∀ xs ∈ l, ∃ y : Bool, xs = [.bool y] := by
      intro xs hx
      obtain ⟨i, hi⟩ := List.mem_iff_getElem?.1 hx
      cases a with
      | none => rw [(h0 rfl).1] at hi; simp at hi
      | some b => exact (let ⟨_, y, hy⟩ := (h1 b rfl).2 i xs hi; open_bool T.uB hy)
    obtain ⟨m, hm1, hm2⟩ := choose_list l hR
    have hml : (m.map fun b => [Value.bool b]) = l := list_ext_of (by simp [hm1]) fun i xs hx => by
      obtain ⟨y, hy, e⟩ := hm2 i xs hx
      rw [List.getElem?_map, hy, e]; rfl
    refine ⟨m, fun hp => ?_⟩
    have hpl : ∀ xs ∈ l, ∀ u ∈ xs, plainV u = true := by
      intro xs hx u hu
      obtain ⟨y, rfl⟩ := hR xs hx
      simp at hu
      subst hu; rfl
    have hmm : l.map (·.map absV) = l := by
      conv => rhs; rw [← List.map_id l]
      exact List.map_congr_left fun xs hx => (seen_plains (hpl xs hx)).1
    rw [hml]
    have := Sl_of (W := W) (base := base) (h := hp) (esz := 1) h0 (fun b hb => ⟨(h1 b hb).1, fun i xs hx => ⟨((h1 b hb).2 i xs hx).1, (seen_plains (hpl xs (List.mem_of_getElem? hx))).2⟩⟩)
    rw [hmm] at this
    exact this

/-- An automaton that can be read as data. -/
theorem open_aut (hsp : ∀ k, sp k = true) (T : AutT P tA tF tB tL tR tX t32 t64) {v : Value} {d : DataW H} {ps : List MemPlace} (h : DataW.Trod enc P W base sp held tA v d ps) :
    ∃ (v' : Value) (A : Aut) (vf va : Value) (vs : List Value), (∀ μ, VR μ v' v) ∧ ∀ h : AHeap, AutoV W h v' A vf va vs := by
  obtain ⟨fuel, h⟩ := h
  cases fuel with
  | zero => unfold DataW.trod at h; cases h
  | succ fuel =>
    obtain ⟨fs, hu, f, g, hf, hg, f1, f2, g1, g2⟩ := T.uA
    obtain ⟨hl, hh⟩ := open_struct hu h
    rw [T.cA] at hl
    have hv : ∃ x y, v = .agg #[x, y] := by
      cases v <;> first | (simp [Value.cells] at hl; done) | skip
      rename_i cs
      have hl : cs.toList.length = 2 := hl
      match hc : cs.toList, hl with
      | [x, y], _ => exact ⟨x, y, by congr 1; rw [show cs = cs.toList.toArray from rfl, hc]⟩
    obtain ⟨x, y, rfl⟩ := hv
    obtain ⟨_, e1⟩ := hh 0 f hf
    obtain ⟨_, e2⟩ := hh 1 g hg
    rw [f1, f2, T.cF] at e1
    rw [g1, g2, T.cL] at e2
    have e1 : DataW.trod enc P W base sp held fuel tF [x] = some _ := e1
    have e2 : DataW.trod enc P W base sp held fuel tL [y] = some _ := e2
    obtain ⟨s1, F, hF⟩ := open_bools hsp T e1
    cases fuel with
    | zero => unfold DataW.trod at e2; cases e2
    | succ fuel =>
      obtain ⟨l, a, c, rfl, h0, h1⟩ := open_sl hsp T.uL T.cR (by omega) e2
      have s2 : seenV (.slice a l.length c) := sl_seen (fun e => ⟨by rw [(h0 e).1]; rfl, (h0 e).2⟩) (fun b hb => (h1 b hb).1.imp id fun e => ⟨by rw [e.1]; rfl, e.2⟩)
      have hR : ∀ xs ∈ l, ∃ y : Value × List Arc3, xs = [y.1] ∧ seenV y.1 ∧ ∀ h : AHeap, Sl W h 3 (absV y.1) (y.2.map arcV) := by
        intro xs hx
        obtain ⟨i, hi⟩ := List.mem_iff_getElem?.1 hx
        cases a with
        | none => rw [(h0 rfl).1] at hi; simp at hi
        | some b =>
          obtain ⟨k1, y, hy⟩ := (h1 b rfl).2 i xs hi
          have k2 := (cells_get k1).1
          match xs, k2 with
          | [z], _ =>
            obtain ⟨q1, q2, q3⟩ := open_arcs hsp T hy
            exact ⟨(z, q2), rfl, q1, q3⟩
      obtain ⟨m, hm1, hm2⟩ := choose_list l hR
      have hsl : ∀ h : AHeap, Sl W h 1 (absV (.slice a l.length c)) (l.map (·.map absV)) := fun hp =>
        Sl_of (W := W) (base := base) (h := hp) (esz := 1) h0 (fun b hb => ⟨(h1 b hb).1, fun i xs hx => ⟨((h1 b hb).2 i xs hx).1, fun u hu => by
          obtain ⟨y, _, rfl, q1, _⟩ := hm2 i xs hx
          simp at hu; subst hu; exact q1⟩⟩)
      have hml : ((m.map fun y => absV y.1).map fun x => [x]) = l.map (·.map absV) := list_ext_of (by simp [hm1]) fun i xs hx => by
        rw [List.getElem?_map] at hx
        cases hi : l[i]? with
        | none => rw [hi] at hx; cases hx
        | some zs =>
          rw [hi] at hx
          obtain ⟨y, hy, e, _⟩ := hm2 i zs hi
          simp at hx
          rw [List.getElem?_map, List.getElem?_map, hy, ← hx, e]; rfl
      refine ⟨.agg #[absV x, absV (.slice a l.length c)], ⟨F, m.map (·.2)⟩, absV x, absV (.slice a l.length c), m.map fun y => absV y.1, fun μ => ?_, fun hp => ⟨rfl, hF hp, by rw [hml]; exact hsl hp, by simp, ?_⟩⟩
      · have : VRs μ [absV x, absV (.slice a l.length c)] [x, .slice a l.length c] := .cons (absV_rel s1) (.cons (absV_rel s2) .nil)
        exact this.agg
      · intro i x' l' hx hl'
        simp only [List.getElem?_map] at hx hl'
        cases hi : m[i]? with
        | none => rw [hi] at hx; cases hx
        | some y =>
          rw [hi] at hx hl'
          simp at hx hl'
          subst hx hl'
          have hlt : i < l.length := by rw [← hm1]; exact (List.getElem?_eq_some_iff.1 hi).1
          obtain ⟨y', hy', e, _, q⟩ := hm2 i _ (List.getElem?_eq_getElem hlt)
          rw [hi] at hy'
          cases hy'
          exact q hp
end
end Go.Mach
