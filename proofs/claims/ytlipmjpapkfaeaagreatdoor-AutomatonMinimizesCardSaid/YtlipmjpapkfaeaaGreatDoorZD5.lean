/- The abstract machine, part 10: every operation that is no call. No condition.
Merged from 5 texts. -/
import Derived.Test.YtlipmjpapkfaeaaGreatDoorZD4
import Derived.Deep.LoopGhost
section
set_option linter.unusedSimpArgs false
set_option linter.unusedVariables false
namespace Go.Mach
open Go Go.RowKit
section
variable {P : Program} {W : World} {μ : PMap} {h : AHeap} {w : World} {ρ ρ' : Operand → Value}
theorem rop_sim {o : Oper} {r : ROp} {v : Value} {h' : AHeap} (hc : compRaw P o.op = some r) (H : HR W μ h w) (hρ : ∀ x ∈ o.op.operands.toList, VR μ (ρ x) (ρ' x))
    (hr : rop W ρ h r = some (v, h')) : Sim P W μ h w (execOp ρ' o) v h' := by
  unfold execOp
  cases hop : o.op with
  | move x =>
    simp only [hop, compRaw] at hc hρ; cases hc
    simp only [rop] at hr; cases hr
    exact sim_mov H (hρ x (by simp [Op.operands]))
  | assign x =>
    simp only [hop, compRaw] at hc hρ; cases hc
    simp only [rop] at hr; cases hr
    exact sim_mov H (hρ x (by simp [Op.operands]))
  | pick c a b =>
    simp only [hop, compRaw] at hc hρ; cases hc
    exact sim_pick H (hρ c (by simp [Op.operands])) (hρ a (by simp [Op.operands])) (hρ b (by simp [Op.operands])) hr
  | alloc e =>
    simp only [hop, compRaw] at hc
    obtain ⟨z, hz, rfl⟩ := some_map hc
    exact sim_newv H hz hr
  | box e x =>
    simp only [hop, compRaw] at hc hρ; cases hc
    exact sim_box H (hρ x (by simp [Op.operands])) hr
  | build t ps =>
    simp only [hop, compRaw] at hc hρ
    have hv : ∀ p ∈ ps.toList, VR μ (ρ p.2) (ρ' p.2) := fun p hp => hρ p.2 (by simp only [Op.operands, List.mem_map]; exact ⟨p, hp, rfl⟩)
    split at hc
    · rename_i z fs hz ht
      split at hc
      · rename_i hs
        obtain ⟨qs, hq, rfl⟩ := some_map hc
        exact sim_build_struct H hz ht hs hq hv hr
      · cases hc
    · rename_i z n e hz ht
      obtain ⟨n, hn, rfl⟩ := some_map hc
      exact sim_build_array H hz ht hn hv hr
    · cases hc
  | buildSlice t n ps =>
    simp only [hop, compRaw] at hc hρ
    have hv : ∀ p ∈ ps.toList, VR μ (ρ p.2) (ρ' p.2) := fun p hp => hρ p.2 (by simp only [Op.operands, List.mem_map]; exact ⟨p, hp, rfl⟩)
    split at hc
    · rename_i e ht
      split at hc
      · rename_i z hz
        split at hc
        · rename_i hn
          cases hc
          exact sim_buildSl H ht hz hn hv hr
        · cases hc
      · cases hc
    · cases hc
  | insert t m k u =>
    simp only [hop, compRaw] at hc hρ
    split at hc
    · rename_i kt el ht
      split at hc
      · rename_i q hq
        cases hc
        exact sim_mapUpd H ht hq (hρ m (by simp [Op.operands])) (hρ k (by simp [Op.operands])) (hρ u (by simp [Op.operands])) hr
      · cases hc
    · cases hc
  | load t x =>
    simp only [hop, compRaw] at hc hρ
    split at hc
    · rename_i ht
      cases hc
      exact sim_load1 H ht (hρ x (by simp [Op.operands])) hr
    · rename_i ht
      obtain ⟨n, hn, rfl⟩ := some_map hc
      exact sim_loadN H ht hn (hρ x (by simp [Op.operands])) hr
    · cases hc
  | store t x u =>
    simp only [hop, compRaw] at hc hρ
    obtain ⟨n, hn, rfl⟩ := some_map hc
    exact sim_store H hn (hρ x (by simp [Op.operands])) (hρ u (by simp [Op.operands])) hr
  | nilCheck x =>
    simp only [hop, compRaw] at hc hρ; cases hc
    have := sim_nilChk (P := P) H (hρ x (by simp [Op.operands])) hr o hop
    unfold execOp at this
    rw [hop] at this
    exact this
  | binOp op t x y yt =>
    simp only [hop, compRaw] at hc hρ
    split at hc
    · rename_i e he
      cases hc
      simp only [rop] at hr
      obtain ⟨u, hu, hh⟩ := some_map hr
      cases hh
      exact sim_bin H he (hρ x (by simp [Op.operands])) (hρ y (by simp [Op.operands])) hu
    · cases hc
  | unOp op t x =>
    simp only [hop, compRaw] at hc hρ; cases hc
    simp only [rop] at hr
    obtain ⟨u, hu, hh⟩ := some_map hr
    cases hh
    exact sim_un H (hρ x (by simp [Op.operands])) hu
  | convert s d x =>
    simp only [hop, compRaw] at hc hρ
    have hx := hρ x (by simp [Op.operands])
    split at hc
    · rename_i h1 h2; cases hc; exact sim_toStr H h1 h2 hx hr
    · rename_i e h1 h2
      split at hc
      · rename_i he; cases hc; exact sim_strRunes H h1 h2 he hx hr
      · cases hc
    · rename_i e h1 h2
      split at hc
      · rename_i he; cases hc; exact sim_bytesStr H h1 h2 he hx hr
      · cases hc
    · rename_i q k h1 h2; cases hc; exact sim_conv H h1 h2 hx hr
    · rename_i q h1 h2; cases hc; exact sim_encRune H h1 h2 hx hr
    · cases hc
  | makeFunc fn first cap =>
    simp only [hop, compRaw] at hc hρ
    split at hc
    · rename_i hf
      cases hc
      simp only [rop] at hr; cases hr
      exact sim_mkFn H (by simpa using hf) (fun x hx => hρ x (by simp only [Op.operands, Array.toList_append, List.mem_append]; exact .inr hx))
    · cases hc
  | makeMap t r' =>
    cases r' with
    | none =>
      simp only [hop, compRaw] at hc; cases hc
      exact sim_mkMap H hr
    | some x => simp [hop, compRaw] at hc
  | makeSlice t l c =>
    simp only [hop, compRaw] at hc hρ
    split at hc
    · rename_i e ht
      split at hc
      · rename_i z b hz hb
        split at hc
        · rename_i h0; cases hc
          exact sim_mkSlice H ht hz hb h0 (hρ l (by simp [Op.operands])) (hρ c (by simp [Op.operands])) hr
        · cases hc
      · cases hc
    · cases hc
  | slice t x lo hi mx =>
    cases mx with
    | some m => simp [hop, compRaw] at hc
    | none =>
      simp only [hop, compRaw] at hc hρ
      have hx := hρ x (by simp [Op.operands])
      have hlo : ∀ y, lo = some y → VR μ (ρ y) (ρ' y) := fun y hy => hρ y (by simp [Op.operands, hy])
      have hhi : ∀ y, hi = some y → VR μ (ρ y) (ρ' y) := fun y hy => hρ y (by simp [Op.operands, hy])
      split at hc
      · rename_i ht
        cases hc
        simp only [rop] at hr
        obtain ⟨u, hu, hh⟩ := some_map hr
        cases hh
        exact sim_slcStr H ht hx hlo hhi hu
      · rename_i e ht
        split at hc
        · rename_i n hn
          split at hc
          · cases hc
            simp only [rop] at hr
            obtain ⟨u, hu, hh⟩ := some_map hr
            cases hh
            exact sim_slc H ht hn hx hlo hhi hu
          · cases hc
        · cases hc
      · cases hc
  | fieldAddr t x f =>
    simp only [hop, compRaw] at hc hρ
    split at hc
    · rename_i fs ht
      split at hc
      · rename_i fd hf
        split at hc
        · rename_i n hn
          split at hc
          · rename_i h0; cases hc
            exact sim_addOff H ht hf hn h0 (hρ x (by simp [Op.operands])) hr
          · cases hc
        · cases hc
      · cases hc
    · cases hc
  | field t x f =>
    simp only [hop, compRaw] at hc hρ
    have hx := hρ x (by simp [Op.operands])
    split at hc
    · rename_i fs ht
      split at hc
      · rename_i fd hf
        split at hc
        · rename_i n hn hs; cases hc; exact sim_partN H ht hf hn hs hx hr
        · rename_i hn; cases hc; exact sim_part1 H ht hf hn hx hr
        · cases hc
      · cases hc
    · cases hc
  | indexAddr t x i =>
    simp only [hop, compRaw] at hc hρ
    have hx := hρ x (by simp [Op.operands])
    have hi := hρ i (by simp [Op.operands])
    split at hc
    · rename_i e ht
      split at hc
      · rename_i n hn
        split at hc
        · cases hc
          simp only [rop] at hr
          obtain ⟨u, hu, hh⟩ := some_map hr
          cases hh
          exact sim_idxA H ht hn hx hi hu
        · cases hc
      · cases hc
    · rename_i len e ht
      split at hc
      · rename_i n hn
        split at hc
        · cases hc
          simp only [rop] at hr
          obtain ⟨u, hu, hh⟩ := some_map hr
          cases hh
          exact sim_idxArr H ht hn hx hi hu
        · cases hc
      · cases hc
    · cases hc
  | index t x i =>
    simp only [hop, compRaw] at hc hρ
    split at hc
    · rename_i ht
      cases hc
      simp only [rop] at hr
      obtain ⟨u, hu, hh⟩ := some_map hr
      cases hh
      exact sim_idxStr H ht (hρ x (by simp [Op.operands])) (hρ i (by simp [Op.operands])) hu
    · cases hc
  | lookup t x k ok =>
    simp only [hop, compRaw] at hc hρ
    split at hc
    · rename_i kt el ht
      split at hc
      · rename_i q z hq hz
        split at hc
        · rename_i hcl
          cases hc
          simp only [rop] at hr
          obtain ⟨u, hu, hh⟩ := some_map hr
          cases hh
          exact sim_lookup H ht hq hz hcl (hρ x (by simp [Op.operands])) (hρ k (by simp [Op.operands])) hu
        · cases hc
      · cases hc
    · cases hc
  | mapUpdate t m k u =>
    simp only [hop, compRaw] at hc hρ
    split at hc
    · rename_i kt el ht
      split at hc
      · rename_i q hq
        cases hc
        exact sim_mapUpd H ht hq (hρ m (by simp [Op.operands])) (hρ k (by simp [Op.operands])) (hρ u (by simp [Op.operands])) hr
      · cases hc
    · cases hc
  | range t x =>
    simp only [hop, compRaw] at hc hρ
    split at hc
    · rename_i ht
      cases hc
      exact sim_rangeStr H ht (hρ x (by simp [Op.operands])) hr
    · cases hc
  | next x isS =>
    cases isS with
    | false => simp [hop, compRaw] at hc
    | true =>
      simp only [hop, compRaw] at hc hρ; cases hc
      exact sim_nextStr (ty := o.type) H (hρ x (by simp [Op.operands])) hr
  | extract x i =>
    simp only [hop, compRaw] at hc hρ; cases hc
    exact sim_extract H (hρ x (by simp [Op.operands])) hr
  | call c =>
    simp only [hop, compRaw] at hc hρ
    have hargs : ∀ x ∈ c.args.toList, VR μ (ρ x) (ρ' x) := fun x hx => hρ x (by simp only [Op.operands, Call.operands, Array.toList_append, List.mem_append]; exact .inr hx)
    split at hc
    · cases hc; simp [rop] at hr
    · rename_i hcal
      split at hc
      · rename_i x t h1 h2
        have ha : c.args = #[x] := Array.ext' h1
        have ht : c.argTypes = #[t] := Array.ext' h2
        have hx := hargs x (by rw [h1]; simp)
        simp only [resolve, hcal, ha, ht, invoke, builtin, List.map_toArray, List.map_cons, List.map_nil]
        split at hc <;> first | (rename_i hu; cases hc) | cases hc
        · exact sim_lenStr (ty := o.type) H hu hx hr
        · exact sim_lenSl (ty := o.type) H hu hx hr
        · exact sim_lenMap (ty := o.type) H hu hx hr
      · cases hc
    · rename_i hcal
      split at hc
      · rename_i x y t u h1 h2
        have ha : c.args = #[x, y] := Array.ext' h1
        have ht : c.argTypes = #[t, u] := Array.ext' h2
        have hx := hargs x (by rw [h1]; simp)
        have hy := hargs y (by rw [h1]; simp)
        simp only [resolve, hcal, ha, ht, invoke, builtin, List.map_toArray, List.map_cons, List.map_nil]
        split at hc
        · rename_i e hu
          split at hc
          · rename_i z b hz hb
            split at hc
            · rename_i hcond
              split at hc
              · rename_i e' hu'
                split at hc
                · rename_i hee
                  cases hc
                  subst hee
                  exact sim_app (ty := o.type) H hu hz hcond.1 hb hcond.2 hu' (.inl rfl) hx hy hr
                · cases hc
              · rename_i hu'
                split at hc
                · rename_i hz1
                  cases hc
                  rw [← hz1] at hr
                  exact sim_app (ty := o.type) H hu hz hcond.1 hb hcond.2 hu' (.inr rfl) hx hy hr
                · cases hc
              · cases hc
            · cases hc
          · cases hc
        · cases hc
      · cases hc
    · rename_i hcal
      split at hc
      · rename_i x t h1 h2
        have ha : c.args = #[x] := Array.ext' h1
        have ht : c.argTypes = #[t] := Array.ext' h2
        have hx := hargs x (by rw [h1]; simp)
        simp only [resolve, hcal, ha, ht, invoke, builtin, List.map_toArray, List.map_cons, List.map_nil]
        split at hc
        · rename_i e hu
          split at hc
          · rename_i z hz
            split at hc
            · cases hc
              exact sim_clr (ty := o.type) H hu hz hx hr
            · cases hc
          · cases hc
        · cases hc
      · cases hc
    · rename_i hcal
      split at hc
      · rename_i x y h1
        have ha : c.args = #[x, y] := Array.ext' h1
        have hx := hargs x (by rw [h1]; simp)
        have hy := hargs y (by rw [h1]; simp)
        cases hc
        simp only [resolve, hcal, ha, invoke, builtin, List.map_toArray, List.map_cons, List.map_nil]
        exact sim_min (ty := o.type) H hx hy hr
      · cases hc
    · rename_i hcal
      split at hc
      · rename_i x y h1
        have ha : c.args = #[x, y] := Array.ext' h1
        have hx := hargs x (by rw [h1]; simp)
        have hy := hargs y (by rw [h1]; simp)
        cases hc
        simp only [resolve, hcal, ha, invoke, builtin, List.map_toArray, List.map_cons, List.map_nil]
        exact sim_max (ty := o.type) H hx hy hr
      · cases hc
    · cases hc
  | _ => simp [hop, compRaw] at hc
end
end Go.Mach
end
section
set_option linter.unusedSimpArgs false
set_option linter.unusedVariables false
namespace Go.Mach
open Go Go.RowKit
abbrev Env := Tr Value
def eget (e : Env) (t : Nat) : Value := (e.get t).getD undef
def eput (e : Env) (d : Option Nat) (v : Value) : Env := match d with
  | some d => e.set d v
  | none => e
structure St where
  e : Env
  h : AHeap
def opd (e : Env) : Operand → Value
  | .tmp t => eget e t
  | .const v => v
  | .global g => .pointer (some ⟨g, 0, none⟩)
  | .func f => .func (.func f) #[] #[]
def wantedA (e : Env) : Option (Nat × Bool) → Bool
  | none => true
  | some (d, b) => match eget e d with
    | .bool c => c == b
    | _ => false
structure Stage where
  ops : List ROper
  chk : List ROper
  eff : Option ROper
inductive RCode where
  | skip
  | region (ops : List ROper)
  | draws (sts : List Stage)
  | seq (a b : RCode)
  | cond (c : Operand) (a b : RCode)
  | block (id : Nat) (c : RCode)
  | loop (c : RCode)
  | exit (id : Nat)
  | ret
  | fail
inductive RRes where
  | tmp (t : Nat)
  | one (t : Nat)
  | many (t n : Nat)
structure RFunc where
  ntmps : Nat
  body : RCode
  res : List RRes
def dstOk (n : Nat) : Option Nat → Bool
  | some d => Nat.blt d n
  | none => true
def compOper (P : Program) (n : Nat) (ops : Array Oper) (o : Oper) : Option ROper :=
  if dstOk n o.dst then
    match compOp P o.op with
    | some r => match o.guard with
      | none => some ⟨o.dst, r, none⟩
      | some (j, b) => match (ops[j]?).bind (·.dst) with
        | some d => some ⟨o.dst, r, some (d, b)⟩
        | none => none
    | none => none
  else none
def compOpers (P : Program) (n : Nat) (ops : Array Oper) : List Oper → Option (List ROper)
  | [] => some []
  | o :: os => match compOper P n ops o, compOpers P n ops os with
    | some r, some rs => some (r :: rs)
    | _, _ => none
def kindOf : ROp → Option Nat
  | .mov _ | .pick _ _ _ | .build _ _ | .load1 _ | .loadN _ _ | .nilChk _ | .bin _ _ _ _ | .un _ _ | .conv _ _ | .encRune _ | .toStr _ | .bytesStr _ | .mkFn _ _
  | .slcStr _ _ _ | .slc _ _ _ _ | .addOff _ _ | .part1 _ _ | .partN _ _ _ | .idxA _ _ _ | .idxArr _ _ _ _ | .idxStr _ _ | .lookup _ _ _ _ _ | .extract _ _ | .lenSl _ | .lenStr _ | .lenMap _
  | .min2 _ _ | .max2 _ _ => some 0
  | .newv _ | .box _ | .buildSl _ _ _ _ => some 1
  | _ => none
def directsO (o : Oper) : List Nat := (o.after.toList.filter (Region.binds .any)).map (·.on)
def predsL : List Oper → List (List Nat) → List (List Nat)
  | [], acc => acc
  | o :: os, acc => predsL os (acc ++ [(directsO o ++ (directsO o).flatMap fun j => acc.getD j []).eraseDups])
def looksR (ros : List ROper) (i : Nat) (o : Op) : List Nat :=
  (o.operands.toList.filterMap fun | .tmp t => some t | _ => none) ++ (match (ros[i]?).bind (·.guard) with | some (d, _) => [d] | none => [])
def planChk (pr : List (List Nat)) (ne eff : List Nat) (k : Nat) : List Nat :=
  ne.filter fun j => decide ((eff.filter fun e => (pr.getD j []).contains e).length ≤ k) && (eff.take k).all fun e => !((pr.getD e []).contains j)
def isEff (ops : List Oper) (ros : List ROper) (pr : List (List Nat)) (i : Nat) : Bool :=
  let kind := fun j => ((ros[j]?).bind fun o => kindOf o.op)
  match kind i with
  | none => true
  | some q => (q != 0 && (List.range ros.length).all fun j => j == i || kind j == some 0 || (pr.getD i []).contains j || (pr.getD j []).contains i) ||
      (match (ros[i]?).bind (·.dst) with
       | some d => (List.range ros.length).any fun j => j != i && !(pr.getD j []).contains i && (match ops[j]? with | some o => (looksR ros j o.op).contains d | none => false)
       | none => true)
def stagesOf (ros : List ROper) (eff : List Nat) (chk : Nat → List Nat) : Nat → List Nat → List Stage
  | k, [] => [⟨((chk k).filter fun j => match k with | 0 => true | k' + 1 => !(chk k').contains j).filterMap (ros[·]?), (chk k).filterMap (ros[·]?), none⟩]
  | k, e :: es => ⟨((chk k).filter fun j => match k with | 0 => true | k' + 1 => !(chk k').contains j).filterMap (ros[·]?), (chk k).filterMap (ros[·]?), ros[e]?⟩ :: stagesOf ros eff chk (k + 1) es
def chainOk (pr : List (List Nat)) : List Nat → Bool
  | a :: b :: l => (pr.getD b []).contains a && chainOk pr (b :: l)
  | _ => true
def planOk (ops : List Oper) (ros : List ROper) (pr : List (List Nat)) (ne eff : List Nat) : Bool :=
  let N := ops.length
  chainOk pr eff &&
  ((List.range N).all fun i => match ops[i]? with
    | some o => (directsO o).all fun j => decide (j < i)
    | none => true) &&
  ((List.range N).all fun j => match ops[j]? with
    | some o => (looksR ros j o.op).all fun t => ne.all fun i => ((ros[i]?).bind (·.dst)) != some t || (pr.getD j []).contains i
    | none => true) &&
  ((List.range N).all fun j => (List.range N).all fun i => i == j || ((ros[i]?).bind (·.dst)) == none || ((ros[i]?).bind (·.dst)) != ((ros[j]?).bind (·.dst))) &&
  (ne.all fun j => ((ros[j]?).bind (·.dst)).isSome) &&
  ((List.range (eff.length + 1)).all fun k => match k with
    | 0 => true
    | k' + 1 => (planChk pr ne eff (k' + 1)).all fun j => (planChk pr ne eff k').contains j || (pr.getD j []).contains (eff.getD k' 0))
def compDraws (P : Program) (n : Nat) (ops : Array Oper) : RCode :=
  match compOpers P n ops ops.toList with
  | none => .fail
  | some ros =>
    let pr := predsL ops.toList []
    let eff := (List.range ros.length).filter (isEff ops.toList ros pr)
    let ne := (List.range ros.length).filter fun i => !isEff ops.toList ros pr i
    if planOk ops.toList ros pr ne eff then .draws (stagesOf ros eff (planChk pr ne eff) 0 eff) else .fail
def comp (P : Program) (n : Nat) : Code → RCode
  | .skip => .skip
  | .region _ ops false => match compOpers P n ops ops.toList with
    | some rs => .region rs
    | none => .fail
  | .region _ ops true => compDraws P n ops
  | .seq a b => .seq (comp P n a) (comp P n b)
  | .cond c a b => if okOpd c then .cond c (comp P n a) (comp P n b) else .fail
  | .block id c => .block id (comp P n c)
  | .loop c => .loop (comp P n c)
  | .exit id => .exit id
  | .ret => .ret
  | _ => .fail
def compRes (P : Program) : List ResultVar → Option (List RRes)
  | [] => some []
  | .tmp t :: l => (compRes P l).map (.tmp t :: ·)
  | .cell a t :: l => match aggT P t, compRes P l with
    | some false, some r => some (.one a :: r)
    | some true, some r => (sizeT P t).map fun n => .many a n :: r
    | _, _ => none
def compFn (P : Program) (f : FuncId) : Option RFunc :=
  match P.funcs[f]? with
  | some fn => match fn.body, compRes P fn.results.toList with
    | some c, some r => if (fn.name == "runtime.NumGoroutine") then none else some ⟨fn.ntmps, comp P fn.ntmps c, r⟩
    | _, _ => none
  | none => none
def envOf : Nat → List Value → Env → Env
  | _, [], e => e
  | i, v :: vs, e => envOf (i + 1) vs (e.set i v)
def resVals (W : World) (σ : St) : List RRes → Option (List Value)
  | [] => some []
  | .tmp t :: l => match resVals W σ l with
    | some vs => some (eget σ.e t :: vs)
    | none => none
  | .one t :: l => match eget σ.e t, resVals W σ l with
    | .pointer (some a), some vs => match aload1 W σ.h a with
      | some v => some (v :: vs)
      | none => none
    | _, _ => none
  | .many t n :: l => match eget σ.e t, resVals W σ l with
    | .pointer (some a), some vs => match aloadN W σ.h a n with
      | some v => some (.agg v.toArray :: vs)
      | none => none
    | _, _ => none
def resOf : List Value → Value
  | [v] => v
  | vs => .tuple vs.toArray
def mkOf (ρ : Operand → Value) : ROp → Option (List Value)
  | .newv z => some z
  | .box x => bif (celsL (ρ x)).all oneV then some (celsL (ρ x)) else none
  | .buildSl z ps _ _ => match fillL ρ z ps with
    | some l => bif l.all oneV then some l else none
    | none => none
  | _ => none
def mkVal (i : Nat) : ROp → Value
  | .buildSl _ _ n esz => oS i 0 n esz
  | _ => oP i 0
def ownId : Value → Nat
  | .pointer (some a) => a.block
  | .slice (some a) _ _ => a.block
  | _ => 0
def dval (e : Env) (o : ROper) : Value := match o.dst with
  | some d => eget e d
  | none => undef
def sops (W : World) : List ROper → St → Option St
  | [], σ => some σ
  | o :: os, σ => bif wantedA σ.e o.guard then
      match rop W (opd σ.e) σ.h o.op with
      | some (v, h') => sops W os ⟨eput σ.e o.dst v, h'⟩
      | none => none
    else sops W os ⟨eput σ.e o.dst undef, σ.h⟩
def Chk (W : World) (σ : St) (o : ROper) : Prop :=
  if wantedA σ.e o.guard then
    match kindOf o.op with
    | some 0 => rop W (opd σ.e) σ.h o.op = some (dval σ.e o, σ.h)
    | some _ => ∃ l, mkOf (opd σ.e) o.op = some l ∧ dval σ.e o = mkVal (ownId (dval σ.e o)) o.op ∧ ownId (dval σ.e o) < σ.h.next ∧ σ.h.own.get (ownId (dval σ.e o)) = some (.cells l)
    | none => False
  else dval σ.e o = undef
def mkIds (e : Env) : List ROper → List Nat
  | [] => []
  | o :: os => bif wantedA e o.guard && (kindOf o.op).any (fun k => k != 0) then ownId (dval e o) :: mkIds e os else mkIds e os
end Go.Mach
end
section
set_option linter.unusedSimpArgs false
set_option linter.unusedVariables false
namespace Go.Mach
open Go Go.RowKit
mutual
def veq : Nat → Value → Value → Bool
  | 0, _, _ => false
  | n + 1, v, w => match v, w with
    | .bool a, .bool b => a == b
    | .int k a, .int k' b => decide (k = k') && a == b
    | .string a, .string b => a.data.toList == b.data.toList
    | .pointer none, .pointer none => true
    | .pointer (some a), .pointer (some b) => decide (a = b)
    | .slice none a b, .slice none c d => Nat.beq a c && Nat.beq b d
    | .slice (some x) a b, .slice (some y) c d => decide (x = y) && Nat.beq a c && Nat.beq b d
    | .map none, .map none => true
    | .map (some a), .map (some b) => Nat.beq a b
    | .nilFunc, .nilFunc => true
    | .nilIface, .nilIface => true
    | .func (.func f) xs as, .func (.func g) ys bs => Nat.beq f g && veqs n xs.toList ys.toList && veqs n as.toList bs.toList
    | .agg xs, .agg ys => veqs n xs.toList ys.toList
    | .tuple xs, .tuple ys => veqs n xs.toList ys.toList
    | _, _ => false
def veqs : Nat → List Value → List Value → Bool
  | 0, _, _ => false
  | n + 1, xs, ys => match xs, ys with
    | [], [] => true
    | x :: xs, y :: ys => veq n x y && veqs n xs ys
    | _, _ => false
end
def chkB (W : World) (σ : St) (o : ROper) : Bool :=
  bif wantedA σ.e o.guard then
    match kindOf o.op with
    | some 0 => match rop W (opd σ.e) σ.h o.op with
      | some (v, _) => veq 10000 v (dval σ.e o)
      | none => false
    | some _ => match mkOf (opd σ.e) o.op, σ.h.own.get (ownId (dval σ.e o)) with
      | some l, some (.cells l') => veq 10000 (dval σ.e o) (mkVal (ownId (dval σ.e o)) o.op) && Nat.blt (ownId (dval σ.e o)) σ.h.next && veqs 10000 l' l
      | _, _ => false
    | none => false
  else veq 10000 (dval σ.e o) undef
inductive Ex where
  | normal | exit (id : Nat) | ret
abbrev CF := FuncId → List Value → AHeap → Option (Value × AHeap)
def xop (W : World) (cf : CF) (o : ROper) (σ : St) : Option St :=
  bif wantedA σ.e o.guard then
    match o.op with
    | .call f args => match opd σ.e f with
      | .func (.func fid) fs cap => bif fs.toList.isEmpty then
          match cf fid (args.map (opd σ.e) ++ cap.toList) σ.h with
          | some (v, h') => some ⟨eput σ.e o.dst v, h'⟩
          | none => none
        else none
      | _ => none
    | op => match rop W (opd σ.e) σ.h op with
      | some (v, h') => some ⟨eput σ.e o.dst v, h'⟩
      | none => none
  else some ⟨eput σ.e o.dst undef, σ.h⟩
def xops (W : World) (cf : CF) : List ROper → St → Option St
  | [], σ => some σ
  | o :: os, σ => match xop W cf o σ with
    | some σ' => xops W cf os σ'
    | none => none
def allGe (n : Nat) : List Nat → Bool
  | [] => true
  | i :: l => Nat.ble n i && allGe n l
def distinct : List Nat → Bool
  | [] => true
  | i :: l => !l.contains i && distinct l
def xdraws (W : World) (cf : CF) : List Stage → St → Option St
  | [], _ => none
  | s :: ss, σ => match sops W s.ops σ with
    | some σ1 => bif s.chk.all (chkB W σ1) && allGe σ.h.next (mkIds σ1.e s.ops) && distinct (mkIds σ1.e s.chk) then
        match s.eff with
        | none => some σ1
        | some o => match xop W cf o σ1 with
          | some σ2 => xdraws W cf ss σ2
          | none => none
      else none
    | none => none
def iter (f : St → Option (Ex × St)) : Nat → St → Option (Ex × St)
  | 0, _ => none
  | n + 1, σ => match f σ with
    | some (.normal, σ') => iter f n σ'
    | r => r
def exec (W : World) (cf : CF) (N : Nat) : RCode → St → Option (Ex × St)
  | .skip, σ => some (.normal, σ)
  | .region ops, σ => match xops W cf ops σ with
    | some σ' => some (.normal, σ')
    | none => none
  | .draws sts, σ => match xdraws W cf sts σ with
    | some σ' => some (.normal, σ')
    | none => none
  | .seq a b, σ => match exec W cf N a σ with
    | some (.normal, σ') => exec W cf N b σ'
    | r => r
  | .cond c a b, σ => match opd σ.e c with
    | .bool t => bif t then exec W cf N a σ else exec W cf N b σ
    | _ => none
  | .block id c, σ => match exec W cf N c σ with
    | some (.exit id', σ') => bif Nat.beq id' id then some (.normal, σ') else some (.exit id', σ')
    | r => r
  | .loop c, σ => iter (exec W cf N c) N σ
  | .exit id, σ => some (.exit id, σ)
  | .ret, σ => some (.ret, σ)
  | .fail, _ => none
def callX (W : World) (T : FuncId → Option RFunc) (O : CF) (N : Nat) : Nat → CF
  | 0 => fun _ _ _ => none
  | d + 1 => fun f args h => match O f args h with
    | some r => some r
    | none => match T f with
      | some rf => bif Nat.ble args.length rf.ntmps then
          match exec W (callX W T O N d) N rf.body ⟨envOf 0 args .lf, h⟩ with
          | some (.normal, σ) | some (.ret, σ) => match resVals W σ rf.res with
            | some vs => some (resOf vs, σ.h)
            | none => none
          | _ => none
        else none
      | none => none
end Go.Mach
end
section
set_option linter.unusedSimpArgs false
set_option linter.unusedVariables false
namespace Go.Mach
open Go Go.RowKit
structure Rel (W : World) (n : Nat) (μ : PMap) (σ : St) (a : Act) (w : World) : Prop where
  hr : HR W μ σ.h w
  er : ∀ t, VR μ (eget σ.e t) (a.tmps.getD t undef)
  sz : a.tmps.size = n
  nd : a.defers = []
def callable (P : Program) (f : FuncId) : Prop := ∃ fn, P.funcs[f]? = some fn ∧ (fn.name == "runtime.NumGoroutine") = false ∧ fn.body.isNone = false
def ACalls (P : Program) (W : World) (f : FuncId) (args : List Value) (h : AHeap) (R : Value → AHeap → Prop) : Prop :=
  callable P f ∧ ∀ μ (cargs : List Value) w, HR W μ h w → VRs μ args cargs →
    Calls P f cargs.toArray w fun e w' => ∃ v v' h' μ', e = .returned v' ∧ VR μ' v v' ∧ HR W μ' h' w' ∧ Ext μ h.next μ' ∧ h.next ≤ h'.next ∧ R v h'
theorem ACalls.mono {P : Program} {W : World} {f : FuncId} {args : List Value} {h : AHeap} {R R' : Value → AHeap → Prop} (hc : ACalls P W f args h R) (hr : ∀ v h', R v h' → R' v h') : ACalls P W f args h R' :=
  ⟨hc.1, fun μ cargs w H hv => (hc.2 μ cargs w H hv).mono fun e w' ⟨v, v', h', μ', h1, h2, h3, h4, h5, h6⟩ => ⟨v, v', h', μ', h1, h2, h3, h4, h5, hr _ _ h6⟩⟩
section
variable {P : Program} {W : World} {n : Nat}
def AOp (P : Program) (W : World) (o : ROper) (K : St → Prop) (σ : St) : Prop :=
  if wantedA σ.e o.guard then
    match o.op with
    | .call f args => ∃ fid cap, opd σ.e f = .func (.func fid) #[] cap ∧ ACalls P W fid (args.map (opd σ.e) ++ cap.toList) σ.h fun v h' => K ⟨eput σ.e o.dst v, h'⟩
    | op => ∃ v h', rop W (opd σ.e) σ.h op = some (v, h') ∧ K ⟨eput σ.e o.dst v, h'⟩
  else K ⟨eput σ.e o.dst undef, σ.h⟩
def AOps (P : Program) (W : World) : List ROper → (St → Prop) → St → Prop
  | [], K => K
  | o :: os, K => AOp P W o (AOps P W os K)
theorem getD_set (tmps : Array Value) (d t : Nat) (v : Value) (hd : d < tmps.size) : (tmps.setIfInBounds d v).getD t undef = if t = d then v else tmps.getD t undef := by
  simp only [Array.getD_eq_getD_getElem?, Array.getElem?_setIfInBounds]
  by_cases h : d = t
  · subst h; simp [hd]
  · have : t ≠ d := fun e => h e.symm
    simp [h, this]
theorem eget_eput (e : Env) (d : Option Nat) (v : Value) (t : Nat) : eget (eput e d v) t = if d = some t then v else eget e t := by
  unfold eput eget
  cases d with
  | none => simp
  | some d =>
    simp only [Tr.get_set]
    by_cases h : t = d
    · subst h; simp
    · have : ¬ (some d = some t) := fun e => h (Option.some.inj e).symm
      simp [h, this]
theorem put_getD (a : Act) (d : Option Nat) (v : Value) (t : Nat) (hd : ∀ k, d = some k → k < a.tmps.size) : (a.put d v).tmps.getD t undef = if d = some t then v else a.tmps.getD t undef := by
  cases d with
  | none => simp [Act.put]
  | some d =>
    simp only [Act.put]
    rw [getD_set _ _ _ _ (hd d rfl)]
    by_cases h : t = d
    · subst h; simp
    · have : ¬ (some d = some t) := fun e => h (Option.some.inj e).symm
      simp [h, this]
theorem put_size (a : Act) (d : Option Nat) (v : Value) : (a.put d v).tmps.size = a.tmps.size := by cases d <;> simp [Act.put]
theorem put_nd (a : Act) (d : Option Nat) (v : Value) : (a.put d v).defers = a.defers := by cases d <;> rfl
theorem Rel.put {μ μ' : PMap} {σ : St} {a : Act} {w w' : World} (hR : Rel W n μ σ a w) {d : Option Nat} (hd : ∀ k, d = some k → k < n) {v v' : Value} {h' : AHeap} (hv : VR μ' v v') (H' : HR W μ' h' w')
    (he : Ext μ σ.h.next μ') : Rel W n μ' ⟨eput σ.e d v, h'⟩ (a.put d v') w' := by
  refine ⟨H', ?_, by rw [put_size]; exact hR.sz, by rw [put_nd]; exact hR.nd⟩
  intro t
  rw [eget_eput, put_getD a d v' t (fun k hk => by rw [hR.sz]; exact hd k hk)]
  split
  · exact hv
  · exact (hR.er t).ext he hR.hr.dom
theorem VR.notBool {μ : PMap} {v v' : Value} (hv : VR μ v v') (hn : ∀ b, v ≠ .bool b) : ∀ b, v' ≠ .bool b := by
  intro b hb
  subst hb
  cases hv with
  | plain _ => exact hn b rfl
theorem wanted_eq {μ : PMap} {e : Env} {tmps : Array Value} {ops : Array Oper} {o : Oper} {g : Option (Nat × Bool)}
    (hg : (o.guard = none ∧ g = none) ∨ ∃ j b d, o.guard = some (j, b) ∧ (ops[j]?).bind (·.dst) = some d ∧ g = some (d, b) ∧ VR μ (eget e d) (tmps.getD d undef)) :
    Region.wanted o (yielded ops tmps) = wantedA e g := by
  rcases hg with ⟨h1, rfl⟩ | ⟨j, b, d, h1, h2, rfl, h3⟩
  · simp [Region.wanted, h1, wantedA]
  · have hy : yielded ops tmps j = match eget e d with | .bool c => some c | _ => none := by
      unfold yielded
      rw [h2]
      simp only [Option.bind_some]
      cases he : eget e d with
      | bool c =>
        rw [he] at h3
        have := h3.bool
        rw [Array.getD_eq_getD_getElem?] at this
        cases ht : tmps[d]? with
        | none => rw [ht] at this; simp [undef] at this
        | some x => rw [ht] at this; simp at this; subst this; rfl
      | _ =>
        have hnb := h3.notBool (by rw [he]; intro b hb; cases hb)
        rw [Array.getD_eq_getD_getElem?] at hnb
        cases ht : tmps[d]? with
        | none => rfl
        | some x =>
          rw [ht] at hnb
          simp only [Option.getD_some] at hnb
          cases x <;> first | rfl | exact absurd rfl (hnb _)
    simp only [Region.wanted, h1, hy, wantedA]
    cases eget e d <;> first | rfl | (rename_i c; cases c <;> cases b <;> rfl)
theorem opd_rel {μ : PMap} {e : Env} {a : Act} {x : Operand} (hc : okOpd x = true) (ht : ∀ t, x = .tmp t → VR μ (eget e t) (a.tmps.getD t undef)) : VR μ (opd e x) (a.eval x) := by
  cases x with
  | tmp t => exact ht t rfl
  | const v => exact VR.closed hc
  | global g => exact .plain rfl
  | func f => exact VRs.func (xs := []) (ys := []) VRs.nil
theorem compOp_spec {op : Op} {r : ROp} (h : compOp P op = some r) : compRaw P op = some r ∧ ∀ x ∈ op.operands.toList, okOpd x = true := by
  unfold compOp at h
  split at h
  · rename_i hc; exact ⟨h, fun x hx => List.all_eq_true.1 hc x hx⟩
  · cases h
theorem compOper_spec {ops : Array Oper} {o : Oper} {r : ROper} (h : compOper P n ops o = some r) :
    (∀ k, o.dst = some k → k < n) ∧ r.dst = o.dst ∧ compOp P o.op = some r.op ∧
    ((o.guard = none ∧ r.guard = none) ∨ ∃ j b d, o.guard = some (j, b) ∧ (ops[j]?).bind (·.dst) = some d ∧ r.guard = some (d, b)) := by
  unfold compOper at h
  split at h
  · rename_i hd
    have hd' : ∀ k, o.dst = some k → k < n := by
      intro k hk; rw [hk] at hd; exact Nat.le_of_ble_eq_true hd
    cases hc : compOp P o.op with
    | none => simp [hc] at h
    | some q =>
      simp only [hc] at h
      cases hg : o.guard with
      | none => simp only [hg] at h; cases h; exact ⟨hd', rfl, rfl, .inl ⟨rfl, rfl⟩⟩
      | some jb =>
        obtain ⟨j, b⟩ := jb
        simp only [hg] at h
        cases hj : (ops[j]?).bind (·.dst) with
        | none => simp [hj] at h
        | some d => simp only [hj] at h; cases h; exact ⟨hd', rfl, rfl, .inr ⟨j, b, d, rfl, hj, rfl⟩⟩
  · cases h
theorem callFunc_run {f : FuncId} (hc : callable P f) (args : Array Value) (w : World) : (callFunc f args).run P w = .ok (.enter f args) w := by
  obtain ⟨fn, h1, h2, h3⟩ := hc
  simp only [callFunc, Sem.run_bind, run_program, Result.andThen_ok, h1, h2, h3, Bool.false_eq_true, if_false, Sem.run_pure]
theorem AOp_sound {ops : Array Oper} {o : Oper} {r : ROper} (hcomp : compOper P n ops o = some r) {K : St → Prop} {σ : St} (hA : AOp P W r K σ) {μ : PMap} {a : Act} {w : World} (H : HR W μ σ.h w)
    (hlook : ∀ t, Operand.tmp t ∈ o.op.operands.toList → VR μ (eget σ.e t) (a.tmps.getD t undef)) (hguard : ∀ d b, r.guard = some (d, b) → VR μ (eget σ.e d) (a.tmps.getD d undef))
    {K' : Act → World → Prop} {Q : Exit → Act → World → Prop}
    (hk : ∀ μ' v v' h' w', VR μ' v v' → HR W μ' h' w' → Ext μ σ.h.next μ' → σ.h.next ≤ h'.next → K ⟨eput σ.e r.dst v, h'⟩ → K' (a.put o.dst v') w') :
    if Region.wanted o (yielded ops a.tmps) then o.wp P a w K' Q else K' (a.put o.dst undef) w := by
  obtain ⟨hd, hdst, hop, hg⟩ := compOper_spec hcomp
  obtain ⟨hraw, hok⟩ := compOp_spec hop
  have hw : Region.wanted o (yielded ops a.tmps) = wantedA σ.e r.guard := by
    refine wanted_eq (μ := μ) ?_
    rcases hg with ⟨h1, h2⟩ | ⟨j, b, d, h1, h2, h3⟩
    · exact .inl ⟨h1, h2⟩
    · exact .inr ⟨j, b, d, h1, h2, h3, hguard d b h3⟩
  rw [hw]
  unfold AOp at hA
  cases hwa : wantedA σ.e r.guard with
  | false =>
    simp only [hwa, Bool.false_eq_true, if_false] at hA ⊢
    exact hk μ undef undef σ.h w VR.undef H (Ext.refl _ _) (Nat.le_refl _) hA
  | true =>
    simp only [hwa, if_true] at hA ⊢
    have hρ : ∀ x ∈ o.op.operands.toList, VR μ (opd σ.e x) (a.eval x) := fun x hx => opd_rel (hok x hx) (fun t e => hlook t (e ▸ hx))
    unfold Oper.wp
    have other : (∃ v h', rop W (opd σ.e) σ.h r.op = some (v, h') ∧ K ⟨eput σ.e r.dst v, h'⟩) → o.upon P a K' Q ((execOp a.eval o).run P w) := by
      rintro ⟨v, h', hr, hK⟩
      obtain ⟨nx, v', w', μ', hrun, hnx, hv, H', he, hn⟩ := rop_sim hraw H hρ hr
      rw [hrun]
      rcases hnx with rfl | ⟨rfl, rfl⟩
      · exact hk μ' v v' h' w' hv H' he hn hK
      · exact hk μ' v undef h' w' hv H' he hn hK
    cases hrop : r.op with
    | call f args =>
      rw [hrop] at hA hraw
      obtain ⟨fid, cap, hf, hcall⟩ := hA
      -- the operation is a call of a value
      have hcallop : ∃ c : Call, o.op = .call c ∧ c.callee = .value f ∧ c.args.toList = args := by
        unfold compRaw at hraw
        split at hraw <;> try (first | (cases hraw; done) | (simp at hraw; done))
        all_goals (try (repeat' (split at hraw)) <;> try (first | (cases hraw; done) | (simp at hraw; done) | (obtain ⟨_, _, hh⟩ := some_map hraw; cases hh; done)))
        rename_i c hc _ f' hcal
        cases hraw
        exact ⟨c, hc, hcal, rfl⟩
      obtain ⟨c, hc, hcal, hcargs⟩ := hcallop
      have hfm : VR μ (opd σ.e f) (a.eval f) := hρ f (by rw [hc]; simp [Op.operands, Call.operands, hcal])
      rw [hf] at hfm
      obtain ⟨_, ys, hfe, hys⟩ := hfm.func_inv
      have hargs : VRs μ (args.map (opd σ.e)) (args.map a.eval) := VRs.map fun x hx => hρ x (by rw [hc]; simp only [Op.operands, Call.operands, Array.toList_append, List.mem_append]; right; rw [hcargs]; exact hx)
      have hC := hcall.2 μ (args.map a.eval ++ ys.toList) w H (hargs.append hys)
      have hmap : c.args.map a.eval = (args.map a.eval).toArray := Array.ext' (by simp [hcargs])
      have hrun : (execOp a.eval o).run P w = .ok (.enter fid (args.map a.eval ++ ys.toList).toArray) w := by
        unfold execOp
        rw [hc]
        simp only [resolve, hcal, hfe, Deferred.ofValue, Sem.run_bind, Sem.run_pure, Result.andThen_ok, invoke, hmap]
        rw [callFunc_run hcall.1]
        congr 2
        exact Array.ext' (by simp)
      rw [hrun]
      show Calls P fid _ w _
      refine hC.mono ?_
      rintro e w' ⟨v, v', h', μ', rfl, hv, H', he, hn, hK⟩
      exact hk μ' v v' h' w' hv H' he hn hK
    | _ =>
      rw [hrop] at hA
      exact other (by rw [hrop]; exact hA)
theorem AOps_sound {ops : Array Oper} {K : St → Prop} {Q : Exit → Act → World → Prop} : ∀ (l : List Oper) (rs : List ROper), compOpers P n ops l = some rs →
    ∀ (σ : St) (μ : PMap) (a : Act) (w : World), AOps P W rs K σ → Rel W n μ σ a w →
    (∀ σ' μ' a' w', Rel W n μ' σ' a' w' → Ext μ σ.h.next μ' → σ.h.next ≤ σ'.h.next → K σ' → Q .normal a' w') → wpList P ops Q l a w
  | [], rs, hc, σ, μ, a, w, hA, hR, hQ => by
    simp [compOpers] at hc; subst hc
    exact hQ σ μ a w hR (Ext.refl _ _) (Nat.le_refl _) hA
  | o :: l, rs, hc, σ, μ, a, w, hA, hR, hQ => by
    unfold compOpers at hc
    cases h1 : compOper P n ops o with
    | none => simp [h1] at hc
    | some r =>
      cases h2 : compOpers P n ops l with
      | none => simp [h1, h2] at hc
      | some rs' =>
        simp [h1, h2] at hc; subst hc
        obtain ⟨hd, hdst, _, _⟩ := compOper_spec h1
        refine wpList_step fun K2 hK2 => ?_
        refine AOp_sound h1 (K := AOps P W rs' K) hA hR.hr (fun t _ => hR.er t) (fun d b _ => hR.er d) ?_
        intro μ' v v' h' w' hv H' he hn hA'
        refine hK2 _ _ ?_
        have hR' : Rel W n μ' ⟨eput σ.e r.dst v, h'⟩ (a.put o.dst v') w' := by rw [hdst]; exact hR.put hd hv H' he
        exact AOps_sound l rs' h2 _ μ' _ w' hA' hR' (fun σ'' μ'' a'' w'' hR'' he' hn' hK => hQ σ'' μ'' a'' w'' hR'' (he.trans he' hn) (Nat.le_trans hn hn') hK)
end
end Go.Mach
end
section
set_option linter.unusedSimpArgs false
set_option linter.unusedVariables false
namespace Go.Mach
open Go Go.RowKit
section
variable {P : Program} {W : World} {n : Nat}
def DOps (P : Program) (W : World) : List Stage → (St → Prop) → St → Prop
  | [], _, _ => False
  | s :: ss, K, σ => ∃ σ1, sops W s.ops σ = some σ1 ∧ (∀ o ∈ s.chk, Chk W σ1 o) ∧ (∀ i ∈ mkIds σ1.e s.ops, σ.h.next ≤ i) ∧ (mkIds σ1.e s.chk).Nodup ∧
      (match s.eff with
       | none => K σ1
       | some o => AOp P W o (DOps P W ss K) σ1)
theorem kind0_heap {ρ : Operand → Value} {h h' : AHeap} {r : ROp} {v : Value} (hk : kindOf r = some 0) (hr : rop W ρ h r = some (v, h')) : h' = h := by
  cases r <;> simp [kindOf] at hk <;> simp only [rop] at hr
  all_goals first
    | (cases hr; rfl)
    | (obtain ⟨u, _, he⟩ := some_map hr; cases he; rfl)
    | ((repeat' (split at hr)) <;> first | (cases hr; done) | (cases hr; rfl) | (obtain ⟨u, _, he⟩ := some_map hr; cases he; rfl) | skip)
  all_goals (rw [Bool.cond_eq_ite] at hr; split at hr <;> first | (cases hr; done) | (cases hr; rfl))
theorem kind1_make {ρ : Operand → Value} {h h' : AHeap} {r : ROp} {v : Value} {q : Nat} (hk : kindOf r = some (q + 1)) (hr : rop W ρ h r = some (v, h')) : ∃ l, h' = h.new (.cells l) := by
  cases r <;> simp [kindOf] at hk <;> simp only [rop] at hr
  · cases hr; exact ⟨_, rfl⟩
  · rw [Bool.cond_eq_ite] at hr; split at hr <;> cases hr; exact ⟨_, rfl⟩
  · split at hr
    · rw [Bool.cond_eq_ite] at hr; split at hr <;> cases hr; exact ⟨_, rfl⟩
    · cases hr
theorem HR.ghost {μ : PMap} {h : AHeap} {w : World} (H : HR W μ h w) (b : ABlk) : HR W μ (h.new b) w := by
  refine ⟨H.below, fun i p hp => by have := H.dom i p hp; simp only [AHeap.new]; omega, ?_, ?_, ?_⟩
  · intro i hi
    simp only [AHeap.new] at hi ⊢
    rw [Tr.get_set_ne _ _ _ _ (by omega)]
    exact H.fresh i (by omega)
  · intro i p c hp hc
    have := H.dom i p hp
    simp only [AHeap.new] at hc
    rw [Tr.get_set_ne _ _ _ _ (by omega)] at hc
    exact H.rep i p c hp hc
  · intro i j p q b' c hp hq hb hc hl hl' hpq
    have h1 := H.dom i p hp
    have h2 := H.dom j q hq
    simp only [AHeap.new] at hb hc
    rw [Tr.get_set_ne _ _ _ _ (by omega)] at hb hc
    exact H.inj i j p q b' c hp hq hb hc hl hl' hpq
theorem sops_spec : ∀ {os : List ROper} {σ σ1 : St}, (∀ o ∈ os, ∃ q, kindOf o.op = some q) → sops W os σ = some σ1 →
    (∀ t, (∀ o ∈ os, o.dst ≠ some t) → eget σ1.e t = eget σ.e t) ∧ σ.h.next ≤ σ1.h.next ∧ (∀ μ w, HR W μ σ.h w → HR W μ σ1.h w)
  | [], σ, σ1, _, h => by simp [sops] at h; subst h; exact ⟨fun _ _ => rfl, Nat.le_refl _, fun _ _ h => h⟩
  | o :: os, σ, σ1, hk, h => by
    unfold sops at h
    have hk' : ∀ o ∈ os, ∃ q, kindOf o.op = some q := fun o ho => hk o (by simp [ho])
    rw [Bool.cond_eq_ite] at h
    split at h
    · split at h
      · rename_i v h' hr
        obtain ⟨h1, h2, h3⟩ := sops_spec hk' h
        obtain ⟨q, hq⟩ := hk o (by simp)
        have hh : σ.h.next ≤ h'.next ∧ ∀ μ w, HR W μ σ.h w → HR W μ h' w := by
          cases q with
          | zero => have := kind0_heap hq hr; subst this; exact ⟨Nat.le_refl _, fun _ _ h => h⟩
          | succ q => obtain ⟨l, rfl⟩ := kind1_make hq hr; exact ⟨by simp [AHeap.new], fun _ _ h => h.ghost _⟩
        refine ⟨fun t ht => ?_, Nat.le_trans hh.1 h2, fun μ w H => h3 μ w (hh.2 μ w H)⟩
        rw [h1 t (fun o ho => ht o (by simp [ho])), eget_eput, if_neg (ht o (by simp))]
      · cases h
    · obtain ⟨h1, h2, h3⟩ := sops_spec hk' h
      refine ⟨fun t ht => ?_, h2, h3⟩
      rw [h1 t (fun o ho => ht o (by simp [ho])), eget_eput, if_neg (ht o (by simp))]
theorem HR.allocAt {μ : PMap} {h : AHeap} {w : World} (H : HR W μ h w) {i : Nat} (hi : i < h.next) (hμ : μ i = none) {l l' : List Value} (hg : h.own.get i = some (.cells l)) (hl : VRs μ l l') (h1 : ∀ v ∈ l, v.oneCell' = true) (e esz : Nat) :
    HR W (μ.upd i ⟨w.heap.size, 0, l'.length, esz⟩) h (w.alloc (.cells l'.toArray e)) := by
  have hm : ∀ j p, μ j = some p → (μ.upd i ⟨w.heap.size, 0, l'.length, esz⟩) j = some p := by
    intro j p hp
    have : j ≠ i := by rintro rfl; rw [hμ] at hp; cases hp
    rw [PMap.upd_ne μ _ this]; exact hp
  refine ⟨H.below.alloc H.below.size _, ?_, H.fresh, ?_, ?_⟩
  · intro j p hp
    by_cases e' : j = i
    · omega
    · rw [PMap.upd_ne μ _ e'] at hp; exact H.dom j p hp
  · intro j p b hp hb
    by_cases e' : j = i
    · subst e'
      rw [PMap.upd_self] at hp; cases hp
      rw [hg] at hb; cases hb
      refine ⟨H.below.size, l'.toArray, e, heap_alloc_new w _, by simp, by have := hl.1; simp; omega, ?_⟩
      intro k v hv
      obtain ⟨v', h2, h3⟩ := hl.2 k v hv
      have h4 := h1 v (List.mem_of_getElem? hv)
      exact ⟨h4, v', by simpa using h2, by rw [h3.oneCell]; exact h4, h3.mono hm⟩
    · rw [PMap.upd_ne μ _ e'] at hp
      have hr := H.rep j p b hp hb
      exact hr.mono hm (fun hl => by have := hr.lt hl; exact heap_alloc_old w _ p.blk this)
  · intro j k p q b c hp hq hb hc hl hl' hpq
    by_cases e1 : j = i
    · by_cases e2 : k = i
      · omega
      · exfalso
        subst e1
        rw [PMap.upd_self] at hp; cases hp
        rw [PMap.upd_ne μ _ e2] at hq
        have := (H.rep k q c hq hc).lt hl'
        simp only at hpq; omega
    · rw [PMap.upd_ne μ _ e1] at hp
      by_cases e2 : k = i
      · exfalso
        subst e2
        rw [PMap.upd_self] at hq; cases hq
        have := (H.rep j p b hp hb).lt hl
        simp only at hpq; omega
      · rw [PMap.upd_ne μ _ e2] at hq
        exact H.inj j k p q b c hp hq hb hc hl hl' hpq
theorem make_run {o : Oper} {r : ROp} {q : Nat} (hc : compRaw P o.op = some r) (hk : kindOf r = some (q + 1)) {μ : PMap} {h : AHeap} {w : World} (H : HR W μ h w) {ρ ρ' : Operand → Value}
    (hρ : ∀ x ∈ o.op.operands.toList, VR μ (ρ x) (ρ' x)) {l : List Value} (hm : mkOf ρ r = some l) {i : Nat} (hi : i < h.next) (hμ : μ i = none) (hg : h.own.get i = some (.cells l)) :
    ∃ v' w' μ', (execOp ρ' o).run P w = .ok (.value v') w' ∧ VR μ' (mkVal i r) v' ∧ HR W μ' h w' ∧ (∀ j, j ≠ i → μ' j = μ j) ∧ (∀ j p, μ j = some p → μ' j = some p) := by
  have fin : ∀ (l' : List Value) (e esz : Nat) (v' : Value), VRs μ l l' → (∀ v ∈ l, v.oneCell' = true) → (execOp ρ' o).run P w = .ok (.value v') (w.alloc (.cells l'.toArray e)) →
      VR (μ.upd i ⟨w.heap.size, 0, l'.length, esz⟩) (mkVal i r) v' →
      ∃ v' w' μ', (execOp ρ' o).run P w = .ok (.value v') w' ∧ VR μ' (mkVal i r) v' ∧ HR W μ' h w' ∧ (∀ j, j ≠ i → μ' j = μ j) ∧ (∀ j p, μ j = some p → μ' j = some p) := by
    intro l' e esz v' h1 h2 h3 h4
    refine ⟨v', _, _, h3, h4, H.allocAt hi hμ hg h1 h2 e esz, fun j hj => PMap.upd_ne μ _ hj, ?_⟩
    intro j p hp
    have : j ≠ i := by rintro rfl; rw [hμ] at hp; cases hp
    rw [PMap.upd_ne μ _ this]; exact hp
  -- the run at the heap as it is, with the block's number the next one
  cases hop : o.op with
  | alloc e =>
    simp only [hop, compRaw] at hc
    obtain ⟨z, hz, rfl⟩ := some_map hc
    simp only [mkOf] at hm; cases hm
    obtain ⟨u, k, h1, h2, h3, h4, h5⟩ := zerosT_spec hz
    have hu : u.cells = l.toArray := Array.ext' (by rw [cells_toList, h3])
    refine fin l e 0 (.pointer (some ⟨w.heap.size, 0, none⟩)) (VR.plains h5) (plain_all_one h5) ?_ VR.newP
    unfold execOp
    rw [hop]
    simp [Instr.alloc, zeroT_run h1, newVar, newRow, hu]
  | box e x =>
    simp only [hop, compRaw] at hc hρ; cases hc
    simp only [mkOf] at hm
    rw [Bool.cond_eq_ite] at hm
    split at hm
    · rename_i hb
      cases hm
      have hx := hρ x (by simp [Op.operands])
      have hu : (ρ' x).cells = (celsL (ρ' x)).toArray := Array.ext' (by rw [cells_toList])
      refine fin (celsL (ρ' x)) e 0 (.pointer (some ⟨w.heap.size, 0, none⟩)) hx.cels (fun v hv => by rw [← oneV_eq]; exact List.all_eq_true.1 hb v hv) ?_ VR.newP
      unfold execOp
      rw [hop]
      simp [Instr.box, newVar, newRow, hu]
    · cases hm
  | buildSlice t m ps =>
    simp only [hop, compRaw] at hc hρ
    have hv : ∀ p ∈ ps.toList, VR μ (ρ p.2) (ρ' p.2) := fun p hp => hρ p.2 (by simp only [Op.operands, List.mem_map]; exact ⟨p, hp, rfl⟩)
    split at hc
    · rename_i e ht
      split at hc
      · rename_i z hz
        split at hc
        · rename_i hn
          cases hc
          simp only [mkOf] at hm
          split at hm
          · rename_i l0 hl0
            rw [Bool.cond_eq_ite] at hm
            split at hm
            · rename_i hb
              cases hm
              -- through the lemma on the machine's own run
              have hrop : rop W ρ h (.buildSl (repL z m) (elemParts z.length ps.toList) m z.length) = some (oS h.next 0 m z.length, h.new (.cells l)) := by simp only [rop, hl0, hb, cond_true]
              obtain ⟨u, k, h1, h2, h3, h4, h5⟩ := zerosT_spec hz
              subst h4
              obtain ⟨e1, e2⟩ := elemParts_spec z.length ps.toList
              obtain ⟨l', g1, g2, g3⟩ := fill_run (fun i => some (i * z.length, z.length)) ps.toList _ (repL z m) (repL z m) l e1 e2 hv (VR.plains (repL_plain h5 m)) hl0
              have hlen : l'.length = m * z.length := by rw [← g2.1, g3, repL_length]
              have hu : u.cells = z.toArray := Array.ext' (by rw [cells_toList, h3])
              have hps : (ps.map fun (i, x) => (i, ρ' x)).toList = ps.toList.map fun p => (p.1, ρ' p.2) := by simp
              have hn' : ¬ (m * z.length > 2 ^ 24) := by omega
              refine fin l' e z.length (.slice (some ⟨w.heap.size, 0, none⟩) m m) g2 (fun v hv => by rw [← oneV_eq]; exact List.all_eq_true.1 hb v hv) ?_ (VR.newS (Nat.le_refl m) (by omega))
              unfold execOp
              rw [hop]
              by_cases h0 : m * z.length = 0
              · have hr0 : (Array.range (m * z.length)).map (fun i => (#[] : Array Value)[i % (#[] : Array Value).size]!) = (repL z m).toArray := by
                  rw [h0]; apply Array.ext'
                  have : repL z m = [] := List.eq_nil_of_length_eq_zero (by rw [repL_length]; exact h0)
                  simp [this]
                rw [h0] at hr0 hn'
                simp only [Instr.buildSlice, Sem.run_bind, run_underlying ht, Result.andThen_ok, sizeT_run h2, h0, hn', if_false, if_true, Sem.run_pure, hr0, hps, g1, newRow, run_newObj]
                rfl
              · simp only [Instr.buildSlice, Sem.run_bind, run_underlying ht, Result.andThen_ok, sizeT_run h2, h0, hn', if_false, zeroT_run h1, Sem.run_pure, hu, zeros_eq, hps, g1, newRow, run_newObj]
                rfl
            · cases hm
          · cases hm
        · cases hc
      · cases hc
    · cases hc
  | makeMap t r' =>
    exfalso
    cases r' with
    | none => simp only [hop, compRaw] at hc; cases hc; simp [kindOf] at hk
    | some x => simp [hop, compRaw] at hc
  | slice t x lo hi mx =>
    exfalso
    cases mx with
    | some x => simp [hop, compRaw] at hc
    | none =>
      simp only [hop, compRaw] at hc
      (repeat' (split at hc)) <;> first
        | (cases hc; done)
        | (cases hc; simp [kindOf] at hk; done)
  | next x b =>
    exfalso
    cases b with
    | false => simp [hop, compRaw] at hc
    | true => simp only [hop, compRaw] at hc; cases hc; simp [kindOf] at hk
  | _ =>
    exfalso
    simp only [hop, compRaw] at hc
    (repeat' (split at hc)) <;> first
      | (cases hc; done)
      | (cases hc; simp [kindOf] at hk; done)
      | (obtain ⟨_, _, he⟩ := some_map hc; cases he; simp [kindOf] at hk; done)
end
end Go.Mach
end
