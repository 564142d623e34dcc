/- The abstract machine, part 10: every operation that is no call. No condition. -/
import Derived.Test.YtlipmjpapkfaeaaGreatDoorM9
set_option linter.unusedSimpArgs false
set_option linter.unusedVariables false
namespace Go.Mach
open Go Go.RowKit

section
variable {P : Program} {W : World} {μ : PMap} {h : AHeap} {w : World} {ρ ρ' : Operand → Value}

theorem opt_opd {lo : Option Operand} {l : List Operand} (hsub : ∀ x, lo = some x → x ∈ l) (hρ : ∀ x ∈ l, VR μ (ρ x) (ρ' x)) : ∀ x, lo = some x → VR μ (ρ x) (ρ' x) := fun x hx => hρ x (hsub x hx)

theorem rop_sim {o : Oper} {r : ROp} {v : Value} {h' : AHeap} (hc : compRaw P o.op = some r) (H : HR W μ h w) (hρ : ∀ x ∈ o.op.operands.toList, VR μ (ρ x) (ρ' x))
    (hr : rop W ρ h r = some (v, h')) : Sim P W μ h w (execOp ρ' o) v h' := by
  unfold execOp
  cases hop : o.op with
  | move x =>
    simp only [hop, compRaw] at hc hρ; cases hc
    simp only [rop] at hr; cases hr
    exact sim_mov H (hρ x (by simp [Op.operands]))
  | assign x =>
    simp only [hop, compRaw] at hc hρ; cases hc
    simp only [rop] at hr; cases hr
    exact sim_mov H (hρ x (by simp [Op.operands]))
  | pick c a b =>
    simp only [hop, compRaw] at hc hρ; cases hc
    exact sim_pick H (hρ c (by simp [Op.operands])) (hρ a (by simp [Op.operands])) (hρ b (by simp [Op.operands])) hr
  | alloc e =>
    simp only [hop, compRaw] at hc
    obtain ⟨z, hz, rfl⟩ := some_map hc
    exact sim_newv H hz hr
  | box e x =>
    simp only [hop, compRaw] at hc hρ; cases hc
    exact sim_box H (hρ x (by simp [Op.operands])) hr
  | build t ps =>
    simp only [hop, compRaw] at hc hρ
    have hv : ∀ p ∈ ps.toList, VR μ (ρ p.2) (ρ' p.2) := fun p hp => hρ p.2 (by simp only [Op.operands, List.mem_map]; exact ⟨p, hp, rfl⟩)
    split at hc
    · rename_i z fs hz ht
      split at hc
      · rename_i hs
        obtain ⟨qs, hq, rfl⟩ := some_map hc
        exact sim_build_struct H hz ht hs hq hv hr
      · cases hc
    · rename_i z n e hz ht
      obtain ⟨n, hn, rfl⟩ := some_map hc
      exact sim_build_array H hz ht hn hv hr
    · cases hc
  | buildSlice t n ps =>
    simp only [hop, compRaw] at hc hρ
    have hv : ∀ p ∈ ps.toList, VR μ (ρ p.2) (ρ' p.2) := fun p hp => hρ p.2 (by simp only [Op.operands, List.mem_map]; exact ⟨p, hp, rfl⟩)
    split at hc
    · rename_i e ht
      split at hc
      · rename_i z hz
        split at hc
        · rename_i hn
          cases hc
          exact sim_buildSl H ht hz hn hv hr
        · cases hc
      · cases hc
    · cases hc
  | insert t m k u =>
    simp only [hop, compRaw] at hc hρ
    split at hc
    · rename_i kt el ht
      split at hc
      · rename_i q hq
        cases hc
        exact sim_mapUpd H ht hq (hρ m (by simp [Op.operands])) (hρ k (by simp [Op.operands])) (hρ u (by simp [Op.operands])) hr
      · cases hc
    · cases hc
  | load t x =>
    simp only [hop, compRaw] at hc hρ
    split at hc
    · rename_i ht
      cases hc
      exact sim_load1 H ht (hρ x (by simp [Op.operands])) hr
    · rename_i ht
      obtain ⟨n, hn, rfl⟩ := some_map hc
      exact sim_loadN H ht hn (hρ x (by simp [Op.operands])) hr
    · cases hc
  | store t x u =>
    simp only [hop, compRaw] at hc hρ
    obtain ⟨n, hn, rfl⟩ := some_map hc
    exact sim_store H hn (hρ x (by simp [Op.operands])) (hρ u (by simp [Op.operands])) hr
  | nilCheck x =>
    simp only [hop, compRaw] at hc hρ; cases hc
    have := sim_nilChk (P := P) H (hρ x (by simp [Op.operands])) hr o hop
    unfold execOp at this
    rw [hop] at this
    exact this
  | binOp op t x y yt =>
    simp only [hop, compRaw] at hc hρ
    split at hc
    · rename_i e he
      cases hc
      simp only [rop] at hr
      obtain ⟨u, hu, hh⟩ := some_map hr
      cases hh
      exact sim_bin H he (hρ x (by simp [Op.operands])) (hρ y (by simp [Op.operands])) hu
    · cases hc
  | unOp op t x =>
    simp only [hop, compRaw] at hc hρ; cases hc
    simp only [rop] at hr
    obtain ⟨u, hu, hh⟩ := some_map hr
    cases hh
    exact sim_un H (hρ x (by simp [Op.operands])) hu
  | convert s d x =>
    simp only [hop, compRaw] at hc hρ
    have hx := hρ x (by simp [Op.operands])
    split at hc
    · rename_i h1 h2; cases hc; exact sim_toStr H h1 h2 hx hr
    · rename_i e h1 h2
      split at hc
      · rename_i he; cases hc; exact sim_strRunes H h1 h2 he hx hr
      · cases hc
    · rename_i e h1 h2
      split at hc
      · rename_i he; cases hc; exact sim_bytesStr H h1 h2 he hx hr
      · cases hc
    · rename_i q k h1 h2; cases hc; exact sim_conv H h1 h2 hx hr
    · rename_i q h1 h2; cases hc; exact sim_encRune H h1 h2 hx hr
    · cases hc
  | makeFunc fn first cap =>
    simp only [hop, compRaw] at hc hρ
    split at hc
    · rename_i hf
      cases hc
      simp only [rop] at hr; cases hr
      exact sim_mkFn H (by simpa using hf) (fun x hx => hρ x (by simp only [Op.operands, Array.toList_append, List.mem_append]; exact .inr hx))
    · cases hc
  | makeMap t r' =>
    cases r' with
    | none =>
      simp only [hop, compRaw] at hc; cases hc
      exact sim_mkMap H hr
    | some x => simp [hop, compRaw] at hc
  | makeSlice t l c =>
    simp only [hop, compRaw] at hc hρ
    split at hc
    · rename_i e ht
      split at hc
      · rename_i z b hz hb
        split at hc
        · rename_i h0; cases hc
          exact sim_mkSlice H ht hz hb h0 (hρ l (by simp [Op.operands])) (hρ c (by simp [Op.operands])) hr
        · cases hc
      · cases hc
    · cases hc
  | slice t x lo hi mx =>
    cases mx with
    | some m => simp [hop, compRaw] at hc
    | none =>
      simp only [hop, compRaw] at hc hρ
      have hx := hρ x (by simp [Op.operands])
      have hlo : ∀ y, lo = some y → VR μ (ρ y) (ρ' y) := fun y hy => hρ y (by simp [Op.operands, hy])
      have hhi : ∀ y, hi = some y → VR μ (ρ y) (ρ' y) := fun y hy => hρ y (by simp [Op.operands, hy])
      split at hc
      · rename_i ht
        cases hc
        simp only [rop] at hr
        obtain ⟨u, hu, hh⟩ := some_map hr
        cases hh
        exact sim_slcStr H ht hx hlo hhi hu
      · rename_i e ht
        split at hc
        · rename_i n hn
          split at hc
          · cases hc
            simp only [rop] at hr
            obtain ⟨u, hu, hh⟩ := some_map hr
            cases hh
            exact sim_slc H ht hn hx hlo hhi hu
          · cases hc
        · cases hc
      · cases hc
  | fieldAddr t x f =>
    simp only [hop, compRaw] at hc hρ
    split at hc
    · rename_i fs ht
      split at hc
      · rename_i fd hf
        split at hc
        · rename_i n hn
          split at hc
          · rename_i h0; cases hc
            exact sim_addOff H ht hf hn h0 (hρ x (by simp [Op.operands])) hr
          · cases hc
        · cases hc
      · cases hc
    · cases hc
  | field t x f =>
    simp only [hop, compRaw] at hc hρ
    have hx := hρ x (by simp [Op.operands])
    split at hc
    · rename_i fs ht
      split at hc
      · rename_i fd hf
        split at hc
        · rename_i n hn hs; cases hc; exact sim_partN H ht hf hn hs hx hr
        · rename_i hn; cases hc; exact sim_part1 H ht hf hn hx hr
        · cases hc
      · cases hc
    · cases hc
  | indexAddr t x i =>
    simp only [hop, compRaw] at hc hρ
    have hx := hρ x (by simp [Op.operands])
    have hi := hρ i (by simp [Op.operands])
    split at hc
    · rename_i e ht
      split at hc
      · rename_i n hn
        split at hc
        · cases hc
          simp only [rop] at hr
          obtain ⟨u, hu, hh⟩ := some_map hr
          cases hh
          exact sim_idxA H ht hn hx hi hu
        · cases hc
      · cases hc
    · rename_i len e ht
      split at hc
      · rename_i n hn
        split at hc
        · cases hc
          simp only [rop] at hr
          obtain ⟨u, hu, hh⟩ := some_map hr
          cases hh
          exact sim_idxArr H ht hn hx hi hu
        · cases hc
      · cases hc
    · cases hc
  | index t x i =>
    simp only [hop, compRaw] at hc hρ
    split at hc
    · rename_i ht
      cases hc
      simp only [rop] at hr
      obtain ⟨u, hu, hh⟩ := some_map hr
      cases hh
      exact sim_idxStr H ht (hρ x (by simp [Op.operands])) (hρ i (by simp [Op.operands])) hu
    · cases hc
  | lookup t x k ok =>
    simp only [hop, compRaw] at hc hρ
    split at hc
    · rename_i kt el ht
      split at hc
      · rename_i q z hq hz
        split at hc
        · rename_i hcl
          cases hc
          simp only [rop] at hr
          obtain ⟨u, hu, hh⟩ := some_map hr
          cases hh
          exact sim_lookup H ht hq hz hcl (hρ x (by simp [Op.operands])) (hρ k (by simp [Op.operands])) hu
        · cases hc
      · cases hc
    · cases hc
  | mapUpdate t m k u =>
    simp only [hop, compRaw] at hc hρ
    split at hc
    · rename_i kt el ht
      split at hc
      · rename_i q hq
        cases hc
        exact sim_mapUpd H ht hq (hρ m (by simp [Op.operands])) (hρ k (by simp [Op.operands])) (hρ u (by simp [Op.operands])) hr
      · cases hc
    · cases hc
  | range t x =>
    simp only [hop, compRaw] at hc hρ
    split at hc
    · rename_i ht
      cases hc
      exact sim_rangeStr H ht (hρ x (by simp [Op.operands])) hr
    · cases hc
  | next x isS =>
    cases isS with
    | false => simp [hop, compRaw] at hc
    | true =>
      simp only [hop, compRaw] at hc hρ; cases hc
      exact sim_nextStr (ty := o.type) H (hρ x (by simp [Op.operands])) hr
  | extract x i =>
    simp only [hop, compRaw] at hc hρ; cases hc
    exact sim_extract H (hρ x (by simp [Op.operands])) hr
  | call c =>
    simp only [hop, compRaw] at hc hρ
    have hargs : ∀ x ∈ c.args.toList, VR μ (ρ x) (ρ' x) := fun x hx => hρ x (by simp only [Op.operands, Call.operands, Array.toList_append, List.mem_append]; exact .inr hx)
    split at hc
    · cases hc; simp [rop] at hr
    · rename_i hcal
      split at hc
      · rename_i x t h1 h2
        have ha : c.args = #[x] := Array.ext' h1
        have ht : c.argTypes = #[t] := Array.ext' h2
        have hx := hargs x (by rw [h1]; simp)
        simp only [resolve, hcal, ha, ht, invoke, builtin, List.map_toArray, List.map_cons, List.map_nil]
        split at hc <;> first | (rename_i hu; cases hc) | cases hc
        · exact sim_lenStr (ty := o.type) H hu hx hr
        · exact sim_lenSl (ty := o.type) H hu hx hr
        · exact sim_lenMap (ty := o.type) H hu hx hr
      · cases hc
    · rename_i hcal
      split at hc
      · rename_i x y t u h1 h2
        have ha : c.args = #[x, y] := Array.ext' h1
        have ht : c.argTypes = #[t, u] := Array.ext' h2
        have hx := hargs x (by rw [h1]; simp)
        have hy := hargs y (by rw [h1]; simp)
        simp only [resolve, hcal, ha, ht, invoke, builtin, List.map_toArray, List.map_cons, List.map_nil]
        split at hc
        · rename_i e hu
          split at hc
          · rename_i z b hz hb
            split at hc
            · rename_i hcond
              split at hc
              · rename_i e' hu'
                split at hc
                · rename_i hee
                  cases hc
                  subst hee
                  exact sim_app (ty := o.type) H hu hz hcond.1 hb hcond.2 hu' (.inl rfl) hx hy hr
                · cases hc
              · rename_i hu'
                split at hc
                · rename_i hz1
                  cases hc
                  rw [← hz1] at hr
                  exact sim_app (ty := o.type) H hu hz hcond.1 hb hcond.2 hu' (.inr rfl) hx hy hr
                · cases hc
              · cases hc
            · cases hc
          · cases hc
        · cases hc
      · cases hc
    · rename_i hcal
      split at hc
      · rename_i x t h1 h2
        have ha : c.args = #[x] := Array.ext' h1
        have ht : c.argTypes = #[t] := Array.ext' h2
        have hx := hargs x (by rw [h1]; simp)
        simp only [resolve, hcal, ha, ht, invoke, builtin, List.map_toArray, List.map_cons, List.map_nil]
        split at hc
        · rename_i e hu
          split at hc
          · rename_i z hz
            split at hc
            · cases hc
              exact sim_clr (ty := o.type) H hu hz hx hr
            · cases hc
          · cases hc
        · cases hc
      · cases hc
    · rename_i hcal
      split at hc
      · rename_i x y h1
        have ha : c.args = #[x, y] := Array.ext' h1
        have hx := hargs x (by rw [h1]; simp)
        have hy := hargs y (by rw [h1]; simp)
        cases hc
        simp only [resolve, hcal, ha, invoke, builtin, List.map_toArray, List.map_cons, List.map_nil]
        exact sim_min (ty := o.type) H hx hy hr
      · cases hc
    · rename_i hcal
      split at hc
      · rename_i x y h1
        have ha : c.args = #[x, y] := Array.ext' h1
        have hx := hargs x (by rw [h1]; simp)
        have hy := hargs y (by rw [h1]; simp)
        cases hc
        simp only [resolve, hcal, ha, invoke, builtin, List.map_toArray, List.map_cons, List.map_nil]
        exact sim_max (ty := o.type) H hx hy hr
      · cases hc
    · cases hc
  | _ => simp [hop, compRaw] at hc

end
end Go.Mach
