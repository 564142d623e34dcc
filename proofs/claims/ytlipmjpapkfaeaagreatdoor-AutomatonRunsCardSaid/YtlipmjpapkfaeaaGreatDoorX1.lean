/- The abstract machine, part 21: steps of the machine's logic, one operation at a time. No condition. -/
import Derived.Test.YtlipmjpapkfaeaaGreatDoorM20
set_option linter.unusedSimpArgs false
set_option linter.unusedVariables false
namespace Go.Mach
open Go Go.RowKit

def notCall : ROp → Bool
  | .call _ _ => false
  | _ => true

section
variable {P : Program} {W : World} {n : Nat}

theorem ops_nil {K : St → Prop} {σ : St} (h : K σ) : AOps P W [] K σ := h
theorem ops_do {e : Env} {h h' : AHeap} {d : Option Nat} {op : ROp} {g : Option (Nat × Bool)} {os : List ROper} {K : St → Prop} {v : Value}
    (hw : wantedA e g = true) (hr : rop W (opd e) h op = some (v, h')) (hn : notCall op = true) (hK : AOps P W os K ⟨eput e d v, h'⟩) : AOps P W (⟨d, op, g⟩ :: os) K ⟨e, h⟩ := by
  show AOp P W _ _ _
  unfold AOp
  simp only [hw, if_true]
  cases op <;> first | (cases hn; done) | exact ⟨v, h', hr, hK⟩
theorem ops_do0 {e : Env} {h h' : AHeap} {d : Option Nat} {op : ROp} {os : List ROper} {K : St → Prop} {v : Value}
    (hr : rop W (opd e) h op = some (v, h')) (hn : notCall op = true) (hK : AOps P W os K ⟨eput e d v, h'⟩) : AOps P W (⟨d, op, none⟩ :: os) K ⟨e, h⟩ := ops_do rfl hr hn hK
theorem ops_pass {e : Env} {h : AHeap} {d : Option Nat} {op : ROp} {g : Option (Nat × Bool)} {os : List ROper} {K : St → Prop}
    (hw : wantedA e g = false) (hK : AOps P W os K ⟨eput e d undef, h⟩) : AOps P W (⟨d, op, g⟩ :: os) K ⟨e, h⟩ := by
  show AOp P W _ _ _
  unfold AOp
  simp only [hw, Bool.false_eq_true, if_false]
  exact hK
theorem ops_call {e : Env} {h : AHeap} {d : Option Nat} {f : Operand} {args : List Operand} {g : Option (Nat × Bool)} {os : List ROper} {K : St → Prop} {fid : FuncId} {cap : Array Value} {R : Value → AHeap → Prop}
    (hw : wantedA e g = true) (hf : opd e f = .func (.func fid) #[] cap) (hc : ACalls P W fid (args.map (opd e) ++ cap.toList) h R) (hK : ∀ v h', R v h' → AOps P W os K ⟨eput e d v, h'⟩) : AOps P W (⟨d, .call f args, g⟩ :: os) K ⟨e, h⟩ := by
  show AOp P W _ _ _
  unfold AOp
  simp only [hw, if_true]
  exact ⟨fid, cap, hf, hc.mono hK⟩

theorem x_skip {Q : Exit → St → Prop} {σ : St} (h : Q .normal σ) : WPX P W n .skip Q σ := h
theorem x_region {os : List ROper} {Q : Exit → St → Prop} {σ : St} (h : AOps P W os (Q .normal) σ) : WPX P W n (.region os) Q σ := h
theorem x_draws {sts : List Stage} {Q : Exit → St → Prop} {σ : St} (h : DOps P W sts (Q .normal) σ) : WPX P W n (.draws sts) Q σ := h
theorem x_seq {a b : RCode} {Q : Exit → St → Prop} {σ : St} (h : WPX P W n a (thenS (WPX P W n b Q) Q) σ) : WPX P W n (.seq a b) Q σ := h
theorem x_condT {c : Operand} {a b : RCode} {Q : Exit → St → Prop} {σ : St} (hc : opd σ.e c = .bool true) (h : WPX P W n a Q σ) : WPX P W n (.cond c a b) Q σ := ⟨true, hc, h⟩
theorem x_condF {c : Operand} {a b : RCode} {Q : Exit → St → Prop} {σ : St} (hc : opd σ.e c = .bool false) (h : WPX P W n b Q σ) : WPX P W n (.cond c a b) Q σ := ⟨false, hc, h⟩
theorem x_block {id : Nat} {c : RCode} {Q : Exit → St → Prop} {σ : St} (h : WPX P W n c (blockS id Q) σ) : WPX P W n (.block id c) Q σ := h
theorem x_exit {id : Nat} {Q : Exit → St → Prop} {σ : St} (h : Q (.exit id) σ) : WPX P W n (.exit id) Q σ := h
theorem x_ret {Q : Exit → St → Prop} {σ : St} (h : Q .ret σ) : WPX P W n .ret Q σ := h
theorem t_normal {K : St → Prop} {Q : Exit → St → Prop} {σ : St} (h : K σ) : thenS K Q .normal σ := h
theorem t_exit {id : Nat} {K : St → Prop} {Q : Exit → St → Prop} {σ : St} (h : Q (.exit id) σ) : thenS K Q (.exit id) σ := h
theorem t_ret {K : St → Prop} {Q : Exit → St → Prop} {σ : St} (h : Q .ret σ) : thenS K Q .ret σ := h
theorem b_normal {id : Nat} {Q : Exit → St → Prop} {σ : St} (h : Q .normal σ) : blockS id Q .normal σ := h
theorem b_ret {id : Nat} {Q : Exit → St → Prop} {σ : St} (h : Q .ret σ) : blockS id Q .ret σ := h
theorem b_same {id : Nat} {Q : Exit → St → Prop} {σ : St} (h : Q .normal σ) : blockS id Q (.exit id) σ := by unfold blockS; simp only [if_true]; exact h
theorem b_other {id id' : Nat} {Q : Exit → St → Prop} {σ : St} (hne : Nat.beq id' id = false) (h : Q (.exit id') σ) : blockS id Q (.exit id') σ := by
  have : ¬ id' = id := fun e => by subst e; simp at hne
  unfold blockS; simp only [this, if_false]; exact h

theorem sops_nil {σ : St} : sops W [] σ = some σ := rfl
theorem d_stage {s : Stage} {ss : List Stage} {K : St → Prop} {σ σ1 : St} (h1 : sops W s.ops σ = some σ1) (h2 : ∀ o ∈ s.chk, Chk W σ1 o) (h3 : ∀ i ∈ mkIds σ1.e s.ops, σ.h.next ≤ i) (h4 : (mkIds σ1.e s.chk).Nodup) (he : s.eff = none) (hK : K σ1) :
    DOps P W (s :: ss) K σ := ⟨σ1, h1, h2, h3, h4, by simp only [he]; exact hK⟩
end

theorem aload1_own (W : World) (h : AHeap) (i o q : Nat) : aload1 W h ⟨i, o, some q⟩ = match h.own.get i with | some (.cells c) => c[o]? | _ => none := rfl
theorem one_ne_zero_nat : ¬ (1 : Nat) = 0 := by decide
theorem astore_own (h : AHeap) (i o q : Nat) (vs : List Value) : astore h ⟨i, o, some q⟩ vs = match h.own.get i with | some (.cells c) => bif Nat.ble (o + vs.length) c.length && vs.all oneV then some (h.put i (.cells (splice c o vs))) else none | _ => none := rfl
theorem ble_of_le {a b : Nat} (h : a ≤ b) : Nat.ble a b = true := Nat.ble_eq_true_of_le h
theorem beq_tf : (true == false) = false := rfl
theorem beq_ft : (false == true) = false := rfl
theorem int_beq (a b : Int) : (a == b) = decide (a = b) := by by_cases h : a = b <;> simp [h]
theorem int_bne (a b : Int) : (a != b) = !decide (a = b) := by by_cases h : a = b <;> simp [h]
theorem eget_lf (t : Nat) : eget .lf t = undef := rfl
theorem envOf1 (v : Value) : envOf 0 [v] .lf = eput .lf (some 0) v := rfl
theorem envOf2 (v u : Value) : envOf 0 [v, u] .lf = eput (eput .lf (some 0) v) (some 1) u := rfl

end Go.Mach
