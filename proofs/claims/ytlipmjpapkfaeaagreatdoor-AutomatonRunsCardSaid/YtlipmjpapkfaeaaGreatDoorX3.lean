/- The abstract machine, part 24: steps whose choice is a value; the equations of reading the slots, as one. No condition. -/
import Derived.Test.YtlipmjpapkfaeaaGreatDoorH1
import Derived.Test.YtlipmjpapkfaeaaGreatDoorX2
set_option linter.unusedSimpArgs false
set_option linter.unusedVariables false
namespace Go.Mach
open Go Go.RowKit

/-- One operation without a guard, the answer put; or it is passed by. -/
def GOps (P : Program) (W : World) (t : Bool) (d : Option Nat) (op : ROp) (os : List ROper) (K : St → Prop) (σ : St) : Prop :=
  if t = true then AOps P W (⟨d, op, none⟩ :: os) K σ else AOps P W os K ⟨eput σ.e d undef, σ.h⟩
/-- One of two codes. -/
def CPick (P : Program) (W : World) (n : Nat) (t : Bool) (a b : RCode) (Q : Exit → St → Prop) (σ : St) : Prop :=
  if t = true then WPX P W n a Q σ else WPX P W n b Q σ

section
variable {P : Program} {W : World} {n : Nat}
theorem g_T {d : Option Nat} {op : ROp} {os : List ROper} {K : St → Prop} {σ : St} (h : AOps P W (⟨d, op, none⟩ :: os) K σ) : GOps P W true d op os K σ := h
theorem g_F {d : Option Nat} {op : ROp} {os : List ROper} {K : St → Prop} {e : Env} {h : AHeap} (hK : AOps P W os K ⟨eput e d undef, h⟩) : GOps P W false d op os K ⟨e, h⟩ := hK
theorem c_T {a b : RCode} {Q : Exit → St → Prop} {σ : St} (h : WPX P W n a Q σ) : CPick P W n true a b Q σ := h
theorem c_F {a b : RCode} {Q : Exit → St → Prop} {σ : St} (h : WPX P W n b Q σ) : CPick P W n false a b Q σ := h

theorem c_isT {t : Bool} {a b : RCode} {Q : Exit → St → Prop} {σ : St} (ht : t = true) (h : WPX P W n a Q σ) : CPick P W n t a b Q σ := by subst ht; exact h
theorem c_isF {t : Bool} {a b : RCode} {Q : Exit → St → Prop} {σ : St} (ht : t = false) (h : WPX P W n b Q σ) : CPick P W n t a b Q σ := by subst ht; exact h
theorem g_isT {t : Bool} {d : Option Nat} {op : ROp} {os : List ROper} {K : St → Prop} {σ : St} (ht : t = true) (h : AOps P W (⟨d, op, none⟩ :: os) K σ) : GOps P W t d op os K σ := by subst ht; exact h
theorem g_isF {t : Bool} {d : Option Nat} {op : ROp} {os : List ROper} {K : St → Prop} {e : Env} {h : AHeap} (ht : t = false) (hK : AOps P W os K ⟨eput e d undef, h⟩) : GOps P W t d op os K ⟨e, h⟩ := by subst ht; exact hK

theorem ops_g {e : Env} {h : AHeap} {d : Option Nat} {op : ROp} {g : Nat × Bool} {os : List ROper} {K : St → Prop} {t : Bool}
    (hw : wantedA e (some g) = t) (hK : GOps P W t d op os K ⟨e, h⟩) : AOps P W (⟨d, op, some g⟩ :: os) K ⟨e, h⟩ := by
  show AOp P W _ _ _
  unfold AOp
  cases t with
  | true =>
    have hK' : AOp P W ⟨d, op, none⟩ (AOps P W os K) ⟨e, h⟩ := hK
    unfold AOp at hK'
    simp only [wantedA, if_true] at hK'
    simp only [hw, if_true]
    exact hK'
  | false =>
    simp only [hw, Bool.false_eq_true, if_false]
    exact hK

theorem ops_d {e : Env} {h h' : AHeap} {d : Option Nat} {op : ROp} {os : List ROper} {K : St → Prop} {v : Value}
    (hr : rop W (opd e) h op = some (v, h')) (hK : AOps P W os K ⟨eput e d v, h'⟩) : AOps P W (⟨d, op, none⟩ :: os) K ⟨e, h⟩ := by
  refine ops_do0 hr ?_ hK
  cases op <;> first | rfl | (simp only [rop] at hr; cases hr; done)

theorem CPick.mono {t : Bool} {a b : RCode} {Q Q' : Exit → St → Prop} {σ : St} (h : CPick P W n t a b Q σ) (hq : ∀ e σ, Q e σ → Q' e σ) : CPick P W n t a b Q' σ := by
  unfold CPick at *
  split at h
  · rename_i ht; rw [if_pos ht]; exact WPX.mono _ h hq
  · rename_i ht; rw [if_neg ht]; exact WPX.mono _ h hq
/-- What holds where both codes have met again. -/
theorem c_mid {t : Bool} {a b : RCode} {Q : Exit → St → Prop} {σ : St} (J : St → Prop) (h : CPick P W n t a b (fun e σ' => e = .normal ∧ J σ') σ) (hJ : ∀ σ', J σ' → Q .normal σ') : CPick P W n t a b Q σ :=
  h.mono fun e σ' ⟨h1, h2⟩ => by subst h1; exact hJ σ' h2

theorem x_c {c : Operand} {a b : RCode} {Q : Exit → St → Prop} {e : Env} {h : AHeap} {t : Bool} (hc : opd e c = .bool t) (hK : CPick P W n t a b Q ⟨e, h⟩) : WPX P W n (.cond c a b) Q ⟨e, h⟩ := ⟨t, hc, hK⟩

/-- A call, its arguments read first. -/
theorem ops_callK {e : Env} {h : AHeap} {d : Option Nat} {f : Operand} {args : List Operand} {os : List ROper} {K : St → Prop} {fid : FuncId} {args' : List Value} {R : Value → AHeap → Prop}
    (hf : opd e f = .func (.func fid) #[] #[]) (ha : args.map (opd e) = args') (hc : ACalls P W fid args' h R) (hK : ∀ v h', R v h' → AOps P W os K ⟨eput e d v, h'⟩) : AOps P W (⟨d, .call f args, none⟩ :: os) K ⟨e, h⟩ :=
  ops_call rfl hf (by rw [ha]; simpa using hc) hK
/-- The same for a function that carries what it has caught. -/
theorem ops_callC {e : Env} {h : AHeap} {d : Option Nat} {f : Operand} {args : List Operand} {os : List ROper} {K : St → Prop} {fid : FuncId} {cap : Array Value} {args' : List Value} {R : Value → AHeap → Prop}
    (hf : opd e f = .func (.func fid) #[] cap) (ha : args.map (opd e) ++ cap.toList = args') (hc : ACalls P W fid args' h R) (hK : ∀ v h', R v h' → AOps P W os K ⟨eput e d v, h'⟩) : AOps P W (⟨d, .call f args, none⟩ :: os) K ⟨e, h⟩ :=
  ops_call rfl hf (by rw [ha]; exact hc) hK
theorem aop_callK {e : Env} {h : AHeap} {d : Option Nat} {f : Operand} {args : List Operand} {g : Option (Nat × Bool)} {K : St → Prop} {fid : FuncId} {args' : List Value} {R : Value → AHeap → Prop}
    (hw : wantedA e g = true) (hf : opd e f = .func (.func fid) #[] #[]) (ha : args.map (opd e) = args') (hc : ACalls P W fid args' h R) (hK : ∀ v h', R v h' → K ⟨eput e d v, h'⟩) : AOp P W ⟨d, .call f args, g⟩ K ⟨e, h⟩ :=
  aop_call hw hf (by rw [ha]; simpa using hc) hK
end

/-- The equations of the steps, as one. -/
theorem BX : type_of% @eget_eput ∧ type_of% @eget_lf ∧ (∀ a b : Value, (some a = some b) = (a = b)) ∧ (∀ a b : Nat, (some a = some b) = (a = b)) ∧ (∀ a b : Value × AHeap, (some a = some b) = (a = b)) ∧ (∀ a b : AHeap, (some a = some b) = (a = b)) ∧ (∀ a b : List Value, (some a = some b) = (a = b)) ∧
    (∀ a b : Value, (if True then a else b) = a) ∧ (∀ a b : Value, (if False then a else b) = b) ∧ (∀ a b : Option ABlk, (if True then a else b) = a) ∧ (∀ a b : Option ABlk, (if False then a else b) = b) ∧
    (∀ (p : Value → Bool) (a : Value) (l : List Value), (a :: l).all p = (p a && l.all p)) ∧ (∀ p : Value → Bool, ([] : List Value).all p = true) ∧ type_of% @Nat.add_zero ∧ type_of% @Nat.zero_add ∧
    (∀ a b : Option Value, (bif false then a else b) = b) ∧ (∀ a b : Option Value, (bif true then a else b) = a) ∧ (∀ a b : Value, (bif false then a else b) = b) ∧ (∀ a b : Value, (bif true then a else b) = a) ∧
    (∀ a b : Option (Value × AHeap), (bif false then a else b) = b) ∧ (∀ a b : Option (Value × AHeap), (bif true then a else b) = a) ∧ (∀ a b : Option AHeap, (bif false then a else b) = b) ∧ (∀ a b : Option AHeap, (bif true then a else b) = a) ∧
    (∀ a b : Option (List Value), (bif false then a else b) = b) ∧ (∀ a b : Option (List Value), (bif true then a else b) = a) ∧
    (decide True = true) ∧ (decide False = false) ∧ (∀ (f : Value → Value × AHeap) (a : Value), (some a).map f = some (f a)) ∧ (∀ (f : List Value → Value × AHeap) (a : List Value), (some a).map f = some (f a)) ∧ (∀ (f : AHeap → Value × AHeap) (a : AHeap), (some a).map f = some (f a)) ∧ (∀ (f : Bool → Value) (a : Bool), (some a).map f = some (f a)) ∧
    type_of% @Bool.and_true ∧ type_of% @Bool.true_and ∧ type_of% @Bool.false_and ∧ type_of% @Bool.and_false ∧ type_of% @Bool.not_true ∧ type_of% @Bool.not_false ∧ (∀ a : Bool, (a == a) = true) ∧ (∀ a : Nat, (a == a) = true) ∧ type_of% beq_tf ∧ type_of% beq_ft := by
  refine ⟨@eget_eput, @eget_lf, ?_, ?_, ?_, ?_, ?_, ?_, ?_, ?_, ?_, ?_, ?_, Nat.add_zero, Nat.zero_add, ?_⟩
  all_goals simp [beq_tf, beq_ft]
theorem BL : (∀ l : List Value, l.toArray.toList = l) ∧ (∀ (a : Value) l, (a :: l)[0]? = some a) ∧ (∀ (a : Value) l (i : Nat), (a :: l)[i + 1]? = l[i]?) ∧ (∀ (a : Value) l, (a :: l).length = l.length + 1) ∧ (([] : List Value).length = 0) ∧ (∀ n : Nat, Nat.beq n n = true) ∧
    type_of% @astore_own ∧ type_of% @ble_of_le ∧ type_of% @Nat.le_refl ∧ (∀ l : List Value, l.take 0 = []) ∧ (∀ (a : Value) l (n : Nat), (a :: l).drop (n + 1) = l.drop n) ∧ (∀ l : List Value, l.drop 0 = l) ∧ (∀ (a : Value) l (n : Nat), (a :: l).take (n + 1) = a :: l.take n) ∧
    (∀ l : List Value, [] ++ l = l) ∧ (∀ (a : Value) l m, (a :: l) ++ m = a :: (l ++ m)) ∧ (∀ l : List Value, l ++ [] = l) ∧ type_of% int_beq ∧ type_of% int_bne ∧ type_of% @aload1_own ∧ type_of% @AHeap.new_get ∧ type_of% @AHeap.put_get ∧ type_of% @AHeap.new_next ∧ type_of% @AHeap.put_next ∧
    type_of% @Nat.left_eq_add ∧ type_of% @Nat.add_eq_left ∧ type_of% @Nat.succ_ne_self ∧ type_of% one_ne_zero_nat ∧ type_of% @Nat.add_assoc := by
  refine ⟨?_, ?_, ?_, ?_, ?_, ?_, @astore_own, @ble_of_le, @Nat.le_refl, ?_, ?_, ?_, ?_, ?_, ?_, ?_, int_beq, int_bne, @aload1_own, @AHeap.new_get, @AHeap.put_get, @AHeap.new_next, @AHeap.put_next, @Nat.left_eq_add, @Nat.add_eq_left, @Nat.succ_ne_self, one_ne_zero_nat, @Nat.add_assoc⟩
  all_goals first | (intros; rfl) | simp
end Go.Mach
