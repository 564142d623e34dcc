/- The abstract machine, part 24: steps whose choice is a value; the equations of reading the slots, as one. No condition.
Merged from 7 texts. -/
import Derived.Test.YtlipmjpapkfaeaaGreatDoorZD7
import Derived.Test.YtlipmjpapkfaeaaGreatDoorZD8
import Derived.KernelRfl
import Derived.Test.YtlipmjpapkfaeaaGreatDoorZD11
section
set_option linter.unusedSimpArgs false
set_option linter.unusedVariables false
namespace Go.Mach
open Go Go.RowKit
def GOps (P : Program) (W : World) (t : Bool) (d : Option Nat) (op : ROp) (os : List ROper) (K : St → Prop) (σ : St) : Prop :=
  if t = true then AOps P W (⟨d, op, none⟩ :: os) K σ else AOps P W os K ⟨eput σ.e d undef, σ.h⟩
def CPick (P : Program) (W : World) (n : Nat) (t : Bool) (a b : RCode) (Q : Exit → St → Prop) (σ : St) : Prop :=
  if t = true then WPX P W n a Q σ else WPX P W n b Q σ
section
variable {P : Program} {W : World} {n : Nat}
theorem g_T {d : Option Nat} {op : ROp} {os : List ROper} {K : St → Prop} {σ : St} (h : AOps P W (⟨d, op, none⟩ :: os) K σ) : GOps P W true d op os K σ := h
theorem g_F {d : Option Nat} {op : ROp} {os : List ROper} {K : St → Prop} {e : Env} {h : AHeap} (hK : AOps P W os K ⟨eput e d undef, h⟩) : GOps P W false d op os K ⟨e, h⟩ := hK
theorem c_T {a b : RCode} {Q : Exit → St → Prop} {σ : St} (h : WPX P W n a Q σ) : CPick P W n true a b Q σ := h
theorem c_F {a b : RCode} {Q : Exit → St → Prop} {σ : St} (h : WPX P W n b Q σ) : CPick P W n false a b Q σ := h
theorem c_isT {t : Bool} {a b : RCode} {Q : Exit → St → Prop} {σ : St} (ht : t = true) (h : WPX P W n a Q σ) : CPick P W n t a b Q σ := by subst ht; exact h
theorem c_isF {t : Bool} {a b : RCode} {Q : Exit → St → Prop} {σ : St} (ht : t = false) (h : WPX P W n b Q σ) : CPick P W n t a b Q σ := by subst ht; exact h
theorem ops_g {e : Env} {h : AHeap} {d : Option Nat} {op : ROp} {g : Nat × Bool} {os : List ROper} {K : St → Prop} {t : Bool}
    (hw : wantedA e (some g) = t) (hK : GOps P W t d op os K ⟨e, h⟩) : AOps P W (⟨d, op, some g⟩ :: os) K ⟨e, h⟩ := by
  show AOp P W _ _ _
  unfold AOp
  cases t with
  | true =>
    have hK' : AOp P W ⟨d, op, none⟩ (AOps P W os K) ⟨e, h⟩ := hK
    unfold AOp at hK'
    simp only [wantedA, if_true] at hK'
    simp only [hw, if_true]
    exact hK'
  | false =>
    simp only [hw, Bool.false_eq_true, if_false]
    exact hK
theorem ops_d {e : Env} {h h' : AHeap} {d : Option Nat} {op : ROp} {os : List ROper} {K : St → Prop} {v : Value}
    (hr : rop W (opd e) h op = some (v, h')) (hK : AOps P W os K ⟨eput e d v, h'⟩) : AOps P W (⟨d, op, none⟩ :: os) K ⟨e, h⟩ := by
  refine ops_do0 hr ?_ hK
  cases op <;> first | rfl | (simp only [rop] at hr; cases hr; done)
theorem CPick.mono {t : Bool} {a b : RCode} {Q Q' : Exit → St → Prop} {σ : St} (h : CPick P W n t a b Q σ) (hq : ∀ e σ, Q e σ → Q' e σ) : CPick P W n t a b Q' σ := by
  unfold CPick at *
  split at h
  · rename_i ht; rw [if_pos ht]; exact WPX.mono _ h hq
  · rename_i ht; rw [if_neg ht]; exact WPX.mono _ h hq
theorem c_mid {t : Bool} {a b : RCode} {Q : Exit → St → Prop} {σ : St} (J : St → Prop) (h : CPick P W n t a b (fun e σ' => e = .normal ∧ J σ') σ) (hJ : ∀ σ', J σ' → Q .normal σ') : CPick P W n t a b Q σ :=
  h.mono fun e σ' ⟨h1, h2⟩ => by subst h1; exact hJ σ' h2
theorem x_c {c : Operand} {a b : RCode} {Q : Exit → St → Prop} {e : Env} {h : AHeap} {t : Bool} (hc : opd e c = .bool t) (hK : CPick P W n t a b Q ⟨e, h⟩) : WPX P W n (.cond c a b) Q ⟨e, h⟩ := ⟨t, hc, hK⟩
theorem ops_callK {e : Env} {h : AHeap} {d : Option Nat} {f : Operand} {args : List Operand} {os : List ROper} {K : St → Prop} {fid : FuncId} {args' : List Value} {R : Value → AHeap → Prop}
    (hf : opd e f = .func (.func fid) #[] #[]) (ha : args.map (opd e) = args') (hc : ACalls P W fid args' h R) (hK : ∀ v h', R v h' → AOps P W os K ⟨eput e d v, h'⟩) : AOps P W (⟨d, .call f args, none⟩ :: os) K ⟨e, h⟩ :=
  ops_call rfl hf (by rw [ha]; simpa using hc) hK
theorem ops_callC {e : Env} {h : AHeap} {d : Option Nat} {f : Operand} {args : List Operand} {os : List ROper} {K : St → Prop} {fid : FuncId} {cap : Array Value} {args' : List Value} {R : Value → AHeap → Prop}
    (hf : opd e f = .func (.func fid) #[] cap) (ha : args.map (opd e) ++ cap.toList = args') (hc : ACalls P W fid args' h R) (hK : ∀ v h', R v h' → AOps P W os K ⟨eput e d v, h'⟩) : AOps P W (⟨d, .call f args, none⟩ :: os) K ⟨e, h⟩ :=
  ops_call rfl hf (by rw [ha]; exact hc) hK
theorem aop_callK {e : Env} {h : AHeap} {d : Option Nat} {f : Operand} {args : List Operand} {g : Option (Nat × Bool)} {K : St → Prop} {fid : FuncId} {args' : List Value} {R : Value → AHeap → Prop}
    (hw : wantedA e g = true) (hf : opd e f = .func (.func fid) #[] #[]) (ha : args.map (opd e) = args') (hc : ACalls P W fid args' h R) (hK : ∀ v h', R v h' → K ⟨eput e d v, h'⟩) : AOp P W ⟨d, .call f args, g⟩ K ⟨e, h⟩ :=
  aop_call hw hf (by rw [ha]; simpa using hc) hK
theorem aop_callC {e : Env} {h : AHeap} {d : Option Nat} {f : Operand} {args : List Operand} {g : Option (Nat × Bool)} {K : St → Prop} {fid : FuncId} {cap : Array Value} {args' : List Value} {R : Value → AHeap → Prop}
    (hw : wantedA e g = true) (hf : opd e f = .func (.func fid) #[] cap) (ha : args.map (opd e) ++ cap.toList = args') (hc : ACalls P W fid args' h R) (hK : ∀ v h', R v h' → K ⟨eput e d v, h'⟩) : AOp P W ⟨d, .call f args, g⟩ K ⟨e, h⟩ :=
  aop_call hw hf (by rw [ha]; exact hc) hK
theorem aop_do {e : Env} {h h' : AHeap} {d : Option Nat} {op : ROp} {K : St → Prop} {v : Value} (hr : rop W (opd e) h op = some (v, h')) (hK : K ⟨eput e d v, h'⟩) : AOp P W ⟨d, op, none⟩ K ⟨e, h⟩ := by
  unfold AOp
  simp only [wantedA, if_true]
  cases op <;> first | exact ⟨v, h', hr, hK⟩ | (simp only [rop] at hr; cases hr; done)
theorem d_chk {chk : List ROper} {eff : ROper} {ss : List Stage} {K : St → Prop} {σ : St} (hc : ssaOk chk = true) (h1 : ∀ o ∈ chk, Chk W σ o) (h2 : AOp P W eff (DOps P W ss K) σ) : DOps P W (⟨[], chk, some eff⟩ :: ss) K σ :=
  d_next rfl hc (ops_nil ⟨h1, h2⟩)
theorem d_end {K : St → Prop} {σ : St} (h : K σ) : DOps P W [⟨[], [], none⟩] K σ := d_pure rfl (ops_nil h)
end
theorem BX : type_of% @eget_eput ∧ type_of% @eget_lf ∧ (∀ a b : Value, (some a = some b) = (a = b)) ∧ (∀ a b : Nat, (some a = some b) = (a = b)) ∧ (∀ a b : Value × AHeap, (some a = some b) = (a = b)) ∧ (∀ a b : AHeap, (some a = some b) = (a = b)) ∧ (∀ a b : List Value, (some a = some b) = (a = b)) ∧
    (∀ a b : Value, (if True then a else b) = a) ∧ (∀ a b : Value, (if False then a else b) = b) ∧ (∀ a b : Option ABlk, (if True then a else b) = a) ∧ (∀ a b : Option ABlk, (if False then a else b) = b) ∧
    (∀ (p : Value → Bool) (a : Value) (l : List Value), (a :: l).all p = (p a && l.all p)) ∧ (∀ p : Value → Bool, ([] : List Value).all p = true) ∧ type_of% @Nat.add_zero ∧ type_of% @Nat.zero_add ∧
    (∀ a b : Option Value, (bif false then a else b) = b) ∧ (∀ a b : Option Value, (bif true then a else b) = a) ∧ (∀ a b : Value, (bif false then a else b) = b) ∧ (∀ a b : Value, (bif true then a else b) = a) ∧
    (∀ a b : Option (Value × AHeap), (bif false then a else b) = b) ∧ (∀ a b : Option (Value × AHeap), (bif true then a else b) = a) ∧ (∀ a b : Option AHeap, (bif false then a else b) = b) ∧ (∀ a b : Option AHeap, (bif true then a else b) = a) ∧
    (∀ a b : Option (List Value), (bif false then a else b) = b) ∧ (∀ a b : Option (List Value), (bif true then a else b) = a) ∧
    (decide True = true) ∧ (decide False = false) ∧ (∀ (f : Value → Value × AHeap) (a : Value), (some a).map f = some (f a)) ∧ (∀ (f : List Value → Value × AHeap) (a : List Value), (some a).map f = some (f a)) ∧ (∀ (f : AHeap → Value × AHeap) (a : AHeap), (some a).map f = some (f a)) ∧ (∀ (f : Bool → Value) (a : Bool), (some a).map f = some (f a)) ∧
    type_of% @Bool.and_true ∧ type_of% @Bool.true_and ∧ type_of% @Bool.false_and ∧ type_of% @Bool.and_false ∧ type_of% @Bool.not_true ∧ type_of% @Bool.not_false ∧ (∀ a : Bool, (a == a) = true) ∧ (∀ a : Nat, (a == a) = true) ∧ type_of% beq_tf ∧ type_of% beq_ft := by
  refine ⟨@eget_eput, @eget_lf, ?_, ?_, ?_, ?_, ?_, ?_, ?_, ?_, ?_, ?_, ?_, Nat.add_zero, Nat.zero_add, ?_⟩
  all_goals simp [beq_tf, beq_ft]
theorem BL : (∀ l : List Value, l.toArray.toList = l) ∧ (∀ (a : Value) l, (a :: l)[0]? = some a) ∧ (∀ (a : Value) l (i : Nat), (a :: l)[i + 1]? = l[i]?) ∧ (∀ (a : Value) l, (a :: l).length = l.length + 1) ∧ (([] : List Value).length = 0) ∧ (∀ n : Nat, Nat.beq n n = true) ∧
    type_of% @astore_own ∧ type_of% @ble_of_le ∧ type_of% @Nat.le_refl ∧ (∀ l : List Value, l.take 0 = []) ∧ (∀ (a : Value) l (n : Nat), (a :: l).drop (n + 1) = l.drop n) ∧ (∀ l : List Value, l.drop 0 = l) ∧ (∀ (a : Value) l (n : Nat), (a :: l).take (n + 1) = a :: l.take n) ∧
    (∀ l : List Value, [] ++ l = l) ∧ (∀ (a : Value) l m, (a :: l) ++ m = a :: (l ++ m)) ∧ (∀ l : List Value, l ++ [] = l) ∧ type_of% int_beq ∧ type_of% int_bne ∧ type_of% @aload1_own ∧ type_of% @AHeap.new_get ∧ type_of% @AHeap.put_get ∧ type_of% @AHeap.new_next ∧ type_of% @AHeap.put_next ∧
    type_of% @Nat.left_eq_add ∧ type_of% @Nat.add_eq_left ∧ type_of% @Nat.succ_ne_self ∧ type_of% one_ne_zero_nat ∧ type_of% @Nat.add_assoc := by
  refine ⟨?_, ?_, ?_, ?_, ?_, ?_, @astore_own, @ble_of_le, @Nat.le_refl, ?_, ?_, ?_, ?_, ?_, ?_, ?_, int_beq, int_bne, @aload1_own, @AHeap.new_get, @AHeap.put_get, @AHeap.new_next, @AHeap.put_next, @Nat.left_eq_add, @Nat.add_eq_left, @Nat.succ_ne_self, one_ne_zero_nat, @Nat.add_assoc⟩
  all_goals first | (intros; rfl) | simp
end Go.Mach
end
section
set_option linter.unusedSimpArgs false
set_option linter.unusedVariables false
namespace Go.Mach
open Go Go.RowKit
theorem splice_cons0 (a b : Value) (l vs : List Value) : splice (a :: l) 0 (b :: vs) = b :: splice l 0 vs := by simp [splice]
theorem splice_nil0 (l : List Value) : splice l 0 [] = l := by simp [splice]
theorem splice_succ (a : Value) (l vs : List Value) (n : Nat) : splice (a :: l) (n + 1) vs = a :: splice l n vs := by
  simp [splice, Nat.add_right_comm n 1]
theorem BS : type_of% splice_cons0 ∧ type_of% splice_nil0 ∧ type_of% splice_succ := ⟨splice_cons0, splice_nil0, splice_succ⟩
theorem splice_len {l vs : List Value} {o : Nat} (h : o + vs.length ≤ l.length) : (splice l o vs).length = l.length := by
  simp [splice]; omega
theorem splice_left {a b vs : List Value} {o : Nat} (h : o + vs.length ≤ a.length) : splice (a ++ b) o vs = splice a o vs ++ b := by
  unfold splice
  rw [List.take_append_of_le_length (by omega), List.drop_append_of_le_length h]
  simp [List.append_assoc]
theorem splice_right {a b vs : List Value} {o : Nat} : splice (a ++ b) (a.length + o) vs = a ++ splice b o vs := by
  unfold splice
  rw [List.take_length_add_append, Nat.add_assoc, List.drop_length_add_append]
  simp [List.append_assoc]
theorem flat_get {esz : Nat} : ∀ {es : List (List Value)} {i j : Nat} {e : List Value}, (∀ e ∈ es, e.length = esz) → es[i]? = some e → j < esz → es.flatten[i * esz + j]? = e[j]?
  | [], i, j, e, _, h, _ => by simp at h
  | x :: es, 0, j, e, hl, h, hj => by
    simp at h; subst h
    rw [List.flatten_cons, Nat.zero_mul, Nat.zero_add, List.getElem?_append_left (by rw [hl x (by simp)]; exact hj)]
  | x :: es, i + 1, j, e, hl, h, hj => by
    have hx := hl x (by simp)
    rw [List.flatten_cons, List.getElem?_append_right (by rw [hx, Nat.succ_mul]; omega), hx, show (i + 1) * esz + j - esz = i * esz + j by rw [Nat.succ_mul]; omega]
    exact flat_get (fun e he => hl e (by simp [he])) (by simpa using h) hj
theorem flat_splice {esz : Nat} {vs : List Value} : ∀ {es : List (List Value)} {i j : Nat} {e : List Value}, (∀ e ∈ es, e.length = esz) → es[i]? = some e → j + vs.length ≤ esz → splice es.flatten (i * esz + j) vs = (es.set i (splice e j vs)).flatten
  | [], i, j, e, _, h, _ => by simp at h
  | x :: es, 0, j, e, hl, h, hj => by
    simp at h; subst h
    have hx := hl x (by simp)
    rw [List.flatten_cons, Nat.zero_mul, Nat.zero_add, splice_left (by omega), List.set_cons_zero, List.flatten_cons]
  | x :: es, i + 1, j, e, hl, h, hj => by
    have hx := hl x (by simp)
    rw [List.flatten_cons, show (i + 1) * esz + j = x.length + (i * esz + j) by rw [Nat.succ_mul, hx]; omega, splice_right, List.set_cons_succ, List.flatten_cons,
      flat_splice (fun e he => hl e (by simp [he])) (by simpa using h) hj]
theorem flat_len {esz : Nat} : ∀ {es : List (List Value)}, (∀ e ∈ es, e.length = esz) → es.flatten.length = es.length * esz
  | [], _ => by simp
  | x :: es, hl => by
    rw [List.flatten_cons, List.length_append, hl x (by simp), flat_len fun e he => hl e (by simp [he]), List.length_cons, Nat.succ_mul]; omega
structure Ow (h : AHeap) (b esz : Nat) (es : List (List Value)) : Prop where
  get : h.own.get b = some (.cells es.flatten)
  len : ∀ e ∈ es, e.length = esz
  lt : b < h.next
theorem Ow.at_ {h : AHeap} {b esz : Nat} {es : List (List Value)} (o : Ow h b esz es) {W : World} {i j : Nat} {e : List Value} {u : Value} (hi : es[i]? = some e) (hu : e[j]? = some u) : aload1 W h ⟨b, i * esz + j, some 0⟩ = some u := by
  have hj : j < esz := by rw [← o.len e (List.mem_of_getElem? hi)]; exact (List.getElem?_eq_some_iff.1 hu).1
  rw [aload1_own, o.get]
  simp only
  rw [flat_get o.len hi hj, hu]
theorem Ow.sl {W : World} {h : AHeap} {b esz : Nat} {es : List (List Value)} (o : Ow h b esz es) : Sl W h esz (.slice (some ⟨b, 0, some 0⟩) es.length esz) es :=
  ⟨some ⟨b, 0, some 0⟩, esz, rfl, fun b' hb' => by
    cases hb'
    refine ⟨.inr (.inr ⟨rfl, rfl⟩), fun i x hx => ⟨o.len x (List.mem_of_getElem? hx), fun j u hu => ⟨?_, fun _ => o.lt⟩⟩⟩
    have := o.at_ (W := W) hx hu
    simpa [aadd] using this, fun h => by cases h⟩
theorem Ow.keeps {h h' : AHeap} {b esz : Nat} {es : List (List Value)} (o : Ow h b esz es) (k : Keeps h h') : Ow h' b esz es :=
  ⟨by rw [k.same _ o.lt]; exact o.get, o.len, Nat.lt_of_lt_of_le o.lt k.le⟩
theorem Ow.same {h h' : AHeap} {b esz : Nat} {es : List (List Value)} (o : Ow h b esz es) (hg : h'.own.get b = h.own.get b) (hn : h.next ≤ h'.next) : Ow h' b esz es :=
  ⟨by rw [hg]; exact o.get, o.len, Nat.lt_of_lt_of_le o.lt hn⟩
theorem Ow.put {h : AHeap} {b esz : Nat} {es : List (List Value)} (o : Ow h b esz es) {i j : Nat} {e vs : List Value} (hi : es[i]? = some e) (hj : j + vs.length ≤ esz) :
    splice es.flatten (i * esz + j) vs = (es.set i (splice e j vs)).flatten ∧ Ow (h.put b (.cells (es.set i (splice e j vs)).flatten)) b esz (es.set i (splice e j vs)) := by
  refine ⟨flat_splice o.len hi hj, by rw [AHeap.put_get, if_pos rfl], fun x hx => ?_, o.lt⟩
  rcases List.mem_or_eq_of_mem_set hx with hx | rfl
  · exact o.len x hx
  · have := o.len e (List.mem_of_getElem? hi)
    rw [splice_len (by omega)]; exact this
theorem idx_own {b n esz i : Nat} (hi : i < n) : idxV esz (.slice (some ⟨b, 0, some 0⟩) n esz) (.int .i64 i) = some (.pointer (some ⟨b, i * esz, some 0⟩)) := by
  unfold idxV
  simp [hi, aadd]
theorem aloadN_own {W : World} {h : AHeap} {b esz : Nat} {es : List (List Value)} (o : Ow h b esz es) : aloadN W h ⟨b, 0, some 0⟩ (es.length * esz) = some es.flatten := by
  rw [← flat_len o.len]
  refine aloadN_of _ _ fun j u hu => ⟨?_, fun _ => o.lt⟩
  simp [aadd, aload1, o.get, hu]
def OwnV (N : Nat) (h : AHeap) (a : Option Addr) (c esz : Nat) (es : List (List Value)) : Prop :=
  (a = none ∧ c = 0 ∧ es = []) ∨ ∃ b, a = some ⟨b, 0, some 0⟩ ∧ c = esz ∧ N ≤ b ∧ Ow h b esz es
def NotIn (a : Option Addr) (i : Nat) : Prop := ∀ x, a = some x → x.block ≠ i
theorem OwnV.nil (N : Nat) (h : AHeap) (esz : Nat) : OwnV N h none 0 esz [] := .inl ⟨rfl, rfl, rfl⟩
theorem OwnV.keeps {N : Nat} {h h' : AHeap} {a : Option Addr} {c esz : Nat} {es : List (List Value)} (o : OwnV N h a c esz es) (k : Keeps h h') : OwnV N h' a c esz es := by
  rcases o with o | ⟨b, h1, h2, h3, h4⟩
  · exact .inl o
  · exact .inr ⟨b, h1, h2, h3, h4.keeps k⟩
theorem OwnV.base {N M : Nat} {h : AHeap} {a : Option Addr} {c esz : Nat} {es : List (List Value)} (o : OwnV N h a c esz es) (k : M ≤ N) : OwnV M h a c esz es := by
  rcases o with o | ⟨b, h1, h2, h3, h4⟩
  · exact .inl o
  · exact .inr ⟨b, h1, h2, Nat.le_trans k h3, h4⟩
theorem OwnV.same {N : Nat} {h h' : AHeap} {a : Option Addr} {c esz : Nat} {es : List (List Value)} (o : OwnV N h a c esz es) (hg : ∀ i, N ≤ i → i < h.next → h'.own.get i = h.own.get i) (hn : h.next ≤ h'.next) : OwnV N h' a c esz es := by
  rcases o with o | ⟨b, h1, h2, h3, h4⟩
  · exact .inl o
  · exact .inr ⟨b, h1, h2, h3, h4.same (hg _ h3 h4.lt) hn⟩
theorem OwnV.notNew {N : Nat} {h : AHeap} {a : Option Addr} {c esz : Nat} {es : List (List Value)} (o : OwnV N h a c esz es) {i : Nat} (hi : h.next ≤ i) : NotIn a i := fun x hx => by
  rcases o with ⟨o, _⟩ | ⟨b, h1, h2, h3, h4⟩
  · rw [o] at hx; cases hx
  · rw [h1] at hx; cases hx; have := h4.lt; show b ≠ i; omega
theorem OwnV.notOld {N : Nat} {h : AHeap} {a : Option Addr} {c esz : Nat} {es : List (List Value)} (o : OwnV N h a c esz es) {i : Nat} (hi : i < N) : NotIn a i := fun x hx => by
  rcases o with ⟨o, _⟩ | ⟨b, h1, h2, h3, h4⟩
  · rw [o] at hx; cases hx
  · rw [h1] at hx; cases hx; show b ≠ i; omega
theorem OwnV.sl {W : World} {N : Nat} {h : AHeap} {a : Option Addr} {c esz : Nat} {es : List (List Value)} (o : OwnV N h a c esz es) : Sl W h esz (.slice a es.length c) es := by
  rcases o with ⟨rfl, rfl, rfl⟩ | ⟨b, rfl, rfl, _, h4⟩
  · exact ⟨none, 0, rfl, (fun b hb => by cases hb), fun _ => ⟨rfl, rfl⟩⟩
  · exact h4.sl
theorem OwnV.app {W : World} {N : Nat} {h0 h : AHeap} {a : Option Addr} {c esz b' : Nat} {es : List (List Value)} {e : List Value} (o : OwnV N h a c esz es) (k : Keeps h0 h) (k1 : h0.next ≤ N) (k2 : N ≤ h.next) (hb : h.own.get b' = some (.cells e)) (hb' : b' < h.next) (he : e.length = esz)
    (h1 : e.all oneV = true) (hs : es.length + 1 ≤ 1073741824) :
    ∃ a' c' h', appA W h esz (.slice a es.length c) (.slice (some ⟨b', 0, some 0⟩) 1 esz) = some (.slice a' (es ++ [e]).length c', h') ∧ OwnV N h' a' c' esz (es ++ [e]) ∧ Keeps h0 h' ∧ h'.next = h.next + 1 ∧
      (∀ i, i < h.next → NotIn a i → h'.own.get i = h.own.get i) ∧ (∀ i, i < h.next → NotIn a' i) := by
  have hO : Ow h b' esz [e] := ⟨by simpa using hb, fun x hx => by simp at hx; subst hx; exact he, hb'⟩
  have hld := aloadN_own (W := W) hO
  simp only [List.length_singleton, List.flatten_cons, List.flatten_nil, List.append_nil] at hld
  have hnews : newsOf W h esz (.slice (some ⟨b', 0, some 0⟩) 1 esz) = some (1, e) := by
    unfold newsOf
    simp only [Option.isNone_some, Bool.false_or, Nat.beq_refl, cond_true, hld, Option.map_some]
  rcases o with ⟨rfl, rfl, rfl⟩ | ⟨b, rfl, rfl, h3, h4⟩
  · refine ⟨some ⟨h.next, 0, some 0⟩, esz, h.new (.cells e), ?_, .inr ⟨h.next, rfl, rfl, k2, ?_, ?_, ?_⟩, k.new _, rfl, fun i hi _ => by rw [AHeap.new_get, if_neg (by omega)], fun i hi x hx => by cases hx; show h.next ≠ i; omega⟩
    · unfold appA
      simp only [hnews, List.length_nil, Nat.zero_add, Nat.reduceLeDiff, h1, Bool.and_true, oS, oA, List.nil_append, List.length_cons]
      rfl
    · rw [AHeap.new_get, if_pos rfl]; simp
    · intro x hx; simp at hx; subst hx; exact he
    · rw [AHeap.new_next]; omega
  · have hold := aloadN_own (W := W) h4
    refine ⟨some ⟨h.next, 0, some 0⟩, c, (h.put b .dead).new (.cells (es ++ [e]).flatten), ?_, .inr ⟨h.next, rfl, rfl, k2, ?_, ?_, ?_⟩, (k.put (Nat.le_trans k1 h3) _).new _, rfl, fun i hi hn => ?_, fun i hi x hx => by cases hx; show h.next ≠ i; omega⟩
    · unfold appA
      simp only [hnews, Nat.beq_refl, cond_true, hold, h4.get, Nat.ble_eq_true_of_le hs, h1, Bool.and_true, oS, oA, List.length_append, List.length_singleton, List.flatten_append, List.flatten_cons, List.flatten_nil, List.append_nil, Nat.zero_add, Nat.reduceAdd]
    · rw [AHeap.new_get, AHeap.put_next, if_pos rfl]
    · intro x hx
      rcases List.mem_append.1 hx with hx | hx
      · exact h4.len x hx
      · simp at hx; subst hx; exact he
    · rw [AHeap.new_next, AHeap.put_next]; omega
    · rw [AHeap.new_get, AHeap.put_next, if_neg (by omega), AHeap.put_get, if_neg]
      have := hn _ rfl
      intro e; exact this e.symm
end Go.Mach
end
section
set_option linter.unusedSimpArgs false
set_option linter.unusedVariables false
namespace Go.Mach
open Go Go.RowKit
theorem zv {α : Type} {a b : α} (h : a = b := by simp only [rop, opd, celsL, oneV, aadd, binV, isSh, intBin, scEq, keq, unV, fillL, oP, oA, oS, wantedA, BX, BL, BS, seval, *]) : a = b := h
theorem zr {α : Type} {a b : α} (h : a = b := by simp only [rop, opd, celsL, oneV, aadd, binV, isSh, intBin, scEq, keq, unV, fillL, oP, oA, oS, wantedA, BX, BL, BS, seval, *]; with_reducible exact rfl) : a = b := h
theorem za {a b : List Value} (h : a = b := by simp only [List.map_cons, List.map_nil, rop, opd, celsL, oneV, aadd, binV, isSh, intBin, scEq, keq, unV, fillL, oP, oA, oS, wantedA, BX, BL, BS, seval, *]) : a = b := h
theorem x_pure {P : Program} {W : World} {n : Nat} {ops : List ROper} {Q : Exit → St → Prop} {σ : St} (hs : ssaOk ops = true) (h : AOps P W ops (Q .normal) σ) : WPX P W n (.draws [⟨ops, ops, none⟩]) Q σ := x_draws (d_pure hs h)
theorem zs {p q : Prop} (h : q) (hpq : q → p := by first
    | (with_reducible first | apply x_seq | apply x_block | apply x_region | apply x_exit | apply x_ret | apply x_skip | apply t_normal | apply t_exit | apply t_ret | apply b_normal | apply b_ret | apply b_same | apply ops_nil | apply g_T | apply g_F | apply c_T | apply c_F)
    | (with_reducible exact b_other (by decide))
    | ((with_reducible apply x_pure); (next => kernel_rfl))
    | ((with_reducible first | apply ops_d | apply ops_g | apply x_c); (next => simp only [rop, opd, celsL, oneV, aadd, binV, isSh, intBin, scEq, keq, unV, fillL, oP, oA, oS, wantedA, BX, BL, BS, seval, *]; with_reducible exact rfl))) : p := hpq h
end Go.Mach
end
section
set_option linter.unusedSimpArgs false
set_option linter.unusedVariables false
namespace Go.Mach
open Go Go.RowKit
def Apart (a a' : Option Addr) : Prop := ∀ x y, a = some x → a' = some y → x.block ≠ y.block
theorem Apart.symm {a a' : Option Addr} (h : Apart a a') : Apart a' a := fun x y hx hy e => h y x hy hx e.symm
theorem Apart.none_l (a : Option Addr) : Apart none a := fun x y hx => by cases hx
theorem Apart.none_r (a : Option Addr) : Apart a none := fun x y _ hy => by cases hy
theorem OwnV.lt {N : Nat} {h : AHeap} {a : Option Addr} {c esz : Nat} {es : List (List Value)} (o : OwnV N h a c esz es) {x : Addr} (hx : a = some x) : N ≤ x.block ∧ x.block < h.next := by
  rcases o with ⟨o, _⟩ | ⟨b, h1, h2, h3, h4⟩
  · rw [o] at hx; cases hx
  · rw [h1] at hx; cases hx; exact ⟨h3, h4.lt⟩
theorem OwnV.other {N : Nat} {h h' : AHeap} {a a' : Option Addr} {c esz : Nat} {es : List (List Value)} (o : OwnV N h a c esz es) (hsame : ∀ i, i < h.next → NotIn a' i → h'.own.get i = h.own.get i) (hn : h.next ≤ h'.next) (hap : Apart a a') : OwnV N h' a c esz es := by
  rcases o with o | ⟨b, h1, h2, h3, h4⟩
  · exact .inl o
  · exact .inr ⟨b, h1, h2, h3, h4.same (hsame b h4.lt fun y hy => fun e => hap _ _ h1 hy e.symm) hn⟩
theorem OwnV.apartNew {N : Nat} {h : AHeap} {a a' : Option Addr} {c esz : Nat} {es : List (List Value)} (o : OwnV N h a c esz es) (hnew : ∀ i, i < h.next → NotIn a' i) : Apart a a' := fun x y hx hy => by
  have := (o.lt hx).2
  exact fun e => hnew x.block this y hy e.symm
structure Sub (g h : AHeap) : Prop where
  le : g.next ≤ h.next
  same : ∀ i b, g.own.get i = some b → i < h.next ∧ h.own.get i = some b
theorem Sub.keeps {g h h' : AHeap} (s : Sub g h) (k : Keeps h h') : Sub g h' :=
  ⟨Nat.le_trans s.le k.le, fun i b hb => ⟨Nat.lt_of_lt_of_le (s.same i b hb).1 k.le, by rw [k.same i (s.same i b hb).1]; exact (s.same i b hb).2⟩⟩
theorem Sub.put {g h : AHeap} (s : Sub g h) {j : Nat} (hj : g.own.get j = none) (b : ABlk) : Sub g (h.put j b) :=
  ⟨s.le, fun i x hx => ⟨(s.same i x hx).1, by
    rw [AHeap.put_get, if_neg (fun e => by rw [e, hj] at hx; cases hx)]; exact (s.same i x hx).2⟩⟩
theorem Sub.step {g h h' : AHeap} {a : Option Addr} (s : Sub g h) (hsame : ∀ i, i < h.next → NotIn a i → h'.own.get i = h.own.get i) (hn : h.next ≤ h'.next) (ha : ∀ x, a = some x → g.own.get x.block = none) : Sub g h' :=
  ⟨Nat.le_trans s.le hn, fun i x hx => ⟨Nat.lt_of_lt_of_le (s.same i x hx).1 hn, by
    rw [hsame i (s.same i x hx).1 fun y hy e => by rw [← e, ha y hy] at hx; cases hx]; exact (s.same i x hx).2⟩⟩
theorem Rd.sub {W : World} {g h : AHeap} {a : Addr} {v : Value} (hr : Rd W g a v) (s : Sub g h) : Rd W h a v := by
  obtain ⟨h1, h2⟩ := hr
  refine ⟨?_, fun hs => Nat.lt_of_lt_of_le (h2 hs) s.le⟩
  unfold aload1 at *
  cases hs : a.spot with
  | none => simp only [hs] at h1 ⊢; exact h1
  | some q =>
    simp only [hs] at h1 ⊢
    cases hg : g.own.get a.block with
    | none => rw [hg] at h1; cases h1
    | some b => rw [(s.same _ _ hg).2]; rw [hg] at h1; exact h1
theorem Sl.sub {W : World} {g h : AHeap} {esz : Nat} {v : Value} {l : List (List Value)} (hs : Sl W g esz v l) (s : Sub g h) : Sl W h esz v l := by
  obtain ⟨a, c, h1, h2, h3⟩ := hs.is
  exact ⟨a, c, h1, fun b hb => ⟨(h2 b hb).1, fun i x hx => ⟨((h2 b hb).2 i x hx).1, fun j u hu => (((h2 b hb).2 i x hx).2 j u hu).sub s⟩⟩, h3⟩
theorem Sub.freeze {g h : AHeap} (s : Sub g h) {b esz : Nat} {es : List (List Value)} (o : Ow h b esz es) :
    ∃ g', Sub g' h ∧ (∀ i, g'.own.get i = none ↔ (g.own.get i = none ∧ i ≠ b)) ∧ Ow g' b esz es ∧ (g.own.get b = none → Sub g g') := by
  refine ⟨⟨g.own.set b (.cells es.flatten), h.next⟩, ⟨Nat.le_refl _, fun i x hx => ?_⟩, fun i => ?_, ⟨?_, o.len, o.lt⟩, fun hb => ⟨s.le, fun i x hx => ?_⟩⟩
  · simp only [Tr.get_set] at hx
    by_cases hi : i = b
    · subst hi; rw [if_pos rfl] at hx; cases hx; exact ⟨o.lt, o.get⟩
    · rw [if_neg hi] at hx; exact s.same i x hx
  · simp only [Tr.get_set]
    by_cases hi : i = b
    · simp [hi]
    · simp [hi]
  · simp only [Tr.get_set, if_true]
  · refine ⟨(s.same i x hx).1, ?_⟩
    simp only [Tr.get_set]
    rw [if_neg (fun e => by rw [e, hb] at hx; cases hx)]; exact hx
theorem Ow.lastArc {h : AHeap} {b : Nat} {l0 : List Arc3} {f' t' s' : Int} (o : Ow h b 3 ((l0 ++ [(f', t', s')]).map arcV)) (t : Int) :
    ∃ C, h.own.get b = some (.cells C) ∧ C[l0.length * 3 + 1]? = some (.int .i32 t') ∧ C[l0.length * 3 + 2]? = some (.int .i64 s') ∧ Nat.ble (l0.length * 3 + 2) C.length = true ∧
      ∃ C2, splice C (l0.length * 3 + 1) [.int .i32 t] = C2 ∧ Ow (h.put b (.cells C2)) b 3 ((l0 ++ [(f', t, s')]).map arcV) := by
  have hi : ((l0 ++ [(f', t', s')]).map arcV)[l0.length]? = some (arcV (f', t', s')) := by simp
  obtain ⟨hsp, o2⟩ := o.put (vs := [.int .i32 t]) hi (j := 1) (by simp)
  refine ⟨_, o.get, ?_, ?_, ?_, _, hsp, ?_⟩
  · rw [flat_get o.len hi (by omega)]; rfl
  · rw [flat_get o.len hi (by omega)]; rfl
  · rw [flat_len o.len]; refine Nat.ble_eq_true_of_le ?_; simp; omega
  · have e : ((l0 ++ [(f', t', s')]).map arcV).set l0.length (splice (arcV (f', t', s')) 1 [.int .i32 t]) = (l0 ++ [(f', t, s')]).map arcV := by
      rw [List.map_append, List.set_append_right _ _ (by simp)]
      simp [arcV, splice]
    rw [e] at o2 ⊢; exact o2
def addArc (l : List Arc3) (x : Arc3) : List Arc3 := match l.getLast? with
  | some y => if y.2.1 + 1 = x.1 ∧ y.2.2 = x.2.2 then l.dropLast ++ [(y.1, x.2.1, y.2.2)] else l ++ [x]
  | none => l ++ [x]
theorem addArc_nil (x : Arc3) : addArc [] x = [x] := rfl
theorem addArc_join {l : List Arc3} {f' t' s' : Int} {x : Arc3} (h1 : t' + 1 = x.1) (h2 : s' = x.2.2) : addArc (l ++ [(f', t', s')]) x = l ++ [(f', x.2.1, s')] := by
  simp [addArc, h1, h2]
theorem addArc_new {l : List Arc3} {f' t' s' : Int} {x : Arc3} (h : ¬ (t' + 1 = x.1 ∧ s' = x.2.2)) : addArc (l ++ [(f', t', s')]) x = (l ++ [(f', t', s')]) ++ [x] := by
  simp only [addArc, List.getLast?_append, List.getLast?_singleton, Option.some_or]
  rw [if_neg h]
theorem last_or (l : List Arc3) : l = [] ∨ ∃ l0 f t s, l = l0 ++ [(f, t, s)] := by
  rcases List.eq_nil_or_concat l with h | ⟨l0, ⟨f, t, s⟩, h⟩
  · exact .inl h
  · exact .inr ⟨l0, f, t, s, by simpa using h⟩
def numV (k : Int) : List Value := [.int .i64 k]
end Go.Mach
end
section
set_option linter.unusedSimpArgs false
set_option linter.unusedVariables false
set_option linter.unusedSectionVars false
namespace Go.Mach
open Go Go.RowKit
section
variable {α : Type} [DecidableEq α]
def mapFrom (enc : α → Value) : Nat → List α → List (Value × Value)
  | _, [] => []
  | i, k :: ks => (enc k, .int .i64 (i : Nat)) :: mapFrom enc (i + 1) ks
theorem mapFrom_append (enc : α → Value) : ∀ (ks : List α) (i : Nat) (k : α), mapFrom enc i (ks ++ [k]) = mapFrom enc i ks ++ [(enc k, .int .i64 ((i + ks.length : Nat) : Int))]
  | [], i, k => rfl
  | x :: ks, i, k => by
    simp only [List.cons_append, mapFrom, mapFrom_append enc ks (i + 1) k, List.length_cons]
    rw [show i + 1 + ks.length = i + (ks.length + 1) by omega]
theorem mapFrom_len (enc : α → Value) : ∀ (ks : List α) (i : Nat), (mapFrom enc i ks).length = ks.length
  | [], i => rfl
  | x :: ks, i => by simp [mapFrom, mapFrom_len enc ks (i + 1)]
structure Keyed (e : EqTy) (enc : α → Value) : Prop where
  good : ∀ k, goodKey e (enc k) = true
  eq : ∀ a b, keq e (enc a) (enc b) = some (decide (a = b))
theorem findK_from {e : EqTy} {enc : α → Value} (K : Keyed e enc) (k : α) : ∀ (ks : List α) (i j : Nat), findK e (enc k) (mapFrom enc i ks) j = some (if k ∈ ks then some (j + ks.idxOf k, .int .i64 ((i + ks.idxOf k : Nat) : Int)) else none)
  | [], i, j => by simp [mapFrom, findK]
  | x :: ks, i, j => by
    simp only [mapFrom, findK, K.eq]
    by_cases h : k = x
    · subst h; simp
    · simp only [h, decide_false]
      rw [findK_from K k ks (i + 1) (j + 1)]
      have hx : x ≠ k := fun e => h e.symm
      by_cases hk : k ∈ ks
      · have hi : (x :: ks).idxOf k = (ks.idxOf k).succ := by rw [List.idxOf_cons, beq_false_of_ne hx]; rfl
        simp only [hk, if_true, List.mem_cons, or_true, hi]
        rw [show j + 1 + ks.idxOf k = j + (ks.idxOf k).succ by omega, show i + 1 + ks.idxOf k = i + (ks.idxOf k).succ by omega]
      · simp [hk, h]
theorem lookup_in {e : EqTy} {enc : α → Value} (K : Keyed e enc) {h : AHeap} {b : Nat} {ks : List α} (hb : h.own.get b = some (.map (mapFrom enc 0 ks))) {k : α} (hk : k ∈ ks) (z : Value) (ok : Bool) :
    lookupV e z h (.map (some b)) (enc k) ok = some (bif ok then .tuple #[.int .i64 (ks.idxOf k : Nat), .bool true] else .int .i64 (ks.idxOf k : Nat)) := by
  unfold lookupV
  simp only [K.good, cond_true, hb, findK_from K, hk, if_true, Nat.zero_add]
theorem lookup_out {e : EqTy} {enc : α → Value} (K : Keyed e enc) {h : AHeap} {b : Nat} {ks : List α} (hb : h.own.get b = some (.map (mapFrom enc 0 ks))) {k : α} (hk : k ∉ ks) (z : Value) (ok : Bool) :
    lookupV e z h (.map (some b)) (enc k) ok = some (bif ok then .tuple #[z, .bool false] else z) := by
  unfold lookupV
  simp only [K.good, cond_true, hb, findK_from K, hk, if_false]
theorem mapUpd_out {e : EqTy} {enc : α → Value} (K : Keyed e enc) {h : AHeap} {b : Nat} {ks : List α} (hb : h.own.get b = some (.map (mapFrom enc 0 ks))) {k : α} (hk : k ∉ ks) :
    mapUpdH e h (.map (some b)) (enc k) (.int .i64 (ks.length : Nat)) = some (h.put b (.map (mapFrom enc 0 (ks ++ [k])))) := by
  unfold mapUpdH
  simp only [K.good, cond_true, hb, findK_from K, hk, if_false, mapFrom_append, Nat.zero_add]
end
def numK (k : Int) : Value := .int .i64 k
theorem keyedNum : Keyed (.sc .i) numK := ⟨fun k => rfl, fun a b => by
  simp only [numK, keq, scEq, decide_true, cond_true, int_beq]⟩
structure KeepsBut (M : Nat → Prop) (h h' : AHeap) : Prop where
  le : h.next ≤ h'.next
  same : ∀ i, i < h.next → ¬ M i → h'.own.get i = h.own.get i
theorem KeepsBut.refl (M : Nat → Prop) (h : AHeap) : KeepsBut M h h := ⟨Nat.le_refl _, fun _ _ _ => rfl⟩
theorem Keeps.but {h h' : AHeap} (k : Keeps h h') (M : Nat → Prop) : KeepsBut M h h' := ⟨k.le, fun i hi _ => k.same i hi⟩
theorem KeepsBut.trans {M : Nat → Prop} {a b c : AHeap} (h : KeepsBut M a b) (k : KeepsBut M b c) : KeepsBut M a c :=
  ⟨Nat.le_trans h.le k.le, fun i hi hm => (k.same i (Nat.lt_of_lt_of_le hi h.le) hm).trans (h.same i hi hm)⟩
theorem KeepsBut.new {M : Nat → Prop} {a h : AHeap} (k : KeepsBut M a h) (b : ABlk) : KeepsBut M a (h.new b) :=
  ⟨Nat.le_trans k.le (by rw [AHeap.new_next]; omega), fun i hi hm => by rw [AHeap.new_get, if_neg (by have := k.le; omega)]; exact k.same i hi hm⟩
theorem KeepsBut.put {M : Nat → Prop} {a h : AHeap} (k : KeepsBut M a h) {j : Nat} (hj : a.next ≤ j ∨ M j) (b : ABlk) : KeepsBut M a (h.put j b) :=
  ⟨k.le, fun i hi hm => by
    rw [AHeap.put_get, if_neg (fun e => by subst e; rcases hj with hj | hj; · omega
                                           · exact hm hj)]
    exact k.same i hi hm⟩
theorem KeepsBut.keeps {M : Nat → Prop} {a h h' : AHeap} (k : KeepsBut M a h) (k' : Keeps h h') : KeepsBut M a h' := k.trans (k'.but M)
theorem KeepsBut.step {M : Nat → Prop} {a h h' : AHeap} {x : Option Addr} (k : KeepsBut M a h) (hsame : ∀ i, i < h.next → NotIn x i → h'.own.get i = h.own.get i) (hn : h.next ≤ h'.next) (hx : ∀ y, x = some y → a.next ≤ y.block ∨ M y.block) : KeepsBut M a h' :=
  ⟨Nat.le_trans k.le hn, fun i hi hm => by
    rw [hsame i (Nat.lt_of_lt_of_le hi k.le) fun y hy e => by
      rcases hx y hy with g | g
      · omega
      · rw [e] at g; exact hm g]
    exact k.same i hi hm⟩
theorem KeepsBut.all {M : Nat → Prop} {h0 a h : AHeap} (k0 : Keeps h0 a) (k : KeepsBut M a h) (hM : ∀ i, M i → h0.next ≤ i) : Keeps h0 h :=
  ⟨Nat.le_trans k0.le k.le, fun i hi => (k.same i (Nat.lt_of_lt_of_le hi k0.le) (fun hm => by have := hM i hm; omega)).trans (k0.same i hi)⟩
theorem Sub.but {M : Nat → Prop} {g a h : AHeap} (s : Sub g a) (k : KeepsBut M a h) (hM : ∀ i, M i → g.own.get i = none) : Sub g h :=
  ⟨Nat.le_trans s.le k.le, fun i x hx => ⟨Nat.lt_of_lt_of_le (s.same i x hx).1 k.le, by
    rw [k.same i (s.same i x hx).1 (fun hm => by rw [hM i hm] at hx; cases hx)]; exact (s.same i x hx).2⟩⟩
theorem OwnV.but {M : Nat → Prop} {N : Nat} {a h : AHeap} {x : Option Addr} {c esz : Nat} {es : List (List Value)} (o : OwnV N a x c esz es) (k : KeepsBut M a h) (hM : ∀ y, x = some y → ¬ M y.block) : OwnV N h x c esz es := by
  rcases o with o | ⟨b, h1, h2, h3, h4⟩
  · exact .inl o
  · exact .inr ⟨b, h1, h2, h3, h4.same (k.same b h4.lt (hM _ h1)) k.le⟩
theorem OwnV.sub {N : Nat} {g h : AHeap} {a : Option Addr} {c esz : Nat} {es : List (List Value)} (o : OwnV N g a c esz es) (s : Sub g h) : OwnV N h a c esz es := by
  rcases o with o | ⟨b, h1, h2, h3, h4⟩
  · exact .inl o
  · exact .inr ⟨b, h1, h2, h3, ⟨(s.same _ _ h4.get).2, h4.len, (s.same _ _ h4.get).1⟩⟩
theorem OwnV.freeze {N : Nat} {g h : AHeap} {a : Option Addr} {c esz : Nat} {es : List (List Value)} (o : OwnV N h a c esz es) (s : Sub g h) (hg : ∀ x, a = some x → g.own.get x.block = none) :
    ∃ g', Sub g' h ∧ Sub g g' ∧ OwnV N g' a c esz es ∧ (∀ i, i < N → g.own.get i = none → g'.own.get i = none) ∧ (∀ a2, Apart a a2 → (∀ x, a2 = some x → g.own.get x.block = none) → ∀ x, a2 = some x → g'.own.get x.block = none) := by
  rcases o with ⟨h1, h2, h3⟩ | ⟨b, h1, h2, h3, h4⟩
  · exact ⟨⟨g.own, h.next⟩, ⟨Nat.le_refl _, s.same⟩, ⟨s.le, fun i x hx => ⟨(s.same i x hx).1, hx⟩⟩, .inl ⟨h1, h2, h3⟩, fun i _ h => h, fun a2 _ h => h⟩
  · obtain ⟨g', s1, s2, s3, s4⟩ := s.freeze h4
    exact ⟨g', s1, s4 (hg _ h1), .inr ⟨b, h1, h2, h3, s3⟩, fun i hi hgi => (s2 i).2 ⟨hgi, by omega⟩, fun a2 hap h2 x hx => (s2 _).2 ⟨h2 x hx, fun e => hap _ x h1 hx e.symm⟩⟩
theorem AutoV.sub {W : World} {g h : AHeap} {v : Value} {A : Aut} {vf va : Value} {vs : List Value} (hA : AutoV W g v A vf va vs) (s : Sub g h) : AutoV W h v A vf va vs :=
  ⟨hA.v, hA.f.sub s, hA.a.sub s, hA.l, fun i x l hx hl => (hA.e i x l hx hl).sub s⟩
def FreshA (W : World) (N : Nat) (h : AHeap) (A : Aut) (vf va : Value) (vs : List Value) : Prop := ∃ g, Sub g h ∧ (∀ j, j < N → g.own.get j = none) ∧ AutoV W g (.agg #[vf, va]) A vf va vs
theorem FreshA.auto {W : World} {N : Nat} {h : AHeap} {A : Aut} {vf va : Value} {vs : List Value} (f : FreshA W N h A vf va vs) : AutoV W h (.agg #[vf, va]) A vf va vs := by
  obtain ⟨g, h1, _, h3⟩ := f; exact h3.sub h1
theorem FreshA.keeps {W : World} {N : Nat} {h h' : AHeap} {A : Aut} {vf va : Value} {vs : List Value} (f : FreshA W N h A vf va vs) (k : Keeps h h') : FreshA W N h' A vf va vs := by
  obtain ⟨g, h1, h2, h3⟩ := f; exact ⟨g, h1.keeps k, h2, h3⟩
theorem FreshA.put {W : World} {N : Nat} {h : AHeap} {A : Aut} {vf va : Value} {vs : List Value} (f : FreshA W N h A vf va vs) {j : Nat} (hj : j < N) (b : ABlk) : FreshA W N (h.put j b) A vf va vs := by
  obtain ⟨g, h1, h2, h3⟩ := f; exact ⟨g, h1.put (h2 j hj) b, h2, h3⟩
theorem FreshA.base {W : World} {N M : Nat} {h : AHeap} {A : Aut} {vf va : Value} {vs : List Value} (f : FreshA W N h A vf va vs) (hM : M ≤ N) : FreshA W M h A vf va vs := by
  obtain ⟨g, h1, h2, h3⟩ := f; exact ⟨g, h1, fun j hj => h2 j (by omega), h3⟩
end Go.Mach
end
section
set_option linter.unusedSimpArgs false
set_option linter.unusedVariables false
set_option maxRecDepth 100000
namespace Go.Proofs.YtlipmjpapkfaeaaGreatDoor.Fn
open Go Go.Mach Go.RowKit
attribute [local irreducible] AOps WPX DOps thenS blockS GOps CPick
set_option maxHeartbeats 4000000 in
theorem f16_ok (W : World) (h : AHeap) (v : Value) (A : Aut) (vf va : Value) (vs : List Value) (hA : AutoV W h v A vf va vs) (hb : ∀ l ∈ A.arcs, l.length < 1073741824) :
    ACalls Tryz.prog W 16 [v] h (fun r h' => r = .int .i64 (validate A) ∧ Keeps h h') := by
  obtain ⟨rfl, hf, ha, hl, he⟩ := hA
  obtain ⟨fa, fc, hfs⟩ := hf.len
  obtain ⟨aa, ac, has⟩ := ha.len
  rw [List.length_map] at hfs has
  rw [hl] at has
  refine ACalls_ofX hmix c16 (Nat.le_of_ble_eq_true rfl) ?_
  unfold r16
  dsimp only [Rc.t, Rc.u, Rc.v, Rc.o, Rc.i, Rc.p, Rc.q, Rc.s, Rc.b, Rc.k, Rc.g, Rc.S, Rc.D]
  simp only [envOf1]
  have hfs' := hfs; have has' := has
  by_cases h1 : (A.fin.length : Int) > 256
  · subst hfs has
    repeat refine zs ?_
    refine ⟨.inr rfl, _, rfl, ?_, (by first | exact Keeps.refl h | exact (Keeps.refl h).new _ | exact hkk | exact hk | exact hk')⟩
    simp only [resOf, eget_eput, rop, opd, celsL, oneV, aadd, binV, isSh, intBin, scEq, keq, unV, fillL, oP, oA, oS, wantedA, BX, BL, BS, seval]
    unfold validate
    rw [if_pos (by omega)]
  · have h1n : ¬ A.fin.length > 256 := by omega
    by_cases h0 : (A.fin.length : Int) = 0
    · subst hfs has
      repeat refine zs ?_
      refine ⟨.inr rfl, _, rfl, ?_, (by first | exact Keeps.refl h | exact (Keeps.refl h).new _ | exact hkk | exact hk | exact hk')⟩
      simp only [resOf, eget_eput, rop, opd, celsL, oneV, aadd, binV, isSh, intBin, scEq, keq, unV, fillL, oP, oA, oS, wantedA, BX, BL, BS, seval]
      unfold validate
      rw [if_neg h1n, if_pos (.inl (by omega))]
    · by_cases hm : (A.arcs.length : Int) = A.fin.length
      · have hn : Hid (A.arcs.length = A.fin.length) := by show A.arcs.length = A.fin.length; omega
        rw [hn.out] at has hl
        clear hm has'
        subst hfs has
        repeat refine zs ?_
        refine WPX.loop hmix (fun k σ => ∃ i, i ≤ A.fin.length ∧ k = A.fin.length - i ∧ eget σ.e 3 = .int .i64 A.fin.length ∧ eget σ.e 25 = .slice aa A.fin.length ac ∧ eget σ.e 26 = .int .i64 A.fin.length ∧ eget σ.e 27 = .int .i64 (i : Nat) ∧ Keeps h σ.h ∧ chkAll A.fin.length (A.arcs.take i) = none)
          A.fin.length ?h0 ?round
        case h0 => exact ⟨0, Nat.zero_le _, rfl, zv, zv, zv, zv, (Keeps.refl h).new _, rfl⟩
        rintro k ⟨e, hh⟩ ⟨i, hi, rfl, e3, e25, e26, e27, hk, hc⟩
        dsimp only at e3 e25 e26 e27 hk
        by_cases hlt : i < A.fin.length
        · have hltI : (i : Int) < A.fin.length := by omega
          have hlv : i < vs.length := by omega
          have hx : (vs.map fun x => [x])[i]? = some [vs[i]] := by simp [hlv]
          obtain ⟨a, ha1, _, ha2⟩ := (ha.keeps hk).at hx
          have hrd := (ha2 0 vs[i] rfl).1
          have haa : aadd a 0 = a := rfl
          rw [haa] at hrd
          have hia : i < A.arcs.length := by have := hn.out; omega
          obtain ⟨l, hll⟩ : ∃ l, A.arcs[i]? = some l := ⟨_, List.getElem?_eq_getElem hia⟩
          have hs := (he i vs[i] l (by simp [hlv]) hll)
          obtain ⟨la, lc, hls⟩ := hs.len
          rw [List.length_map] at hls
          rw [hls] at hrd hs
          repeat refine zs ?_
          refine WPX.loop hmix (fun k σ => ∃ j, j ≤ l.length ∧ k = l.length - j ∧ eget σ.e 3 = .int .i64 A.fin.length ∧ eget σ.e 25 = .slice aa A.fin.length ac ∧ eget σ.e 26 = .int .i64 A.fin.length ∧ eget σ.e 27 = .int .i64 (i : Nat) ∧
            eget σ.e 5 = .slice la l.length lc ∧ eget σ.e 31 = .slice la l.length lc ∧ eget σ.e 32 = .int .i64 l.length ∧ eget σ.e 33 = .int .i64 (j : Nat) ∧ Keeps h σ.h ∧ chkFrom A.fin.length none (l.take j) = none) l.length ?h1 ?round1
          case h1 => exact ⟨0, Nat.zero_le _, rfl, zv, zv, zv, zv, zv, zv, zv, zv, hk, rfl⟩
          rintro k2 ⟨e', hh'⟩ ⟨j, hj, rfl, q3, q25, q26, q27, q5, q31, q32, q33, hk', hc'⟩
          clear e3 e25 e26 e27 hrd ha1
          dsimp only at q3 q25 q26 q27 q5 q31 q32 q33 hk'
          by_cases hjl : j < l.length
          · have hjlI : (j : Int) < l.length := by omega
            have hxj : (l.map arcV)[j]? = some (arcV l[j]) := by simp [hjl]
            obtain ⟨b, hb1, hb2, hb3⟩ := (hs.keeps hk').at hxj
            have hld := aloadN_of _ _ hb3
            obtain ⟨x, hxe⟩ : ∃ x, x = l[j] := ⟨_, rfl⟩
            rw [← hxe] at hld
            obtain ⟨f, t, s⟩ := x
            simp only [arcV, List.length_cons, List.length_nil, Nat.reduceAdd] at hld
            have hxl : l[j]? = some (f, t, s) := by rw [hxe]; simp [hjl]
            have fin8 : badArc A.fin.length (f, t, s) = true → validate A = 8 := fun hbad => by
              have := chkAll_hit hll hc (c := 8) (by rw [chkFrom_hit hxl hc']; simp [chkFrom, hbad])
              unfold validate; rw [if_neg h1n, if_neg (by have := hn.out; omega), this]; rfl
            have hkk : Keeps h ((hh'.new (.cells [.int .i32 0, .int .i32 0, .int .i64 0])).put hh'.next (.cells [.int .i32 f, .int .i32 t, .int .i64 s])) := (hk'.new _).put hk'.le _
            by_cases b1 : f < 0
            · have hv := fin8 (by simp [badArc, b1])
              repeat refine zs ?_
              refine ⟨.inr rfl, _, rfl, ?_, (by first | exact Keeps.refl h | exact (Keeps.refl h).new _ | exact hkk | exact hk | exact hk')⟩
              simp only [resOf, rop, opd, celsL, oneV, aadd, binV, isSh, intBin, scEq, keq, unV, fillL, oP, oA, oS, wantedA, BX, BL, BS, seval, hv]
            by_cases b2 : f > t
            · have hv := fin8 (by simp [badArc, b2])
              repeat refine zs ?_
              refine ⟨.inr rfl, _, rfl, ?_, (by first | exact Keeps.refl h | exact (Keeps.refl h).new _ | exact hkk | exact hk | exact hk')⟩
              simp only [resOf, rop, opd, celsL, oneV, aadd, binV, isSh, intBin, scEq, keq, unV, fillL, oP, oA, oS, wantedA, BX, BL, BS, seval, hv]
            by_cases b3 : t > 1114111
            · have hv := fin8 (by simp [badArc, b3])
              repeat refine zs ?_
              refine ⟨.inr rfl, _, rfl, ?_, (by first | exact Keeps.refl h | exact (Keeps.refl h).new _ | exact hkk | exact hk | exact hk')⟩
              simp only [resOf, rop, opd, celsL, oneV, aadd, binV, isSh, intBin, scEq, keq, unV, fillL, oP, oA, oS, wantedA, BX, BL, BS, seval, hv]
            by_cases b4 : s < 0
            · have hv := fin8 (by simp [badArc, b4])
              repeat refine zs ?_
              refine ⟨.inr rfl, _, rfl, ?_, (by first | exact Keeps.refl h | exact (Keeps.refl h).new _ | exact hkk | exact hk | exact hk')⟩
              simp only [resOf, rop, opd, celsL, oneV, aadd, binV, isSh, intBin, scEq, keq, unV, fillL, oP, oA, oS, wantedA, BX, BL, BS, seval, hv]
            by_cases b5 : s ≥ (A.fin.length : Int)
            · have hv := fin8 (by simp [badArc, b5])
              repeat refine zs ?_
              refine ⟨.inr rfl, _, rfl, ?_, (by first | exact Keeps.refl h | exact (Keeps.refl h).new _ | exact hkk | exact hk | exact hk')⟩
              simp only [resOf, rop, opd, celsL, oneV, aadd, binV, isSh, intBin, scEq, keq, unV, fillL, oP, oA, oS, wantedA, BX, BL, BS, seval, hv]
            have hbad : badArc A.fin.length (f, t, s) = false := by simp [badArc, b1, b2, b3, b4, b5]
            have hw1 : IntKind.i64.wrap ((j : Int) + 1) = ((j + 1 : Nat) : Int) := by have := hb l (List.mem_of_getElem? hll); exact wrap_i64 (by omega) (by omega)
            by_cases hj0 : (j : Int) > 0
            · have hwj : IntKind.i64.wrap ((j : Int) - 1) = ((j - 1 : Nat) : Int) := by have := hb l (List.mem_of_getElem? hll); rw [show ((j - 1 : Nat) : Int) = (j : Int) - 1 by omega]; exact wrap_i64 (by omega) (by omega)
              obtain ⟨⟨f', t', s'⟩, hpl⟩ : ∃ p, l[j - 1]? = some p := ⟨_, List.getElem?_eq_getElem (show j - 1 < l.length by omega)⟩
              have hprev : prevArc l j = some (f', t', s') := by unfold prevArc; rw [if_neg (by omega), hpl]
              have hxp : (l.map arcV)[j - 1]? = some (arcV (f', t', s')) := by simp [hpl]
              obtain ⟨b', hb1', _, hb3'⟩ := (hs.keeps hkk).at hxp
              have hp1 := (hb3' 1 (.int .i32 t') rfl).1
              have hp2 := (hb3' 2 (.int .i64 s') rfl).1
              simp only [aadd] at hp1 hp2
              have fin6 : chkFrom A.fin.length (some (f', t', s')) ((f, t, s) :: l.drop (j + 1)) = some 6 → validate A = 6 := fun hr => by
                have := chkAll_hit hll hc (c := 6) (by rw [chkFrom_hit hxl hc', hprev]; exact hr)
                unfold validate; rw [if_neg h1n, if_neg (by have := hn.out; omega), this]; rfl
              clear hb3' hxp hpl
              by_cases b6 : f ≤ t'
              · have hv := fin6 (by simp [chkFrom, hbad, b6])
                repeat refine zs ?_
                refine ⟨.inr rfl, _, rfl, ?_, (by first | exact Keeps.refl h | exact (Keeps.refl h).new _ | exact hkk | exact hk | exact hk')⟩
                simp only [resOf, rop, opd, celsL, oneV, aadd, binV, isSh, intBin, scEq, keq, unV, fillL, oP, oA, oS, wantedA, BX, BL, BS, seval, hv]
              · by_cases b7 : f = IntKind.i32.wrap (t' + 1)
                · have b7' : decide (f = IntKind.i32.wrap (t' + 1)) = true := decide_eq_true b7
                  by_cases b8 : s = s'
                  · have hv := fin6 (by simp only [chkFrom, hbad, Bool.false_eq_true, if_false, b6]; rw [if_pos ⟨b7, b8⟩])
                    clear fin6 b7
                    subst b8
                    repeat refine zs ?_
                    refine ⟨.inr rfl, _, rfl, ?_, (by first | exact Keeps.refl h | exact (Keeps.refl h).new _ | exact hkk | exact hk | exact hk')⟩
                    simp only [resOf, rop, opd, celsL, oneV, aadd, binV, isSh, intBin, scEq, keq, unV, fillL, oP, oA, oS, wantedA, BX, BL, BS, seval, hv]
                  · have hnext : chkFrom A.fin.length none (l.take (j + 1)) = none := by rw [chkFrom_next hxl hc', hprev]; simp only [chkFrom, hbad, Bool.false_eq_true, if_false, b6]; rw [if_neg (fun h => b8 h.2)]
                    clear fin6 b7
                    repeat refine zs ?_
                    refine ⟨l.length - (j + 1), by omega, j + 1, by omega, rfl, ?_⟩
                    simp only [rop, opd, celsL, oneV, aadd, binV, isSh, intBin, scEq, keq, unV, fillL, oP, oA, oS, wantedA, BX, BL, BS, seval, and_self, *]
                · have hnext : chkFrom A.fin.length none (l.take (j + 1)) = none := by rw [chkFrom_next hxl hc', hprev]; simp only [chkFrom, hbad, Bool.false_eq_true, if_false, b6]; rw [if_neg (fun h => b7 h.1)]
                  clear fin6
                  repeat refine zs ?_
                  refine ⟨l.length - (j + 1), by omega, j + 1, by omega, rfl, ?_⟩
                  simp only [rop, opd, celsL, oneV, aadd, binV, isSh, intBin, scEq, keq, unV, fillL, oP, oA, oS, wantedA, BX, BL, BS, seval, and_self, *]
            · have hj00 : j = 0 := by omega
              have hprev : prevArc l j = none := by unfold prevArc; rw [if_pos hj00]
              have hnext : chkFrom A.fin.length none (l.take (j + 1)) = none := by rw [chkFrom_next hxl hc', hprev]; simp [chkFrom, hbad]
              clear hj00
              repeat refine zs ?_
              refine ⟨l.length - (j + 1), by omega, j + 1, by omega, rfl, ?_⟩
              simp only [rop, opd, celsL, oneV, aadd, binV, isSh, intBin, scEq, keq, unV, fillL, oP, oA, oS, wantedA, BX, BL, BS, seval, and_self, *]
          · have hjlI : ¬ (j : Int) < l.length := by omega
            have hnext : chkAll A.fin.length (A.arcs.take (i + 1)) = none := chkAll_next hll hc (by rw [← hc', List.take_of_length_le (by omega)])
            have hw1 : IntKind.i64.wrap ((i : Int) + 1) = ((i + 1 : Nat) : Int) := wrap_i64 (by omega) (by omega)
            repeat refine zs ?_
            refine ⟨A.fin.length - (i + 1), by omega, i + 1, by omega, rfl, ?_⟩
            simp only [rop, opd, celsL, oneV, aadd, binV, isSh, intBin, scEq, keq, unV, fillL, oP, oA, oS, wantedA, BX, BL, BS, seval, and_self, *]
        · have hltI : ¬ (i : Int) < A.fin.length := by omega
          have hv : validate A = 0 := by
            unfold validate; rw [if_neg h1n, if_neg (by have := hn.out; omega)]
            rw [List.take_of_length_le (by have := hn.out; omega)] at hc
            rw [hc]; rfl
          repeat refine zs ?_
          refine ⟨.inr rfl, _, rfl, ?_, (by first | exact Keeps.refl h | exact (Keeps.refl h).new _ | exact hkk | exact hk | exact hk')⟩
          simp only [resOf, rop, opd, celsL, oneV, aadd, binV, isSh, intBin, scEq, keq, unV, fillL, oP, oA, oS, wantedA, BX, BL, BS, seval, hv]
      · subst hfs has
        repeat refine zs ?_
        refine ⟨.inr rfl, _, rfl, ?_, (by first | exact Keeps.refl h | exact (Keeps.refl h).new _ | exact hkk | exact hk | exact hk')⟩
        simp only [resOf, eget_eput, rop, opd, celsL, oneV, aadd, binV, isSh, intBin, scEq, keq, unV, fillL, oP, oA, oS, wantedA, BX, BL, BS, seval]
        unfold validate
        rw [if_neg h1n, if_pos (.inr (by omega))]
end Go.Proofs.YtlipmjpapkfaeaaGreatDoor.Fn
end
section
set_option linter.unusedSimpArgs false
set_option linter.unusedVariables false
set_option maxRecDepth 100000
namespace Go.Proofs.YtlipmjpapkfaeaaGreatDoor.Fn
open Go Go.Mach Go.RowKit
attribute [local irreducible] AOps WPX DOps thenS blockS AOp GOps CPick
def nextA (l : List Arc3) (c : Int) : Int := match l.find? (fun x => decide (x.1 ≤ c) && decide (c ≤ x.2.1)) with
  | some x => x.2.2
  | none => -1
theorem envOf3 (v u x : Value) : envOf 0 [v, u, x] .lf = eput (eput (eput .lf (some 0) v) (some 1) u) (some 2) x := rfl
end Go.Proofs.YtlipmjpapkfaeaaGreatDoor.Fn
end
