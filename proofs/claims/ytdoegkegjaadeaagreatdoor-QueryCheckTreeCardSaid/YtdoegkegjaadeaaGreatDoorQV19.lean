/- The rules by which a list of operations is worked, as rewrite rules. -/
import Derived.Test.YtdoegkegjaadeaaGreatDoorQV18
namespace Go.V
open Go

section
variable {C : Cfg} {cf : FuncId} {s : PT} {h : H} {ops : Array Oper} {K : PT → H → Prop} {d : Tmp} {ty : TypeId} {p : String} {af : Array Edge} {l : List Oper}

/-- One behind the other, what follows kept behind a name. -/
theorem WP_seq_k {a b : Code} {Q : Ex → PT → H → Prop} (hk : ∀ K : PT → H → Prop, (∀ s h, WP C cf b s h Q → K s h) → WP C cf a s h (thenQ K Q)) : WP C cf (.seq a b) s h Q :=
  WP_seq.2 (hk _ fun _ _ h => h)

theorem OW_of {o : Oper} (hg : o.guard = none) {v : AV} (ha : active o = false) (hl : isLoad o = false) (hv : opN C.P s o = some v) (hk : OW C cf ops l (putV s o.dst v) h K) : OW C cf ops (o :: l) s h K := by
  rw [OW_cons, if_pos (by simp [Region.wanted, hg])]
  exact ⟨v, h, by rw [opV_pure ha hl, hv], hk⟩

theorem OW_pureN {op : Op} (ha : active ⟨some d, op, ty, p, af, none⟩ = false) (hl : isLoad ⟨some d, op, ty, p, af, none⟩ = false) :
    OW C cf ops (⟨some d, op, ty, p, af, none⟩ :: l) s h K ↔ ∃ v, opN C.P s ⟨some d, op, ty, p, af, none⟩ = some v ∧ OW C cf ops l (s.set d v) h K := by
  rw [OW_plain, opV_pure ha hl]
  constructor
  · rintro ⟨v, h', hv, hk⟩
    split at hv <;> first | (cases hv; done) | skip
    rename_i u hu
    simp only [Option.some.injEq, Prod.mk.injEq] at hv; obtain ⟨rfl, rfl⟩ := hv
    exact ⟨u, hu, hk⟩
  · rintro ⟨v, hv, hk⟩
    exact ⟨v, h, by rw [hv], hk⟩
theorem OW_pureG {op : Op} {j : Nat} {want : Bool} (ha : active ⟨some d, op, ty, p, af, some (j, want)⟩ = false) (hl : isLoad ⟨some d, op, ty, p, af, some (j, want)⟩ = false) :
    OW C cf ops (⟨some d, op, ty, p, af, some (j, want)⟩ :: l) s h K ↔ if yieldedV ops s j = some want then ∃ v, opN C.P s ⟨some d, op, ty, p, af, some (j, want)⟩ = some v ∧ OW C cf ops l (s.set d v) h K else OW C cf ops l (s.set d AV.undef) h K := by
  rw [OW_guard, opV_pure ha hl]
  split
  · constructor
    · rintro ⟨v, h', hv, hk⟩
      split at hv <;> first | (cases hv; done) | skip
      rename_i u hu
      simp only [Option.some.injEq, Prod.mk.injEq] at hv; obtain ⟨rfl, rfl⟩ := hv
      exact ⟨u, hu, hk⟩
    · rintro ⟨v, hv, hk⟩
      exact ⟨v, h, by rw [hv], hk⟩
  · exact Iff.rfl
theorem OW_load {x : Operand} {t : TypeId} : OW C cf ops (⟨some d, .load t x, ty, p, af, none⟩ :: l) s h K ↔ ∃ a, ev s x = some a ∧ ∃ v, loadV C.P h t a = some v ∧ OW C cf ops l (s.set d v) h K := by
  rw [OW_plain, opV_load rfl]
  constructor
  · rintro ⟨v, h', hv, hk⟩
    split at hv <;> first | (cases hv; done) | skip
    rename_i a ha
    split at hv <;> first | (cases hv; done) | skip
    rename_i u hu
    simp only [Option.some.injEq, Prod.mk.injEq] at hv; obtain ⟨rfl, rfl⟩ := hv
    exact ⟨a, ha, u, hu, hk⟩
  · rintro ⟨a, ha, v, hv, hk⟩
    exact ⟨v, h, by rw [ha]; simp only [hv], hk⟩
theorem OW_loadG {x : Operand} {t : TypeId} {j : Nat} {want : Bool} : OW C cf ops (⟨some d, .load t x, ty, p, af, some (j, want)⟩ :: l) s h K ↔
    if yieldedV ops s j = some want then ∃ a, ev s x = some a ∧ ∃ v, loadV C.P h t a = some v ∧ OW C cf ops l (s.set d v) h K else OW C cf ops l (s.set d AV.undef) h K := by
  rw [OW_guard, opV_load rfl]
  split
  · constructor
    · rintro ⟨v, h', hv, hk⟩
      split at hv <;> first | (cases hv; done) | skip
      rename_i a ha
      split at hv <;> first | (cases hv; done) | skip
      rename_i u hu
      simp only [Option.some.injEq, Prod.mk.injEq] at hv; obtain ⟨rfl, rfl⟩ := hv
      exact ⟨a, ha, u, hu, hk⟩
    · rintro ⟨a, ha, v, hv, hk⟩
      exact ⟨v, h, by rw [ha]; simp only [hv], hk⟩
  · exact Iff.rfl
theorem OW_act {dd : Option Tmp} {op : Op} (ha : active ⟨dd, op, ty, p, af, none⟩ = true) :
    OW C cf ops (⟨dd, op, ty, p, af, none⟩ :: l) s h K ↔ ∃ v h', opA C (Call C) cf s h ⟨dd, op, ty, p, af, none⟩ = some (v, h') ∧ OW C cf ops l (putV s dd v) h' K := by
  rw [OW_plain, opV_active ha]
theorem OW_actG {dd : Option Tmp} {op : Op} {j : Nat} {want : Bool} (ha : active ⟨dd, op, ty, p, af, some (j, want)⟩ = true) :
    OW C cf ops (⟨dd, op, ty, p, af, some (j, want)⟩ :: l) s h K ↔ if yieldedV ops s j = some want then ∃ v h', opA C (Call C) cf s h ⟨dd, op, ty, p, af, some (j, want)⟩ = some (v, h') ∧ OW C cf ops l (putV s dd v) h' K else OW C cf ops l (putV s dd AV.undef) h K := by
  rw [OW_guard, opV_active ha]

/- Plain operations. -/
theorem ev_tmp (t : Tmp) : ev s (.tmp t) = some (s.get t) := (rfl)
theorem ev_int (k : IntKind) (n : Int) : ev s (.const (.int k n)) = some (.int k n) := (rfl)
theorem ev_bool (b : Bool) : ev s (.const (.bool b)) = some (.bool b) := (rfl)
theorem ev_str (b : ByteArray) : ev s (.const (.string b)) = some (.str b) := (rfl)
theorem ev_nilslice : ev s (.const (.slice none 0 0)) = some (.isl [] .full) := (rfl)
theorem ev_nilptr : ev s (.const (.pointer none)) = some .nilptr := (rfl)
theorem ev_func (f : FuncId) : ev s (.func f) = some (.func f []) := (rfl)
theorem evs_nil : evs s [] = some [] := (rfl)
theorem evs_cons (x : Operand) (r : List Operand) : evs s (x :: r) = (match ev s x, evs s r with | some a, some l => some (a :: l) | _, _ => none) := (rfl)
attribute [go_sem] PT.get_set
theorem putV_some (v : AV) : putV s (some d) v = s.set d v := (rfl)
theorem putV_none (v : AV) : putV s none v = s := (rfl)

theorem OW_move (x : Operand) : OW C cf ops (⟨some d, .move x, ty, p, af, none⟩ :: l) s h K ↔ ∃ v, ev s x = some v ∧ OW C cf ops l (s.set d v) h K := OW_pureN rfl rfl
theorem OW_moveG (x : Operand) (j : Nat) (want : Bool) : OW C cf ops (⟨some d, .move x, ty, p, af, some (j, want)⟩ :: l) s h K ↔ if yieldedV ops s j = some want then ∃ v, ev s x = some v ∧ OW C cf ops l (s.set d v) h K else OW C cf ops l (s.set d AV.undef) h K := OW_pureG rfl rfl
theorem OW_assign_tmp (t : Tmp) : OW C cf ops (⟨some d, .assign (.tmp t), ty, p, af, none⟩ :: l) s h K ↔ OW C cf ops l (s.set d (s.get t)) h K := by
  rw [OW_pureN rfl rfl]; simp [opN, ev]
theorem OW_assign_int (k : IntKind) (n : Int) : OW C cf ops (⟨some d, .assign (.const (.int k n)), ty, p, af, none⟩ :: l) s h K ↔ OW C cf ops l (s.set d (.int k n)) h K := by
  rw [OW_pureN rfl rfl]; simp [opN, ev, ofConst, ofScalar]
theorem OW_assign_bool (b : Bool) : OW C cf ops (⟨some d, .assign (.const (.bool b)), ty, p, af, none⟩ :: l) s h K ↔ OW C cf ops l (s.set d (.bool b)) h K := by
  rw [OW_pureN rfl rfl]; simp [opN, ev, ofConst, ofScalar]
theorem OW_assign_nil : OW C cf ops (⟨some d, .assign (.const (.slice none 0 0)), ty, p, af, none⟩ :: l) s h K ↔ if C.wr cf d = true then OW C cf ops l (s.set d (.isl [] .full)) h K else ∃ e, isSliceT C.P ty = some e ∧ OW C cf ops l (s.set d (.isl [] (.tok h.length))) (h ++ [.tok 0 e]) K := by
  rw [OW_act rfl]
  simp only [opA, putV_some, wrO]
  by_cases hw : C.wr cf d = true
  · simp only [hw, if_true]
    constructor
    · rintro ⟨v, h', hv, hk⟩
      simp only [Option.some.injEq, Prod.mk.injEq] at hv; obtain ⟨rfl, rfl⟩ := hv
      exact hk
    · exact fun hk => ⟨_, _, rfl, hk⟩
  · have hw' : C.wr cf d = false := by simpa using hw
    simp only [hw', Bool.false_eq_true, if_false]
    constructor
    · rintro ⟨v, h', hv, hk⟩
      split at hv <;> first | (cases hv; done) | skip
      rename_i e he
      simp only [Option.some.injEq, Prod.mk.injEq] at hv; obtain ⟨rfl, rfl⟩ := hv
      exact ⟨e, he, hk⟩
    · rintro ⟨e, he, hk⟩
      exact ⟨_, _, by rw [he], hk⟩
theorem OW_bin (op : BinOp) (t t2 : TypeId) (x y : Operand) : OW C cf ops (⟨some d, .binOp op t x y t2, ty, p, af, none⟩ :: l) s h K ↔ ∃ v, (match ev s x, ev s y with | some a, some b => binV C.P op t x y a b | _, _ => none) = some v ∧ OW C cf ops l (s.set d v) h K := OW_pureN rfl rfl
theorem OW_binG (op : BinOp) (t t2 : TypeId) (x y : Operand) (j : Nat) (want : Bool) : OW C cf ops (⟨some d, .binOp op t x y t2, ty, p, af, some (j, want)⟩ :: l) s h K ↔ if yieldedV ops s j = some want then ∃ v, (match ev s x, ev s y with | some a, some b => binV C.P op t x y a b | _, _ => none) = some v ∧ OW C cf ops l (s.set d v) h K else OW C cf ops l (s.set d AV.undef) h K := OW_pureG rfl rfl
theorem OW_pick (c x y : Operand) : OW C cf ops (⟨some d, .pick c x y, ty, p, af, none⟩ :: l) s h K ↔ ∃ v, (match ev s c with | some (.bool true) => ev s x | some (.bool false) => ev s y | _ => none) = some v ∧ OW C cf ops l (s.set d v) h K := OW_pureN rfl rfl
theorem OW_indexAddr (t : TypeId) (x i : Operand) : OW C cf ops (⟨some d, .indexAddr t x i, ty, p, af, none⟩ :: l) s h K ↔ ∃ v, (match ev s x, ev s i with | some a, some b => indexAddrV C.P t a b | _, _ => none) = some v ∧ OW C cf ops l (s.set d v) h K := OW_pureN rfl rfl
theorem OW_indexAddrG (t : TypeId) (x i : Operand) (j : Nat) (want : Bool) : OW C cf ops (⟨some d, .indexAddr t x i, ty, p, af, some (j, want)⟩ :: l) s h K ↔ if yieldedV ops s j = some want then ∃ v, (match ev s x, ev s i with | some a, some b => indexAddrV C.P t a b | _, _ => none) = some v ∧ OW C cf ops l (s.set d v) h K else OW C cf ops l (s.set d AV.undef) h K := OW_pureG rfl rfl
theorem OW_fieldAddr (t : TypeId) (x : Operand) (f : Nat) : OW C cf ops (⟨some d, .fieldAddr t x f, ty, p, af, none⟩ :: l) s h K ↔ ∃ v, (match ev s x with | some a => fieldAddrV C.P t a f | none => none) = some v ∧ OW C cf ops l (s.set d v) h K := OW_pureN rfl rfl
theorem OW_extract (x : Operand) (i : Nat) : OW C cf ops (⟨some d, .extract x i, ty, p, af, none⟩ :: l) s h K ↔ ∃ v, (match ev s x with | some (.tuple l) => l[i]? | _ => none) = some v ∧ OW C cf ops l (s.set d v) h K := OW_pureN rfl rfl
theorem OW_slice (t : TypeId) (x : Operand) (lo hi mx : Option Operand) : OW C cf ops (⟨some d, .slice t x lo hi mx, ty, p, af, none⟩ :: l) s h K ↔ ∃ v, opN C.P s ⟨some d, .slice t x lo hi mx, ty, p, af, none⟩ = some v ∧ OW C cf ops l (s.set d v) h K := OW_pureN rfl rfl
theorem OW_len (t : TypeId) (x : Operand) : OW C cf ops (⟨some d, .call { callee := .builtin .len, args := #[x], argTypes := #[t] }, ty, p, af, none⟩ :: l) s h K ↔ ∃ v, (match ev s x with | some a => lenV C.P t a | none => none) = some v ∧ OW C cf ops l (s.set d v) h K := OW_pureN rfl rfl
theorem OW_un (op : UnOp) (t : TypeId) (x : Operand) : OW C cf ops (⟨some d, .unOp op t x, ty, p, af, none⟩ :: l) s h K ↔ ∃ v, (match ev s x with | some a => unV C.P op a | none => none) = some v ∧ OW C cf ops l (s.set d v) h K := OW_pureN rfl rfl
theorem OW_store (t : TypeId) (a x : Operand) : OW C cf ops (⟨none, .store t a x, ty, p, af, none⟩ :: l) s h K ↔ ∃ q v h', ev s a = some q ∧ ev s x = some v ∧ storeV C.P h t q v = some h' ∧ OW C cf ops l s h' K := by
  rw [OW_act rfl]
  simp only [opA]
  constructor
  · rintro ⟨v, h', hv, hk⟩
    split at hv <;> first | (cases hv; done) | skip
    rename_i q u hq hu
    split at hv <;> first | (cases hv; done) | skip
    rename_i h2 hs
    simp only [Option.some.injEq, Prod.mk.injEq] at hv; obtain ⟨rfl, rfl⟩ := hv
    exact ⟨q, u, h2, hq, hu, hs, hk⟩
  · rintro ⟨q, v, h', hq, hv, hs, hk⟩
    exact ⟨AV.undef, h', by rw [hq, hv]; simp only [hs], hk⟩
theorem OW_box (t : TypeId) (x : Operand) : OW C cf ops (⟨some d, .box t x, ty, p, af, none⟩ :: l) s h K ↔ ∃ v h', opA C (Call C) cf s h ⟨some d, .box t x, ty, p, af, none⟩ = some (v, h') ∧ OW C cf ops l (s.set d v) h' K := OW_act rfl
theorem OW_makeSlice (t : TypeId) (x y : Operand) : OW C cf ops (⟨some d, .makeSlice t x y, ty, p, af, none⟩ :: l) s h K ↔ ∃ v h', (match ev s x, ev s y with | some a, some b => makeSliceV C.P (C.wr cf d) h t a b | _, _ => none) = some (v, h') ∧ OW C cf ops l (s.set d v) h' K := OW_act rfl
theorem OW_buildSlice (t : TypeId) (n : Nat) (parts : Array (Nat × Operand)) : OW C cf ops (⟨some d, .buildSlice t n parts, ty, p, af, none⟩ :: l) s h K ↔ ∃ v h', (match partsV s parts.toList with | some l => buildSliceV C.P h t n l | none => none) = some (v, h') ∧ OW C cf ops l (s.set d v) h' K := OW_act rfl
theorem OW_append (t : TypeId) (x y : Operand) : OW C cf ops (⟨some d, .call { callee := .builtin .append, args := #[x, y], argTypes := #[t, t] }, ty, p, af, none⟩ :: l) s h K ↔ ∃ v h', (match ev s x, ev s y with | some a, some b => appendW C.P (C.wr cf d) h t a b | _, _ => none) = some (v, h') ∧ OW C cf ops l (s.set d v) h' K := by
  rw [OW_act rfl]; simp only [opA, if_true, putV_some]
  exact Iff.rfl
/-- The call of a function value. -/
noncomputable def callV (C : Cfg) (h : H) (g : AV) (l : Option (List AV)) : Option (AV × H) := match g, l with
  | .func g cap, some l => if hasBody C.P g then applyCall C (Call C) g (l ++ cap) h else extV C g (l ++ cap) h
  | .yield i, some l => Call C (yb C.P + i) l h
  | _, _ => none
theorem callA_eq (x : Option AV) (l : Option (List AV)) : (match x, l with
    | some (.func g captured), some l => if hasBody C.P g then applyCall C (Call C) g (l ++ captured) h else extV C g (l ++ captured) h
    | some (.yield i), some l => Call C (yb C.P + i) l h
    | _, _ => none) = (match x with | some g => callV C h g l | none => none) := by
  cases x with
  | none => rfl
  | some g => unfold callV; cases g <;> cases l <;> rfl
theorem OW_call (f : FuncId) (args : Array Operand) (at_ : Array TypeId) : OW C cf ops (⟨some d, .call { callee := .value (.func f), args := args, argTypes := at_ }, ty, p, af, none⟩ :: l) s h K ↔
    ∃ v h', callV C h (.func f []) (evs s args.toList) = some (v, h') ∧ OW C cf ops l (s.set d v) h' K := by
  have e : opA C (Call C) cf s h ⟨some d, .call { callee := .value (.func f), args := args, argTypes := at_ }, ty, p, af, none⟩ = callV C h (.func f []) (evs s args.toList) := by
    simp only [opA]
    generalize evs s args.toList = z
    cases z <;> rfl
  rw [OW_act rfl, e]; exact Iff.rfl
theorem OW_callT (t : Tmp) (args : Array Operand) (at_ : Array TypeId) : OW C cf ops (⟨some d, .call { callee := .value (.tmp t), args := args, argTypes := at_ }, ty, p, af, none⟩ :: l) s h K ↔
    ∃ v h', callV C h (s.get t) (evs s args.toList) = some (v, h') ∧ OW C cf ops l (s.set d v) h' K := by
  have e : opA C (Call C) cf s h ⟨some d, .call { callee := .value (.tmp t), args := args, argTypes := at_ }, ty, p, af, none⟩ = callV C h (s.get t) (evs s args.toList) := by
    simp only [opA, show ev s (.tmp t) = some (s.get t) from rfl]
    generalize evs s args.toList = z
    generalize s.get t = g
    cases g <;> cases z <;> rfl
  rw [OW_act rfl, e]; exact Iff.rfl
end

/- What is still to be done, as a list: so that nothing but the work at hand is rewritten. -/
inductive It where
  | code (c : Code)
  | blk (id : Nat)
  | again (J : PT → H → Prop)
def KQ (C : Cfg) (cf : FuncId) (R : Ex → PT → H → Prop) : List It → Ex → PT → H → Prop
  | [] => R
  | .code c :: k => thenQ (fun s h => WP C cf c s h (KQ C cf R k)) (KQ C cf R k)
  | .blk id :: k => blockQ id (KQ C cf R k)
  | .again J :: k => thenQ J (KQ C cf R k)
/-- A piece of code, and what follows. -/
def W (C : Cfg) (cf : FuncId) (R : Ex → PT → H → Prop) (c : Code) (k : List It) (s : PT) (h : H) : Prop := WP C cf c s h (KQ C cf R k)
/-- What follows. -/
def N (C : Cfg) (cf : FuncId) (R : Ex → PT → H → Prop) (k : List It) (s : PT) (h : H) : Prop := KQ C cf R k .normal s h
/-- Out of a block. -/
def X (C : Cfg) (cf : FuncId) (R : Ex → PT → H → Prop) (id : Nat) (k : List It) (s : PT) (h : H) : Prop := KQ C cf R k (.exit id) s h
section
variable {C : Cfg} {cf : FuncId} {R : Ex → PT → H → Prop} {k : List It} {s : PT} {h : H}
theorem W_seq (a b : Code) : W C cf R (.seq a b) k s h ↔ W C cf R a (.code b :: k) s h := WP_seq
theorem W_block (id : Nat) (b : Code) : W C cf R (.block id b) k s h ↔ W C cf R b (.blk id :: k) s h := WP_block
theorem W_skip : W C cf R .skip k s h ↔ N C cf R k s h := WP_skip
theorem W_exit (id : Nat) : W C cf R (.exit id) k s h ↔ X C cf R id k s h := WP_exit
theorem KQ_ret : ∀ k : List It, KQ C cf R k .ret s h ↔ R .ret s h := by
  intro k
  induction k with
  | nil => exact Iff.rfl
  | cons x k ih => cases x <;> simpa [KQ] using ih
theorem W_ret : W C cf R .ret k s h ↔ R .ret s h := WP_ret.trans (KQ_ret k)
/-- The value of a test. -/
def TF (v : AV) (p q : Prop) : Prop := match v with
  | .bool true => p
  | .bool false => q
  | _ => False
theorem TF_bool (b : Bool) (p q : Prop) : TF (.bool b) p q ↔ if b = true then p else q := by cases b <;> simp [TF]
theorem W_cond (t : Tmp) (a b : Code) : W C cf R (.cond (.tmp t) a b) k s h ↔ TF (s.get t) (W C cf R a k s h) (W C cf R b k s h) := by
  refine WP_cond.trans ?_
  simp only [ev, Option.some.injEq]
  constructor
  · rintro ⟨x, hx, ht, hf⟩
    rw [hx]
    cases x with
    | true => exact ht rfl
    | false => exact hf rfl
  · intro hx
    unfold TF at hx
    split at hx
    · rename_i e; exact ⟨true, e, fun _ => hx, fun e => by cases e⟩
    · rename_i e; exact ⟨false, e, fun e => (by cases e), fun _ => hx⟩
    · exact hx.elim
theorem W_region (id : Nat) (ops : Array Oper) : W C cf R (.region id ops false) k s h ↔ OW C cf ops ops.toList s h (N C cf R k) := WP_region (by simp) rfl
theorem W_regionD (id : Nat) (ops : Array Oper) (hm : C.mix cf id = false) (ha : anyApp ops.toList = false) : W C cf R (.region id ops true) k s h ↔ OW C cf ops ops.toList s h (N C cf R k) := WP_region (by simp [hm]) (by simp [drawOk, ha])
theorem W_regionA (id : Nat) (ops : Array Oper) (hm : C.mix cf id = false) (hd : drawOk C (Call C) cf ops true s h = true) : W C cf R (.region id ops true) k s h ↔ OW C cf ops ops.toList s h (N C cf R k) := WP_region (by simp [hm]) hd
theorem N_nil : N C cf R [] s h ↔ R .normal s h := Iff.rfl
theorem N_code (c : Code) : N C cf R (.code c :: k) s h ↔ W C cf R c k s h := Iff.rfl
theorem N_blk (id : Nat) : N C cf R (.blk id :: k) s h ↔ N C cf R k s h := Iff.rfl
theorem N_again (J : PT → H → Prop) : N C cf R (.again J :: k) s h ↔ J s h := Iff.rfl
theorem X_nil (id : Nat) : X C cf R id [] s h ↔ R (.exit id) s h := Iff.rfl
theorem X_code (id : Nat) (c : Code) : X C cf R id (.code c :: k) s h ↔ X C cf R id k s h := Iff.rfl
theorem X_blk (id i : Nat) : X C cf R id (.blk i :: k) s h ↔ if id = i then N C cf R k s h else X C cf R id k s h := Iff.rfl
theorem X_again (id : Nat) (J : PT → H → Prop) : X C cf R id (.again J :: k) s h ↔ X C cf R id k s h := Iff.rfl
theorem W_loop {b : Code} (I : Nat → PT → H → Prop) (n : Nat) (h0 : I n s h) (hs : ∀ n s h, I n s h → W C cf R b (.again (fun s h => ∃ m, m < n ∧ I m s h) :: k) s h) : W C cf R (.loop b) k s h :=
  WP_loop I n h0 hs
end
/-- A function's outcome, worked from its first row. -/
theorem CallP_W {C : Cfg} {f : FuncId} {args : List AV} {fn : Func} {c : Code} {v : AV} (hp : C.prim f args [] = none) (hf : C.P.funcs[f]? = some fn) (hb : fn.body = some c) (hok : codeOk C f fn.ntmps false c = true) (hn : args.length ≤ fn.ntmps)
    (hw : ∀ R : Ex → PT → H → Prop, (∀ e s h, (e = .normal ∨ e = .ret) → (∃ r, resultV C.P s h fn.results.toList = some r ∧ snap (freezeAll h) deep r = some v) → R e s h) → W C f R c [] (initS 0 args .leaf) []) : CallP C f args = some v :=
  CallP_of hp hf hb hok hn (hw _ fun _ _ _ he hr => ⟨he, hr⟩)

/- Arithmetic. -/
section
variable {P : Program} {t : TypeId} {x y : Operand} {k : IntKind} {a b : Int}
@[go_sem] theorem bin_add : binV P .add t x y (.int k a) (.int k b) = some (.int k (k.wrap (a + b))) := by simp [binV, toVal, toScalar, pureVal, eqGuard, binOp, Op.intArith, ofConst, ofScalar, bind, Sem.bind, pure]
@[go_sem] theorem bin_sub : binV P .sub t x y (.int k a) (.int k b) = some (.int k (k.wrap (a - b))) := by simp [binV, toVal, toScalar, pureVal, eqGuard, binOp, Op.intArith, ofConst, ofScalar, bind, Sem.bind, pure]
@[go_sem] theorem bin_mul : binV P .mul t x y (.int k a) (.int k b) = some (.int k (k.wrap (a * b))) := by simp [binV, toVal, toScalar, pureVal, eqGuard, binOp, Op.intArith, ofConst, ofScalar, bind, Sem.bind, pure]
theorem bin_quo (hb : b ≠ 0) : binV P .quo t x y (.int k a) (.int k b) = some (.int k (k.wrap (a.tdiv b))) := by simp [binV, toVal, toScalar, pureVal, eqGuard, binOp, Op.intDiv, ofConst, ofScalar, bind, Sem.bind, pure, hb]
theorem bin_rem (hb : b ≠ 0) : binV P .rem t x y (.int k a) (.int k b) = some (.int k (a.tmod b)) := by simp [binV, toVal, toScalar, pureVal, eqGuard, binOp, Op.intDiv, ofConst, ofScalar, bind, Sem.bind, pure, hb]
@[go_sem] theorem bin_eql : binV P .eql t x y (.int k a) (.int k b) = some (.bool (decide (a = b))) := by
  have : (a == b) = decide (a = b) := by by_cases h : a = b <;> simp [h]
  simp [binV, toVal, toScalar, pureVal, eqGuard, binOp, Op.intCmp, ofConst, ofScalar, bind, Sem.bind, pure, this]
@[go_sem] theorem bin_neq : binV P .neq t x y (.int k a) (.int k b) = some (.bool (decide (a ≠ b))) := by
  have : (a != b) = decide (a ≠ b) := by by_cases h : a = b <;> simp [h]
  simp [binV, toVal, toScalar, pureVal, eqGuard, binOp, Op.intCmp, ofConst, ofScalar, bind, Sem.bind, pure, this]
@[go_sem] theorem bin_lss : binV P .lss t x y (.int k a) (.int k b) = some (.bool (decide (a < b))) := by simp [binV, toVal, toScalar, pureVal, eqGuard, binOp, Op.intCmp, ofConst, ofScalar, bind, Sem.bind, pure]
@[go_sem] theorem bin_leq : binV P .leq t x y (.int k a) (.int k b) = some (.bool (decide (a ≤ b))) := by simp [binV, toVal, toScalar, pureVal, eqGuard, binOp, Op.intCmp, ofConst, ofScalar, bind, Sem.bind, pure]
@[go_sem] theorem bin_gtr : binV P .gtr t x y (.int k a) (.int k b) = some (.bool (decide (a > b))) := by simp [binV, toVal, toScalar, pureVal, eqGuard, binOp, Op.intCmp, ofConst, ofScalar, bind, Sem.bind, pure]
@[go_sem] theorem bin_geq : binV P .geq t x y (.int k a) (.int k b) = some (.bool (decide (a ≥ b))) := by simp [binV, toVal, toScalar, pureVal, eqGuard, binOp, Op.intCmp, ofConst, ofScalar, bind, Sem.bind, pure]
theorem wrap_in {n : Int} (h : -9223372036854775808 ≤ n ∧ n ≤ 9223372036854775807) : IntKind.i64.wrap n = n := IntWalk.i64_in _ h
end
end Go.V
