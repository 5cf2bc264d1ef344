/- The rules of the walk, so stated that no more than the work at hand is rewritten. -/
import Derived.Test.YtdoegkegjaadeaaGreatDoorQV19
namespace Go.V
open Go

/-- A step that is always taken: with it in a congruence rule, nothing else of the term is visited. -/
def tick : Nat := 0
def tock : Nat := 0
@[go_sem] theorem tick_tock : tick = tock := (rfl)
/-- A choice, of which only the test is visited. -/
def Ife (c A B : Prop) : Prop := (c → A) ∧ (¬c → B)
@[congr] theorem Ife_congr {c c' A B : Prop} {tk : Nat} (h : c = c') (_ : tick = tk) : Ife c A B = Ife c' A B := by rw [h]
@[go_sem] theorem Ife_true (A B : Prop) : Ife True A B ↔ A := by simp [Ife]
@[go_sem] theorem Ife_false (A B : Prop) : Ife False A B ↔ B := by simp [Ife]
theorem Ife_iff {c A B : Prop} : Ife c A B ↔ (c → A) ∧ (¬c → B) := Iff.rfl
theorem Ife_ite {c : Prop} [Decidable c] {A B : Prop} : (if c then A else B) ↔ Ife c A B := by
  by_cases h : c <;> simp [Ife, h]

/-- Some value, and what holds of it. -/
def bO {α : Type} (x : Option α) (f : α → Prop) : Prop := match x with
  | some a => f a
  | none => False
theorem bO_iff {α : Type} {x : Option α} {f : α → Prop} : bO x f ↔ ∃ a, x = some a ∧ f a := by
  cases x with
  | none => simp [bO]
  | some a => simp [bO]
@[congr] theorem bO_congr {α : Type} {x y : Option α} {f : α → Prop} {tk : Nat} (h : x = y) (_ : tick = tk) : bO x f = bO y f := by rw [h]
@[go_sem] theorem bO_some {α : Type} (a : α) (f : α → Prop) : bO (some a) f ↔ f a := Iff.rfl
/-- Two values. -/
def bi2 {α β γ : Type} (x : Option α) (y : Option β) (g : α → β → Option γ) : Option γ := match x, y with
  | some a, some b => g a b
  | _, _ => none
@[congr] theorem bi2_congr {α β γ : Type} {x x' : Option α} {y y' : Option β} {g : α → β → Option γ} {tk : Nat} (h : x = x') (h' : y = y') (_ : tick = tk) : bi2 x y g = bi2 x' y' g := by rw [h, h']
@[go_sem] theorem bi2_some {α β γ : Type} (a : α) (b : β) (g : α → β → Option γ) : bi2 (some a) (some b) g = g a b := (rfl)
def bi1 {α γ : Type} (x : Option α) (g : α → Option γ) : Option γ := match x with
  | some a => g a
  | none => none
@[congr] theorem bi1_congr {α γ : Type} {x x' : Option α} {g : α → Option γ} {tk : Nat} (h : x = x') (_ : tick = tk) : bi1 x g = bi1 x' g := by rw [h]
@[go_sem] theorem bi1_some {α γ : Type} (a : α) (g : α → Option γ) : bi1 (some a) g = g a := (rfl)

section
variable {C : Cfg} {cf : FuncId} {s : PT} {h : H} {ops : Array Oper} {K : PT → H → Prop} {d : Tmp} {dd : Option Tmp} {ty : TypeId} {p : String} {af : Array Edge} {l : List Oper}

/- Nothing within these is looked at. -/
@[congr] theorem OW_congr {tk : Nat} (_ : tick = tk) : OW C cf ops l s h K = OW C cf ops l s h K := rfl
@[congr] theorem get_congr (t : Tmp) {tk : Nat} (_ : tick = tk) : PT.get s t = PT.get s t := rfl
@[congr] theorem ev_congr0 (x : Operand) {tk : Nat} (_ : tick = tk) : ev s x = ev s x := rfl
@[congr] theorem evs_congr0 (x : List Operand) {tk : Nat} (_ : tick = tk) : evs s x = evs s x := rfl
@[congr] theorem partsV_congr0 (x : List (Nat × Operand)) {tk : Nat} (_ : tick = tk) : partsV s x = partsV s x := rfl
@[congr] theorem W_congr (R : Ex → PT → H → Prop) (c : Code) (k : List It) {tk : Nat} (_ : tick = tk) : W C cf R c k s h = W C cf R c k s h := rfl
@[congr] theorem N_congr (R : Ex → PT → H → Prop) (k : List It) {tk : Nat} (_ : tick = tk) : N C cf R k s h = N C cf R k s h := rfl
@[congr] theorem X_congr (R : Ex → PT → H → Prop) (id : Nat) (k : List It) {tk : Nat} (_ : tick = tk) : X C cf R id k s h = X C cf R id k s h := rfl

/-- The temporary that an operation fills. -/
def dstL : List Oper → Nat → Option Tmp
  | [], _ => none
  | o :: _, 0 => o.dst
  | _ :: l, n + 1 => dstL l n
@[congr] theorem dstL_congr (n : Nat) {tk : Nat} (_ : tick = tk) : dstL l n = dstL l n := rfl
@[go_sem] theorem dstL_zero (dd : Option Tmp) (op : Op) (ty : TypeId) (p : String) (af : Array Edge) (g : Option (Nat × Bool)) : dstL (⟨dd, op, ty, p, af, g⟩ :: l) 0 = dd := (rfl)
@[go_sem] theorem dstL_succ (o : Oper) (n : Nat) : dstL (o :: l) (n + 1) = dstL l n := (rfl)
theorem dstL_eq : ∀ (l : List Oper) (n : Nat), dstL l n = (l[n]?).bind (·.dst) := by
  intro l
  induction l with
  | nil => intro n; simp [dstL]
  | cons o l ih => intro n; cases n <;> simp [dstL, ih]
/-- A guard: the value of the operation that it names. -/
def boolOf : AV → Option Bool
  | .bool b => some b
  | _ => none
def gV (v : AV) (want : Bool) (A B : Prop) : Prop := if boolOf v = some want then A else B
@[congr] theorem gV_congr {v v' : AV} {want : Bool} {A B : Prop} {tk : Nat} (h : v = v') (_ : tick = tk) : gV v want A B = gV v' want A B := by rw [h]
@[go_sem] theorem gV_bool (b want : Bool) (A B : Prop) : gV (.bool b) want A B ↔ Ife (b = want) A B := by rw [← Ife_ite]; simp [gV, boolOf]
@[go_sem] theorem gV_undef (want : Bool) (A B : Prop) : gV AV.undef want A B ↔ B := by simp [gV, boolOf, AV.undef]
def gI (t : Option Tmp) (s : PT) (want : Bool) (A B : Prop) : Prop := match t with
  | some t => gV (s.get t) want A B
  | none => B
@[congr] theorem gI_congr {t t' : Option Tmp} {want : Bool} {A B : Prop} {tk : Nat} (h : t = t') (_ : tick = tk) : gI t s want A B = gI t' s want A B := by rw [h]
@[go_sem] theorem gI_some (t : Tmp) (want : Bool) (A B : Prop) : gI (some t) s want A B ↔ gV (s.get t) want A B := Iff.rfl

theorem yieldedV_dstL (o : List Oper) (j : Nat) : yieldedV o.toArray s j = (match dstL o j with
  | some t => boolOf (s.get t)
  | none => none) := by
  unfold yieldedV
  rw [dstL_eq, List.getElem?_toArray]
  cases (o[j]?).bind fun x => x.dst with
  | none => rfl
  | some t => dsimp only; cases s.get t <;> rfl
@[go_sem] theorem OWG (o : List Oper) (op : Op) (j : Nat) (want : Bool) : OW C cf o.toArray (⟨dd, op, ty, p, af, some (j, want)⟩ :: l) s h K ↔
    gI (dstL o j) s want (OW C cf o.toArray (⟨dd, op, ty, p, af, none⟩ :: l) s h K) (OW C cf o.toArray l (putV s dd AV.undef) h K) := by
  rw [OW_guard, yieldedV_dstL, OW_plain]
  unfold gI
  cases dstL o j with
  | none => simp
  | some t => exact Iff.rfl
theorem OWn {op : Op} {x : Option AV} (he : opN C.P s ⟨some d, op, ty, p, af, none⟩ = x) (ha : active ⟨some d, op, ty, p, af, none⟩ = false) (hl : isLoad ⟨some d, op, ty, p, af, none⟩ = false) :
    OW C cf ops (⟨some d, op, ty, p, af, none⟩ :: l) s h K ↔ bO x fun v => OW C cf ops l (s.set d v) h K := by
  subst he; exact (OW_pureN ha hl).trans bO_iff.symm
theorem bO_pair {x : Option (AV × H)} {f : AV → H → Prop} : (∃ v h', x = some (v, h') ∧ f v h') ↔ bO x fun z => f z.1 z.2 := by
  rw [bO_iff]
  constructor
  · rintro ⟨v, h', e, k⟩; exact ⟨(v, h'), e, k⟩
  · rintro ⟨⟨v, h'⟩, e, k⟩; exact ⟨v, h', e, k⟩
theorem OWa {op : Op} {x : Option (AV × H)} (he : opA C (Call C) cf s h ⟨some d, op, ty, p, af, none⟩ = x) (ha : active ⟨some d, op, ty, p, af, none⟩ = true) :
    OW C cf ops (⟨some d, op, ty, p, af, none⟩ :: l) s h K ↔ bO x fun z => OW C cf ops l (s.set d z.1) z.2 K := by
  subst he; exact (OW_act ha).trans bO_pair
@[go_sem] theorem OWnil : OW C cf ops [] s h K ↔ K s h := OW_nil
@[go_sem] theorem putV_someR (v : AV) : putV s (some d) v = s.set d v := (rfl)
@[go_sem] theorem putV_noneR (v : AV) : putV s none v = s := (rfl)
@[go_sem] theorem OWnilP (v : AV) : OW C cf ops [] (putV s dd v) h K ↔ K (putV s dd v) h := OW_nil
@[go_sem] theorem OWput (o : Oper) (d : Tmp) (v : AV) : OW C cf ops (o :: l) (putV s (some d) v) h K ↔ OW C cf ops (o :: l) (s.set d v) h K := Iff.rfl
@[go_sem] theorem OWmove (x : Operand) : OW C cf ops (⟨some d, .move x, ty, p, af, none⟩ :: l) s h K ↔ bO (ev s x) fun v => OW C cf ops l (s.set d v) h K := OWn rfl rfl rfl
@[go_sem] theorem OWassign (t : Tmp) : OW C cf ops (⟨some d, .assign (.tmp t), ty, p, af, none⟩ :: l) s h K ↔ bO (some (s.get t)) fun v => OW C cf ops l (s.set d v) h K := OW_assign_tmp t
@[go_sem] theorem OWassign_int (k : IntKind) (n : Int) : OW C cf ops (⟨some d, .assign (.const (.int k n)), ty, p, af, none⟩ :: l) s h K ↔ OW C cf ops l (s.set d (.int k n)) h K := OW_assign_int k n
@[go_sem] theorem OWassign_bool (b : Bool) : OW C cf ops (⟨some d, .assign (.const (.bool b)), ty, p, af, none⟩ :: l) s h K ↔ OW C cf ops l (s.set d (.bool b)) h K := OW_assign_bool b
@[go_sem] theorem OWassign_nil : OW C cf ops (⟨some d, .assign (.const (.slice none 0 0)), ty, p, af, none⟩ :: l) s h K ↔ Ife (C.wr cf d = true) (OW C cf ops l (s.set d (.isl [] .full)) h K) (bO (isSliceT C.P ty) fun e => OW C cf ops l (s.set d (.isl [] (.tok h.length))) (h ++ [.tok 0 e]) K) := by
  rw [OW_assign_nil, ← Ife_ite, bO_iff]
@[go_sem] theorem OWbin (op : BinOp) (t t2 : TypeId) (x y : Operand) : OW C cf ops (⟨some d, .binOp op t x y t2, ty, p, af, none⟩ :: l) s h K ↔ bO (bi2 (ev s x) (ev s y) (binV C.P op t x y)) fun v => OW C cf ops l (s.set d v) h K := OWn (by simp only [opN, bi2]; cases ev s x <;> cases ev s y <;> rfl) rfl rfl
/-- A choice. -/
def pickV (c : AV) (x y : Option AV) : Option AV := match c with
  | .bool true => x
  | .bool false => y
  | _ => none
@[congr] theorem pickV_congr {c c' : AV} {x y : Option AV} {tk : Nat} (h : c = c') (_ : tick = tk) : pickV c x y = pickV c' x y := by rw [h]
@[go_sem] theorem pickV_bool (b : Bool) (x y : Option AV) : pickV (.bool b) x y = if b = true then x else y := by cases b <;> rfl
@[go_sem] theorem OWpick (c x y : Operand) : OW C cf ops (⟨some d, .pick c x y, ty, p, af, none⟩ :: l) s h K ↔ bO (bi1 (ev s c) fun c => pickV c (ev s x) (ev s y)) fun v => OW C cf ops l (s.set d v) h K := OWn (by simp only [opN, bi1, pickV]; cases ev s c <;> first | rfl | (rename_i c; cases c <;> first | rfl | (rename_i b; cases b <;> rfl))) rfl rfl
@[go_sem] theorem OWindexAddr (t : TypeId) (x i : Operand) : OW C cf ops (⟨some d, .indexAddr t x i, ty, p, af, none⟩ :: l) s h K ↔ bO (bi2 (ev s x) (ev s i) (indexAddrV C.P t)) fun v => OW C cf ops l (s.set d v) h K := OWn (by simp only [opN, bi2]; cases ev s x <;> cases ev s i <;> rfl) rfl rfl
@[go_sem] theorem OWfieldAddr (t : TypeId) (x : Operand) (f : Nat) : OW C cf ops (⟨some d, .fieldAddr t x f, ty, p, af, none⟩ :: l) s h K ↔ bO (bi1 (ev s x) fun a => fieldAddrV C.P t a f) fun v => OW C cf ops l (s.set d v) h K := OWn (by simp only [opN, bi1]; cases ev s x <;> rfl) rfl rfl
def exV (v : AV) (i : Nat) : Option AV := match v with
  | .tuple l => l[i]?
  | _ => none
@[go_sem] theorem exV_tuple (l : List AV) (i : Nat) : exV (.tuple l) i = l[i]? := (rfl)
@[go_sem] theorem OWextract (x : Operand) (i : Nat) : OW C cf ops (⟨some d, .extract x i, ty, p, af, none⟩ :: l) s h K ↔ bO (bi1 (ev s x) fun v => exV v i) fun v => OW C cf ops l (s.set d v) h K := OWn (by simp only [opN, bi1, exV]; cases ev s x <;> first | rfl | (rename_i c; cases c <;> rfl)) rfl rfl
@[go_sem] theorem OWslice (t : TypeId) (x : Operand) (lo hi mx : Option Operand) : OW C cf ops (⟨some d, .slice t x lo hi mx, ty, p, af, none⟩ :: l) s h K ↔ bO (opN C.P s ⟨some d, .slice t x lo hi mx, ty, p, af, none⟩) fun v => OW C cf ops l (s.set d v) h K := OWn rfl rfl rfl
@[go_sem] theorem OWlen (t : TypeId) (x : Operand) : OW C cf ops (⟨some d, .call { callee := .builtin .len, args := #[x], argTypes := #[t] }, ty, p, af, none⟩ :: l) s h K ↔ bO (bi1 (ev s x) (lenV C.P t)) fun v => OW C cf ops l (s.set d v) h K := OWn (by simp only [opN, bi1]; cases ev s x <;> rfl) rfl rfl
@[go_sem] theorem OWun (op : UnOp) (t : TypeId) (x : Operand) : OW C cf ops (⟨some d, .unOp op t x, ty, p, af, none⟩ :: l) s h K ↔ bO (bi1 (ev s x) (unV C.P op)) fun v => OW C cf ops l (s.set d v) h K := OWn (by simp only [opN, bi1]; cases ev s x <;> rfl) rfl rfl
@[go_sem] theorem un_not (P : Program) (b : Bool) : unV P .not (.bool b) = some (.bool !b) := by cases b <;> rfl
@[go_sem] theorem OWload (t : TypeId) (x : Operand) : OW C cf ops (⟨some d, .load t x, ty, p, af, none⟩ :: l) s h K ↔ bO (bi1 (ev s x) (loadV C.P h t)) fun v => OW C cf ops l (s.set d v) h K := by
  rw [OW_load, bO_iff]
  constructor
  · rintro ⟨a, ha, v, hv, hk⟩; exact ⟨v, by rw [ha]; exact hv, hk⟩
  · rintro ⟨v, hv, hk⟩
    cases ha : ev s x with
    | none => rw [ha] at hv; cases hv
    | some a => rw [ha] at hv; exact ⟨a, rfl, v, hv, hk⟩
@[go_sem] theorem OWstore (t : TypeId) (a x : Operand) : OW C cf ops (⟨none, .store t a x, ty, p, af, none⟩ :: l) s h K ↔ bO (bi2 (ev s a) (ev s x) (storeV C.P h t)) fun h' => OW C cf ops l s h' K := by
  rw [OW_store, bO_iff]
  constructor
  · rintro ⟨q, v, h', hq, hv, hs, hk⟩; exact ⟨h', by rw [hq, hv]; exact hs, hk⟩
  · rintro ⟨h', hs, hk⟩
    cases hq : ev s a with
    | none => rw [hq] at hs; cases hs
    | some q => cases hv : ev s x with
      | none => rw [hq, hv] at hs; cases hs
      | some v => rw [hq, hv] at hs; exact ⟨q, v, h', rfl, rfl, hs, hk⟩
def boxV (P : Program) (h : H) (t : TypeId) (a : AV) : Option (AV × H) := match sizeV P t with
  | some n => if a.cells.length = n ∧ notTuple a then some (.ptr h.length 0, h ++ [.cells a.cells .live]) else none
  | none => none
@[go_sem] theorem OWbox (t : TypeId) (x : Operand) : OW C cf ops (⟨some d, .box t x, ty, p, af, none⟩ :: l) s h K ↔ bO (bi1 (ev s x) (boxV C.P h t)) fun z => OW C cf ops l (s.set d z.1) z.2 K := OWa (by simp only [opA, bi1, boxV]; cases ev s x <;> cases sizeV C.P t <;> rfl) rfl
@[go_sem] theorem OWalloc (t : TypeId) : OW C cf ops (⟨some d, .alloc t, ty, p, af, none⟩ :: l) s h K ↔ bO (zeroV C.P t) fun a => OW C cf ops l (s.set d (.ptr h.length 0)) (h ++ [.cells a.cells .live]) K := by
  rw [OW_act rfl, bO_iff]
  simp only [opA, putV_some]
  constructor
  · rintro ⟨v, h', hv, hk⟩
    split at hv <;> first | (cases hv; done) | skip
    rename_i a ha
    simp only [Option.some.injEq, Prod.mk.injEq] at hv; obtain ⟨rfl, rfl⟩ := hv
    exact ⟨a, ha, hk⟩
  · rintro ⟨a, ha, hk⟩
    exact ⟨_, _, by rw [ha], hk⟩
@[go_sem] theorem OWmakeSlice (t : TypeId) (x y : Operand) : OW C cf ops (⟨some d, .makeSlice t x y, ty, p, af, none⟩ :: l) s h K ↔ bO (bi2 (ev s x) (ev s y) (makeSliceV C.P (C.wr cf d) h t)) fun z => OW C cf ops l (s.set d z.1) z.2 K := OWa (by simp only [opA, bi2]; cases ev s x <;> cases ev s y <;> rfl) rfl
@[go_sem] theorem OWbuildSlice (t : TypeId) (n : Nat) (parts : List (Nat × Operand)) : OW C cf ops (⟨some d, .buildSlice t n parts.toArray, ty, p, af, none⟩ :: l) s h K ↔ bO (bi1 (partsV s parts) (buildSliceV C.P h t n)) fun z => OW C cf ops l (s.set d z.1) z.2 K := OWa (by simp only [opA, bi1]; cases partsV s parts <;> rfl) rfl
@[go_sem] theorem OWappend (t : TypeId) (x y : Operand) : OW C cf ops (⟨some d, .call { callee := .builtin .append, args := #[x, y], argTypes := #[t, t] }, ty, p, af, none⟩ :: l) s h K ↔ bO (bi2 (ev s x) (ev s y) (appendW C.P (C.wr cf d) h t)) fun z => OW C cf ops l (s.set d z.1) z.2 K := OWa (by simp only [opA, bi2, if_true]; cases ev s x <;> cases ev s y <;> rfl) rfl
@[go_sem] theorem OWcall (f : FuncId) (args : List Operand) (at_ : Array TypeId) : OW C cf ops (⟨some d, .call { callee := .value (.func f), args := args.toArray, argTypes := at_ }, ty, p, af, none⟩ :: l) s h K ↔
    bO (bi1 (evs s args) fun as => callV C h (.func f []) (some as)) fun z => OW C cf ops l (s.set d z.1) z.2 K := by
  rw [OW_call, bO_iff]
  constructor
  · rintro ⟨v, h', hv, hk⟩
    cases he : evs s args with
    | none => rw [he] at hv; cases hv
    | some as => rw [he] at hv; exact ⟨(v, h'), hv, hk⟩
  · rintro ⟨⟨v, h'⟩, hv, hk⟩
    cases he : evs s args with
    | none => rw [he] at hv; cases hv
    | some as => rw [he] at hv; exact ⟨v, h', hv, hk⟩
@[go_sem] theorem OWcallT (t : Tmp) (args : List Operand) (at_ : Array TypeId) : OW C cf ops (⟨some d, .call { callee := .value (.tmp t), args := args.toArray, argTypes := at_ }, ty, p, af, none⟩ :: l) s h K ↔
    bO (bi1 (evs s args) fun as => callV C h (s.get t) (some as)) fun z => OW C cf ops l (s.set d z.1) z.2 K := by
  rw [OW_callT, bO_iff]
  constructor
  · rintro ⟨v, h', hv, hk⟩
    cases he : evs s args with
    | none => rw [he] at hv; unfold callV at hv; split at hv <;> first | (cases hv; done) | (rename_i e; cases e)
    | some as => rw [he] at hv; exact ⟨(v, h'), hv, hk⟩
  · rintro ⟨⟨v, h'⟩, hv, hk⟩
    cases he : evs s args with
    | none => rw [he] at hv; cases hv
    | some as => rw [he] at hv; exact ⟨v, h', hv, hk⟩
attribute [go_sem] ev_tmp ev_int ev_bool ev_str ev_nilslice ev_nilptr ev_func evs_nil
@[go_sem] theorem evsR (x : Operand) (r : List Operand) : evs s (x :: r) = bi2 (ev s x) (evs s r) fun a l => some (a :: l) := by
  simp only [evs, bi2]; cases ev s x <;> cases evs s r <;> rfl
@[go_sem] theorem partsR_nil : partsV s [] = some [] := (rfl)
@[go_sem] theorem partsR (i : Nat) (x : Operand) (r : List (Nat × Operand)) : partsV s ((i, x) :: r) = bi2 (ev s x) (partsV s r) fun a l => if notTuple a then some ((i, a) :: l) else none := by
  simp only [partsV, bi2]; cases ev s x <;> cases partsV s r <;> rfl

@[go_sem] theorem initS_get_cons (i : Nat) (v : AV) (r : List AV) (s : PT) (t : Tmp) : (initS i (v :: r) s).get t = (initS (i + 1) r (s.set i v)).get t := (rfl)
@[go_sem] theorem initS_get_nil (i : Nat) (s : PT) (t : Tmp) : (initS i [] s).get t = s.get t := (rfl)
@[go_sem] theorem leaf_get (t : Tmp) : PT.leaf.get t = AV.undef := by cases t <;> rfl

/- The code. -/
variable {R : Ex → PT → H → Prop} {k : List It}
@[congr] theorem TF_congr {v v' : AV} {A B : Prop} {tk : Nat} (h : v = v') (_ : tick = tk) : TF v A B = TF v' A B := by rw [h]
attribute [go_sem] W_seq W_block W_skip W_exit W_ret W_cond N_nil N_code N_blk N_again X_nil X_code X_blk X_again
@[go_sem] theorem Wregion (id : Nat) (o : List Oper) : W C cf R (.region id o.toArray false) k s h ↔ OW C cf o.toArray o s h (N C cf R k) := W_region id o.toArray
@[congr] theorem anyApp_congr {tk : Nat} (_ : tick = tk) : anyApp l = anyApp l := rfl
@[go_sem] theorem TF_ife (b : Bool) (p q : Prop) : TF (.bool b) p q ↔ Ife (b = true) p q := by cases b <;> simp [TF, Ife]
@[go_sem] theorem anyApp_nil : anyApp [] = false := (rfl)
@[go_sem] theorem anyApp_cons (dd : Option Tmp) (op : Op) (ty : TypeId) (p : String) (af : Array Edge) (g : Option (Nat × Bool)) : anyApp (⟨dd, op, ty, p, af, g⟩ :: l) = (isApp ⟨none, op, 0, p, #[], none⟩ || anyApp l) := (rfl)
attribute [go_sem] isApp
@[go_sem] theorem WregionD (id : Nat) (o : List Oper) (hm : C.mix cf id = false) (ha : anyApp o = false) : W C cf R (.region id o.toArray true) k s h ↔ OW C cf o.toArray o s h (N C cf R k) := W_regionD id o.toArray hm ha
end
end Go.V
