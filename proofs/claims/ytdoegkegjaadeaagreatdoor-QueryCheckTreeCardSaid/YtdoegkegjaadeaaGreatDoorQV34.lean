/- Guarded operations without a split: a slot holds a value if a test holds. -/
import Derived.Test.YtdoegkegjaadeaaGreatDoorQV25
namespace Go.V
open Go
/-- A value that is there if b. -/
def ifV (b : Bool) (v : AV) : AV := if b = true then v else AV.undef
@[go_sem] theorem ifV_true (v : AV) : ifV true v = v := (rfl)
@[go_sem] theorem ifV_false (v : AV) : ifV false v = AV.undef := (rfl)
@[go_sem] theorem ifV_on {b : Bool} (h : b = true) (v : AV) : ifV b v = v := by subst h; rfl
theorem ifV_ifV (b c : Bool) (v : AV) : ifV b (ifV c v) = ifV (b && c) v := by cases b <;> cases c <;> rfl
/-- What a guarded operation comes to. -/
def bG (b : Bool) (x : Option AV) (f : AV → Prop) : Prop := bO (if b = true then x else some AV.undef) f
@[congr] theorem bG_congr {b b' : Bool} {x y : Option AV} {f : AV → Prop} {tk : Nat} (hb : b = b') (h : b' = true → x = y) (_ : tick = tk) : bG b x f = bG b' y f := by
  subst hb
  cases b with
  | true => rw [h rfl]
  | false => rfl
@[go_sem] theorem bG_some (b : Bool) (v : AV) (f : AV → Prop) : bG b (some v) f ↔ f (ifV b v) := by cases b <;> rfl
@[go_sem] theorem bG_true (x : Option AV) (f : AV → Prop) : bG true x f ↔ bO x f := Iff.rfl
@[go_sem] theorem bG_false (x : Option AV) (f : AV → Prop) : bG false x f ↔ f AV.undef := Iff.rfl
def guardB (v : AV) (want : Bool) : Bool := boolOf v == some want
@[go_sem] theorem guardB_t (b : Bool) : guardB (.bool b) true = b := by cases b <;> rfl
/-- Not, left as it stands. -/
def nb (b : Bool) : Bool := !b
@[go_sem] theorem guardB_f (b : Bool) : guardB (.bool b) false = nb b := by cases b <;> rfl
@[go_sem] theorem nb_true : nb true = false := (rfl)
@[go_sem] theorem nb_false : nb false = true := (rfl)
@[go_sem] theorem guardB_undef (want : Bool) : guardB AV.undef want = false := by cases want <;> rfl
@[go_sem] theorem guardB_if (b : Bool) (v : AV) (want : Bool) : guardB (ifV b v) want = (b && guardB v want) := by cases b <;> cases want <;> rfl
/-- A value guarded by a slot. -/
def gP (t : Option Tmp) (s : PT) (want : Bool) (x : Option AV) (f : AV → Prop) : Prop := match t with
  | some t => bG (guardB (s.get t) want) x f
  | none => f AV.undef
@[congr] theorem gP_congr {t t' : Option Tmp} {s : PT} {want : Bool} {x : Option AV} {f : AV → Prop} {tk : Nat} (h : t = t') (_ : tick = tk) : gP t s want x f = gP t' s want x f := by rw [h]
@[go_sem] theorem gP_some (t : Tmp) (s : PT) (want : Bool) (x : Option AV) (f : AV → Prop) : gP (some t) s want x f ↔ bG (guardB (s.get t) want) x f := Iff.rfl
/-- What a guarded call comes to. -/
def bGH (b : Bool) (h : H) (x : Option (AV × H)) (f : AV → H → Prop) : Prop := bO (if b = true then x else some (AV.undef, h)) fun z => f z.1 z.2
@[congr] theorem bGH_congr {b b' : Bool} {h : H} {x y : Option (AV × H)} {f : AV → H → Prop} {tk : Nat} (hb : b = b') (hx : b' = true → x = y) (_ : tick = tk) : bGH b h x f = bGH b' h y f := by
  subst hb
  cases b with
  | true => rw [hx rfl]
  | false => rfl
@[go_sem] theorem bGH_some (b : Bool) (h : H) (v : AV) (f : AV → H → Prop) : bGH b h (some (v, h)) f ↔ f (ifV b v) h := by cases b <;> rfl
@[go_sem] theorem bGH_true (h : H) (x : Option (AV × H)) (f : AV → H → Prop) : bGH true h x f ↔ bO x fun z => f z.1 z.2 := Iff.rfl
@[go_sem] theorem bGH_false (h : H) (x : Option (AV × H)) (f : AV → H → Prop) : bGH false h x f ↔ f AV.undef h := Iff.rfl
def gPH (t : Option Tmp) (s : PT) (want : Bool) (h : H) (x : Option (AV × H)) (f : AV → H → Prop) : Prop := match t with
  | some t => bGH (guardB (s.get t) want) h x f
  | none => f AV.undef h
@[congr] theorem gPH_congr {t t' : Option Tmp} {s : PT} {want : Bool} {h : H} {x : Option (AV × H)} {f : AV → H → Prop} {tk : Nat} (hh : t = t') (_ : tick = tk) : gPH t s want h x f = gPH t' s want h x f := by rw [hh]
@[go_sem] theorem gPH_some (t : Tmp) (s : PT) (want : Bool) (h : H) (x : Option (AV × H)) (f : AV → H → Prop) : gPH (some t) s want h x f ↔ bGH (guardB (s.get t) want) h x f := Iff.rfl
/-- A choice of values. -/
def selV (b : Bool) (u v : AV) : AV := if b = true then u else v
@[go_sem] theorem selV_or (b : Bool) (u v : AV) : selV b u (ifV (nb b) v) = selV b u v := by cases b <;> rfl
@[go_sem] theorem selV_and (b : Bool) (u v : AV) : selV b (ifV b u) v = selV b u v := by cases b <;> rfl
@[go_sem] theorem selV_t (b q : Bool) : selV b (.bool true) (.bool q) = .bool (b || q) := by cases b <;> rfl
@[go_sem] theorem selV_f (b p : Bool) : selV b (.bool p) (.bool false) = .bool (b && p) := by cases b <;> cases p <;> rfl
@[go_sem] theorem selV_true (u v : AV) : selV true u v = u := (rfl)
@[go_sem] theorem selV_false (u v : AV) : selV false u v = v := (rfl)
def selP (c u v : AV) : Option AV := match c with
  | .bool b => some (selV b u v)
  | _ => none
@[go_sem] theorem selP_bool (b : Bool) (u v : AV) : selP (.bool b) u v = some (selV b u v) := (rfl)
section
variable {C : Cfg} {cf : FuncId} {s : PT} {h : H} {K : PT → H → Prop} {d : Tmp} {ty : TypeId} {p : String} {af : Array Edge} {l : List Oper}
theorem OWpure {o : List Oper} {op : Op} {j : Nat} {want : Bool} {x : Option AV} (hv : ∀ v, opV C (Call C) cf s h ⟨some d, op, ty, p, af, none⟩ = some (v, h) ↔ x = some v) (hn : ∀ v h', opV C (Call C) cf s h ⟨some d, op, ty, p, af, none⟩ = some (v, h') → h' = h) :
    OW C cf o.toArray (⟨some d, op, ty, p, af, some (j, want)⟩ :: l) s h K ↔ gP (dstL o j) s want x fun v => OW C cf o.toArray l (s.set d v) h K := by
  rw [OWG]
  unfold gI gP
  cases dstL o j with
  | none => exact Iff.rfl
  | some t =>
    dsimp only
    unfold gV bG guardB
    by_cases hb : boolOf (s.get t) = some want
    · rw [if_pos hb, if_pos (by simp [hb]), OW_plain, bO_iff]
      constructor
      · rintro ⟨v, h', e, k⟩
        have := hn v h' e
        subst this
        exact ⟨v, (hv v).1 e, k⟩
      · rintro ⟨v, e, k⟩
        exact ⟨v, h, (hv v).2 e, k⟩
    · rw [if_neg hb, if_neg (by simpa using hb)]
      exact Iff.rfl
theorem OWpureN {o : List Oper} {op : Op} {j : Nat} {want : Bool} {x : Option AV} (he : opN C.P s ⟨some d, op, ty, p, af, none⟩ = x) (ha : active ⟨some d, op, ty, p, af, none⟩ = false) (hl : isLoad ⟨some d, op, ty, p, af, none⟩ = false) :
    OW C cf o.toArray (⟨some d, op, ty, p, af, some (j, want)⟩ :: l) s h K ↔ gP (dstL o j) s want x fun v => OW C cf o.toArray l (s.set d v) h K := by
  refine OWpure (fun v => ?_) (fun v h' e => ?_)
  · rw [opV_pure ha hl, he]; cases x <;> simp
  · rw [opV_pure ha hl, he] at e
    cases x with
    | none => cases e
    | some y => simp only [Option.some.injEq, Prod.mk.injEq] at e; exact e.2.symm
@[go_sem high] theorem GPmove (o : List Oper) (j : Nat) (want : Bool) (x : Operand) : OW C cf o.toArray (⟨some d, .move x, ty, p, af, some (j, want)⟩ :: l) s h K ↔ gP (dstL o j) s want (ev s x) fun v => OW C cf o.toArray l (s.set d v) h K := OWpureN rfl rfl rfl
@[go_sem high] theorem GPbin (o : List Oper) (j : Nat) (want : Bool) (op : BinOp) (t t2 : TypeId) (x y : Operand) : OW C cf o.toArray (⟨some d, .binOp op t x y t2, ty, p, af, some (j, want)⟩ :: l) s h K ↔ gP (dstL o j) s want (bi2 (ev s x) (ev s y) (binV C.P op t x y)) fun v => OW C cf o.toArray l (s.set d v) h K :=
  OWpureN (by simp only [opN, bi2]; cases ev s x <;> cases ev s y <;> rfl) rfl rfl
@[go_sem high] theorem GPun (o : List Oper) (j : Nat) (want : Bool) (op : UnOp) (t : TypeId) (x : Operand) : OW C cf o.toArray (⟨some d, .unOp op t x, ty, p, af, some (j, want)⟩ :: l) s h K ↔ gP (dstL o j) s want (bi1 (ev s x) (unV C.P op)) fun v => OW C cf o.toArray l (s.set d v) h K :=
  OWpureN (by simp only [opN, bi1]; cases ev s x <;> rfl) rfl rfl
theorem pick_eq {c x y : Operand} {cv u v : AV} (hc : ev s c = some cv) (hx : ev s x = some u) (hy : ev s y = some v) : opN C.P s ⟨some d, .pick c x y, ty, p, af, none⟩ = selP cv u v := by
  simp only [opN, hc, selP, selV]
  cases cv with
  | bool b => cases b <;> simp [hx, hy]
  | _ => rfl
@[go_sem high] theorem PPtt (o : Array Oper) (c x y : Tmp) : OW C cf o (⟨some d, .pick (.tmp c) (.tmp x) (.tmp y), ty, p, af, none⟩ :: l) s h K ↔ bO (selP (s.get c) (s.get x) (s.get y)) fun v => OW C cf o l (s.set d v) h K := OWn (pick_eq rfl rfl rfl) rfl rfl
@[go_sem high] theorem PPtb (o : Array Oper) (c x : Tmp) (q : Bool) : OW C cf o (⟨some d, .pick (.tmp c) (.tmp x) (.const (.bool q)), ty, p, af, none⟩ :: l) s h K ↔ bO (selP (s.get c) (s.get x) (.bool q)) fun v => OW C cf o l (s.set d v) h K := OWn (pick_eq rfl rfl rfl) rfl rfl
@[go_sem high] theorem PPbt (o : Array Oper) (c y : Tmp) (q : Bool) : OW C cf o (⟨some d, .pick (.tmp c) (.const (.bool q)) (.tmp y), ty, p, af, none⟩ :: l) s h K ↔ bO (selP (s.get c) (.bool q) (s.get y)) fun v => OW C cf o l (s.set d v) h K := OWn (pick_eq rfl rfl rfl) rfl rfl
@[go_sem high] theorem GPtt (o : List Oper) (j : Nat) (want : Bool) (c x y : Tmp) : OW C cf o.toArray (⟨some d, .pick (.tmp c) (.tmp x) (.tmp y), ty, p, af, some (j, want)⟩ :: l) s h K ↔ gP (dstL o j) s want (selP (s.get c) (s.get x) (s.get y)) fun v => OW C cf o.toArray l (s.set d v) h K := OWpureN (pick_eq rfl rfl rfl) rfl rfl
@[go_sem high] theorem GPtb (o : List Oper) (j : Nat) (want : Bool) (c x : Tmp) (q : Bool) : OW C cf o.toArray (⟨some d, .pick (.tmp c) (.tmp x) (.const (.bool q)), ty, p, af, some (j, want)⟩ :: l) s h K ↔ gP (dstL o j) s want (selP (s.get c) (s.get x) (.bool q)) fun v => OW C cf o.toArray l (s.set d v) h K := OWpureN (pick_eq rfl rfl rfl) rfl rfl
@[go_sem high] theorem GPbt (o : List Oper) (j : Nat) (want : Bool) (c y : Tmp) (q : Bool) : OW C cf o.toArray (⟨some d, .pick (.tmp c) (.const (.bool q)) (.tmp y), ty, p, af, some (j, want)⟩ :: l) s h K ↔ gP (dstL o j) s want (selP (s.get c) (.bool q) (s.get y)) fun v => OW C cf o.toArray l (s.set d v) h K := OWpureN (pick_eq rfl rfl rfl) rfl rfl
@[go_sem high] theorem GPindexAddr (o : List Oper) (j : Nat) (want : Bool) (t : TypeId) (x i : Operand) : OW C cf o.toArray (⟨some d, .indexAddr t x i, ty, p, af, some (j, want)⟩ :: l) s h K ↔ gP (dstL o j) s want (bi2 (ev s x) (ev s i) (indexAddrV C.P t)) fun v => OW C cf o.toArray l (s.set d v) h K :=
  OWpureN (by simp only [opN, bi2]; cases ev s x <;> cases ev s i <;> rfl) rfl rfl
@[go_sem high] theorem GPindex (o : List Oper) (j : Nat) (want : Bool) (t : TypeId) (x i : Operand) : OW C cf o.toArray (⟨some d, .index t x i, ty, p, af, some (j, want)⟩ :: l) s h K ↔ gP (dstL o j) s want (bi2 (ev s x) (ev s i) (indexV C.P t)) fun v => OW C cf o.toArray l (s.set d v) h K :=
  OWpureN (by simp only [opN, bi2]; cases ev s x <;> cases ev s i <;> rfl) rfl rfl
@[go_sem high] theorem GPfieldAddr (o : List Oper) (j : Nat) (want : Bool) (t : TypeId) (x : Operand) (f : Nat) : OW C cf o.toArray (⟨some d, .fieldAddr t x f, ty, p, af, some (j, want)⟩ :: l) s h K ↔ gP (dstL o j) s want (bi1 (ev s x) fun a => fieldAddrV C.P t a f) fun v => OW C cf o.toArray l (s.set d v) h K :=
  OWpureN (by simp only [opN, bi1]; cases ev s x <;> rfl) rfl rfl
@[go_sem high] theorem GPextract (o : List Oper) (j : Nat) (want : Bool) (x : Operand) (i : Nat) : OW C cf o.toArray (⟨some d, .extract x i, ty, p, af, some (j, want)⟩ :: l) s h K ↔ gP (dstL o j) s want (bi1 (ev s x) fun v => exV v i) fun v => OW C cf o.toArray l (s.set d v) h K :=
  OWpureN (by simp only [opN, bi1, exV]; cases ev s x <;> first | rfl | (rename_i c; cases c <;> rfl)) rfl rfl
@[go_sem high] theorem GPlen (o : List Oper) (j : Nat) (want : Bool) (t : TypeId) (x : Operand) : OW C cf o.toArray (⟨some d, .call { callee := .builtin .len, args := #[x], argTypes := #[t] }, ty, p, af, some (j, want)⟩ :: l) s h K ↔ gP (dstL o j) s want (bi1 (ev s x) (lenV C.P t)) fun v => OW C cf o.toArray l (s.set d v) h K :=
  OWpureN (by simp only [opN, bi1]; cases ev s x <;> rfl) rfl rfl
@[go_sem high] theorem GPload (o : List Oper) (j : Nat) (want : Bool) (t : TypeId) (x : Operand) : OW C cf o.toArray (⟨some d, .load t x, ty, p, af, some (j, want)⟩ :: l) s h K ↔ gP (dstL o j) s want (bi1 (ev s x) (loadV C.P h t)) fun v => OW C cf o.toArray l (s.set d v) h K := by
  have e : opV C (Call C) cf s h ⟨some d, .load t x, ty, p, af, none⟩ = (match bi1 (ev s x) (loadV C.P h t) with | some v => some (v, h) | none => none) := by
    rw [opV_load rfl]
    cases ev s x <;> rfl
  refine OWpure (fun v => ?_) (fun v h' hh => ?_)
  · rw [e]; cases bi1 (ev s x) (loadV C.P h t) <;> simp
  · rw [e] at hh
    cases hx : bi1 (ev s x) (loadV C.P h t) with
    | none => rw [hx] at hh; cases hh
    | some y => rw [hx] at hh; simp only [Option.some.injEq, Prod.mk.injEq] at hh; exact hh.2.symm
@[go_sem high] theorem GPcall (o : List Oper) (j : Nat) (want : Bool) (f : FuncId) (args : List Operand) (at_ : Array TypeId) :
    OW C cf o.toArray (⟨some d, .call { callee := .value (.func f), args := args.toArray, argTypes := at_ }, ty, p, af, some (j, want)⟩ :: l) s h K ↔ gPH (dstL o j) s want h (bi1 (evs s args) fun as => callV C h (.func f []) (some as)) fun v h' => OW C cf o.toArray l (s.set d v) h' K := by
  rw [OWG]
  unfold gI gPH
  cases dstL o j with
  | none => exact Iff.rfl
  | some t =>
    dsimp only
    unfold gV bGH guardB
    by_cases hb : boolOf (s.get t) = some want
    · rw [if_pos hb, if_pos (by simp [hb])]
      exact OWcall f args at_
    · rw [if_neg hb, if_neg (by simpa using hb)]
      exact Iff.rfl
@[go_sem 20000] theorem OWputH (o : Array Oper) (x : Oper) (v : AV) : OW C cf o (x :: l) (putV s (some d) v) h K ↔ OW C cf o (x :: l) (s.set d v) h K := Iff.rfl
@[go_sem] theorem OWmax (o : Array Oper) (args : List Operand) (at_ : Array TypeId) : OW C cf o (⟨some d, .call { callee := .builtin .max, args := args.toArray, argTypes := at_ }, ty, p, af, none⟩ :: l) s h K ↔ bO (bi1 (evs s args) (minmaxV C.P true)) fun v => OW C cf o l (s.set d v) h K :=
  OWn (by simp only [opN, bi1]; cases evs s args <;> rfl) rfl rfl
end
end Go.V
