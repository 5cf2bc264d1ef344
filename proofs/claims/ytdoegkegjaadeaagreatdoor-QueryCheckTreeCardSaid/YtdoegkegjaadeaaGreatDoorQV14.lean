/- Regions: in the order of the text; and in whatever order is drawn. -/
import Derived.Test.YtdoegkegjaadeaaGreatDoorQV13
namespace Go.V
open Go

section
variable {P : Program} {B : Nat} {A0 : Nat → Nat → Prop} {σ : List (Option Nat)} {h : H} {w : World} {n : Nat} {s : PT} {a : Act} {ro : Option Nat} {nd : Nat}

theorem SRel.put {A : Nat → Nat → Prop} (hs : SRel P A σ h w n s a.tmps) {d : Option Tmp} {r : AV} {v : Value} (hd : ∀ t, d = some t → t < n) (r_ : Rel P A σ h w r v) : SRel P A σ h w n (putV s d r) (a.put d v).tmps := by
  cases d with
  | none => exact hs
  | some t =>
    obtain ⟨h1, h2⟩ := hs
    refine ⟨by simp [Act.put, h1], fun m => ?_⟩
    have ht := hd t rfl
    simp only [putV, PT.get_set, Act.put]
    by_cases e : m = t
    · subst e
      rw [if_pos rfl]
      simp [Array.getD, h1, ht]; exact r_
    · rw [if_neg e]
      have := h2 m
      simp only [Array.getD_eq_getD_getElem?] at this ⊢
      rw [Array.getElem?_setIfInBounds_ne (fun k => e k.symm)]
      exact this
theorem SRel.step [DFlag] {σ' : List (Option Nat)} {h' : H} {w' : World} (st : Step P B A0 σ h w σ' h' w') (hs : SRel P (Alw P B A0 σ h) σ h w n s a.tmps) : SRel P (Alw P B A0 σ' h') σ' h' w' n s a.tmps :=
  ⟨hs.1, fun t => (hs.2 t).step st⟩
theorem put_defers (a : Act) (d : Option Tmp) (v : Value) : (a.put d v).defers = a.defers := by cases d <;> rfl
theorem undef_rel {A : Nat → Nat → Prop} : Rel P A σ h w AV.undef undef := .data (.tuple (vs := #[]) rfl (by simp))

theorem rel_is_bool {A : Nat → Nat → Prop} {c : AV} {b : Bool} (r : Rel P A σ h w c (.bool b)) : c = .bool b := by
  cases r with
  | data r => cases r; rfl
  | tok hd _ => cases hd
theorem yielded_eq {A : Nat → Nat → Prop} (hs : SRel P A σ h w n s a.tmps) (ops : Array Oper) : yielded ops a.tmps = yieldedV ops s := by
  funext j
  unfold yielded yieldedV
  cases hd : (ops[j]?).bind (·.dst) with
  | none => rfl
  | some t =>
    simp only [Option.bind_some]
    have hr := hs.2 t
    rw [Array.getD_eq_getD_getElem?] at hr
    cases hv : a.tmps[t]? with
    | none =>
      rw [hv] at hr
      simp only [Option.getD_none] at hr
      split
      · rename_i e; cases e
      · split
        · rename_i b hb; rw [hb] at hr; have := rel_bool hr; simp [undef] at this
        · rfl
    | some v =>
      rw [hv] at hr
      simp only [Option.getD_some] at hr
      split
      · rename_i b hb
        simp only [Option.some.injEq] at hb; subst hb
        rw [rel_is_bool hr]
      · rename_i hno
        split
        · rename_i b hb; rw [hb] at hr; exact absurd (by rw [rel_bool hr]) (hno b)
        · rfl

theorem runOps_wp [DFlag] {C : Cfg} (hP : Good C.P) {run : FuncId → List AV → H → Option (AV × H)} (hrun : Ok C.P run) {cf : FuncId} {ops : Array Oper} {Q : Exit → Act → World → Prop} :
    ∀ (l : List Oper) (k : Nat), (∀ j, l[j]? = ops[k + j]?) → (∀ o ∈ l, ∀ t, o.dst = some t → t < n) →
    ∀ (σ : List (Option Nat)) (h : H) (w : World) (s : PT) (a : Act) (s' : PT) (h' : H), HRel C.P B A0 σ h w → SRel C.P (Alw C.P B A0 σ h) σ h w n s a.tmps → runOps C run cf ops l s h = some (s', h') →
      (∀ σ' w' a', HRel C.P B A0 σ' h' w' → Step C.P B A0 σ h w σ' h' w' → SRel C.P (Alw C.P B A0 σ' h') σ' h' w' n s' a'.tmps → a'.defers = a.defers → Q .normal a' w') →
      wpOpsIn (FR ro) nd C.P ops Q (List.range' k l.length) a w := by
  intro l
  induction l with
  | nil =>
    intro k _ _ σ h w s a s' h' hr hs hh hQ
    simp only [runOps, Option.some.injEq, Prod.mk.injEq] at hh
    obtain ⟨rfl, rfl⟩ := hh
    simp only [List.length_nil, List.range'_zero, wpOpsIn]
    exact hQ σ w a hr (.refl _ _ _) hs rfl
  | cons o l ih =>
    intro k hl hd σ h w s a s' h' hr hs hh hQ
    have ho : ops[k]? = some o := by have := hl 0; simpa using this.symm
    have hl' : ∀ j, l[j]? = ops[k + 1 + j]? := fun j => by have := hl (j + 1); rw [show k + 1 + j = k + (j + 1) by omega]; simpa using this
    have hd' : ∀ o ∈ l, ∀ t, o.dst = some t → t < n := fun o ho => hd o (by simp [ho])
    simp only [List.length_cons, List.range'_succ, wpOpsIn, ho]
    rw [yielded_eq hs]
    simp only [runOps] at hh
    split at hh
    · rename_i hw
      rw [if_pos hw]
      split at hh <;> first | (cases hh; done) | skip
      rename_i v h1 hv
      refine opV_wp hP rfl hrun hr hs hv fun u w1 ⟨σ1, k1, k2, k3⟩ => ?_
      refine ih (k + 1) hl' hd' σ1 h1 w1 (putV s o.dst v) (a.put o.dst u) s' h' k1 ((hs.step k2).put (hd o (by simp)) k3) hh (fun σ' w' a' q1 q2 q3 q4 => hQ σ' w' a' q1 (k2.trans q2) q3 (q4.trans (put_defers _ _ _)))
    · rename_i hw
      rw [if_neg hw]
      refine ⟨fun _ _ => trivial, ?_⟩
      exact ih (k + 1) hl' hd' σ h w (putV s o.dst AV.undef) (a.put o.dst undef) s' h' hr (hs.put (hd o (by simp)) undef_rel) hh (fun σ' w' a' q1 q2 q3 q4 => hQ σ' w' a' q1 q2 q3 (q4.trans (put_defers _ _ _)))
end

/- What an operation's value hangs on. -/
theorem mem_tmpsOf {t : Tmp} : ∀ {l : List Operand}, Operand.tmp t ∈ l → t ∈ tmpsOf l := by
  intro l
  induction l with
  | nil => intro h; cases h
  | cons x l ih =>
    intro h
    rcases List.mem_cons.1 h with e | h2
    · subst e; simp [tmpsOf]
    · cases x <;> simp [tmpsOf, ih h2]
theorem ev_congr {s s' : PT} {l : List Operand} (h : ∀ t ∈ tmpsOf l, s.get t = s'.get t) {x : Operand} (hx : x ∈ l) : ev s x = ev s' x := by
  cases x with
  | tmp t => simp only [ev]; rw [h t (mem_tmpsOf hx)]
  | _ => rfl
theorem evs_congr {s s' : PT} : ∀ {l : List Operand}, (∀ x ∈ l, ev s x = ev s' x) → evs s l = evs s' l := by
  intro l
  induction l with
  | nil => intro _; rfl
  | cons x l ih => intro h; simp only [evs]; rw [h x (by simp), ih (fun y hy => h y (by simp [hy]))]
theorem partsV_congr {s s' : PT} : ∀ {l : List (Nat × Operand)}, (∀ x ∈ l.map (·.2), ev s x = ev s' x) → partsV s l = partsV s' l := by
  intro l
  induction l with
  | nil => intro _; rfl
  | cons p l ih => intro h; obtain ⟨i, x⟩ := p; simp only [partsV]; rw [h x (by simp), ih (fun y hy => h y (by simp at hy ⊢; exact .inr hy))]
theorem opt_congr {s s' : PT} {x : Option Operand} (h : ∀ y, x = some y → ev s y = ev s' y) : x.map (ev s) = x.map (ev s') := by
  cases x with
  | none => rfl
  | some y => simp [h y rfl]

theorem opN_congr {P : Program} {s s' : PT} {o : Oper} (h : ∀ x ∈ o.op.operands.toList, ev s x = ev s' x) : opN P s o = opN P s' o := by
  unfold opN
  cases ho : o.op <;> rw [ho] at h <;> simp only [Op.operands, Call.operands] at h ⊢
  case call c =>
    obtain ⟨callee, args, argTypes⟩ := c
    cases callee with
    | builtin b =>
      have h' : ∀ x ∈ args.toList, ev s x = ev s' x := fun x hx => h x (by simpa using hx)
      cases b <;> simp only [evs_congr h']
      all_goals
        split
        · rename_i x t hargs htypes
          rw [h' x (by rw [hargs]; simp)]
        · rfl
    | _ => rfl
  case build t parts => rw [partsV_congr (fun x hx => h x (by simpa using hx))]
  case slice t x lo hi mx =>
    rw [h x (by simp), opt_congr (x := lo) (fun y e => h y (by simp [e])), opt_congr (x := hi) (fun y e => h y (by simp [e])), opt_congr (x := mx) (fun y e => h y (by simp [e]))]
  case makeFunc fn first captured =>
    cases fn with
    | func f => simp only [evs_congr (l := captured.toList) (fun x hx => h x (by simp at hx ⊢; exact .inr hx))]
    | _ => rfl
  all_goals first
    | rfl
    | (simp only [List.mem_cons, List.not_mem_nil, or_false, forall_eq_or_imp, forall_eq] at h; first | rw [h] | rw [h.1, h.2] | rw [h.1, h.2.1, h.2.2])

theorem opA_congr {C : Cfg} {run : FuncId → List AV → H → Option (AV × H)} {cf : FuncId} {s s' : PT} {hp : H} {o : Oper} (h : ∀ x ∈ o.op.operands.toList, ev s x = ev s' x) : opA C run cf s hp o = opA C run cf s' hp o := by
  unfold opA
  cases ho : o.op <;> rw [ho] at h <;> simp only [Op.operands, Call.operands] at h ⊢
  case call c =>
    obtain ⟨callee, args, argTypes⟩ := c
    cases callee with
    | builtin b =>
      have h' : ∀ x ∈ args.toList, ev s x = ev s' x := fun x hx => h x (by simpa using hx)
      cases b <;> simp only
      case append =>
        split
        · rename_i x y t u hargs htypes
          rw [h' x (by rw [hargs]; simp), h' y (by rw [hargs]; simp)]
        · rfl
      case clear =>
        split
        · rename_i x t hargs htypes
          rw [h' x (by rw [hargs]; simp)]
        · rfl
      case copy =>
        split
        · rename_i x y t u hargs htypes
          rw [h' x (by rw [hargs]; simp), h' y (by rw [hargs]; simp)]
        · rfl
    | value f =>
      have h1 : ev s f = ev s' f := h f (by simp)
      have h2 : evs s args.toList = evs s' args.toList := evs_congr (fun x hx => h x (by simp at hx ⊢; exact .inr hx))
      simp only [h1, h2]
    | _ => rfl
  case buildSlice t len parts => rw [partsV_congr (fun x hx => h x (by simpa using hx))]
  case makeMap t r => cases r <;> rfl
  all_goals first
    | rfl
    | (simp only [List.mem_cons, List.not_mem_nil, or_false, forall_eq_or_imp, forall_eq] at h; first | rw [h] | rw [h.1, h.2] | rw [h.1, h.2.1, h.2.2])

theorem opV_congr {C : Cfg} {run : FuncId → List AV → H → Option (AV × H)} {cf : FuncId} {s s' : PT} {hp : H} {o : Oper} (h : ∀ x ∈ o.op.operands.toList, ev s x = ev s' x) : opV C run cf s hp o = opV C run cf s' hp o := by
  unfold opV
  split
  · exact opA_congr h
  · rw [opN_congr h]
    split
    · rename_i t x ho
      rw [h x (by rw [ho]; simp [Op.operands])]
    · rfl

/-- An operation that is not active leaves the call's own memory alone, and looks at it only where it loads. -/
theorem opV_idle {C : Cfg} {run : FuncId → List AV → H → Option (AV × H)} {cf : FuncId} {s : PT} {hp h' : H} {o : Oper} {r : AV} (hh : opV C run cf s hp o = some (r, h')) (ha : active o = false) : h' = hp := by
  unfold opV at hh
  rw [ha] at hh
  simp only [Bool.false_eq_true, if_false] at hh
  split at hh
  · split at hh <;> first | (cases hh; done) | skip
    split at hh <;> first | (cases hh; done) | skip
    simp only [Option.some.injEq, Prod.mk.injEq] at hh; exact hh.2.symm
  · split at hh <;> first | (cases hh; done) | skip
    simp only [Option.some.injEq, Prod.mk.injEq] at hh; exact hh.2.symm

mutual
theorem AV.same_eq : ∀ {a b : AV}, AV.same a b = true → a = b
  | .bool _, b, h => by cases b <;> simp [AV.same] at h <;> simp [h]
  | .int _ _, b, h => by cases b <;> simp [AV.same] at h <;> simp [h]
  | .str _, b, h => by cases b <;> simp [AV.same] at h <;> simp [h]
  | .nilptr, b, h => by cases b <;> simp [AV.same] at h <;> rfl
  | .ptr _ _, b, h => by cases b <;> simp [AV.same] at h <;> simp [h]
  | .iptr e o, b, h => by
    cases b <;> simp [AV.same] at h
    rw [AV.same_eq h.1, h.2]
  | .isl es x, b, h => by
    cases b <;> simp [AV.same] at h
    rw [AV.sames_eq h.1, h.2]
  | .msl _ _ _ _ _, b, h => by cases b <;> simp [AV.same] at h <;> simp [h]
  | .nilmap, b, h => by cases b <;> simp [AV.same] at h <;> rfl
  | .nilFunc, b, h => by cases b <;> simp [AV.same] at h <;> rfl
  | .func f cs, b, h => by
    cases b <;> simp [AV.same] at h
    rw [AV.sames_eq h.2, h.1]
  | .nilIface, b, h => by cases b <;> simp [AV.same] at h <;> rfl
  | .iface t v, b, h => by
    cases b <;> simp [AV.same] at h
    rw [AV.same_eq h.2, h.1]
  | .agg cs, b, h => by
    cases b <;> simp [AV.same] at h
    rw [AV.sames_eq h]
  | .tuple cs, b, h => by
    cases b <;> simp [AV.same] at h
    rw [AV.sames_eq h]
  | .yield _, b, h => by cases b <;> simp [AV.same] at h <;> simp [h]
  | .mp _, b, h => by cases b <;> simp [AV.same] at h <;> simp [h]
theorem AV.sames_eq : ∀ {l m : List AV}, AV.sames l m = true → l = m
  | [], m, h => by cases m <;> simp [AV.sames] at h <;> rfl
  | a :: l, m, h => by
    cases m <;> simp [AV.sames] at h
    rw [AV.same_eq h.1, AV.sames_eq h.2]
end
/-- Rows of cells keep what they hold. -/
def NL (h h' : H) : Prop := ∀ (id : Nat) cs st, h[id]? = some (.cells cs st) → ∃ st', h'[id]? = some (.cells cs st') ∧ (st' = .dead ↔ st = .dead)
theorem NL_of : ∀ {h h' : H}, nlB h h' = true → NL h h'
  | [], _, _, id, cs, st, hi => by simp at hi
  | .cells c s :: h, [], e, _, _, _, _ => by simp [nlB] at e
  | .cells c s :: h, .cells d t :: g, e, id, cs, st, hi => by
    simp only [nlB, Bool.and_eq_true, decide_eq_true_eq] at e
    cases id with
    | zero =>
      simp only [List.getElem?_cons_zero, Option.some.injEq, VObj.cells.injEq] at hi
      obtain ⟨rfl, rfl⟩ := hi
      exact ⟨t, by rw [List.getElem?_cons_zero, AV.sames_eq e.1.1], e.1.2⟩
    | succ id => exact NL_of e.2 id cs st hi
  | .cells c s :: h, .tok _ _ :: g, e, _, _, _, _ => by simp [nlB] at e
  | .cells c s :: h, .loop _ _ :: g, e, _, _, _, _ => by simp [nlB] at e
  | .cells c s :: h, .map _ :: g, e, _, _, _, _ => by simp [nlB] at e
  | .cells c s :: h, .void :: g, e, _, _, _, _ => by simp [nlB] at e
  | .tok _ _ :: h, [], e, id, cs, st, hi => by
    cases id with
    | zero => simp at hi
    | succ id => obtain ⟨st', h1, _⟩ := NL_of (h := h) (h' := []) e id cs st hi; simp at h1
  | .loop _ _ :: h, [], e, id, cs, st, hi => by
    cases id with
    | zero => simp at hi
    | succ id => obtain ⟨st', h1, _⟩ := NL_of (h := h) (h' := []) e id cs st hi; simp at h1
  | .map _ :: h, [], e, id, cs, st, hi => by
    cases id with
    | zero => simp at hi
    | succ id => obtain ⟨st', h1, _⟩ := NL_of (h := h) (h' := []) e id cs st hi; simp at h1
  | .void :: h, [], e, id, cs, st, hi => by
    cases id with
    | zero => simp at hi
    | succ id => obtain ⟨st', h1, _⟩ := NL_of (h := h) (h' := []) e id cs st hi; simp at h1
  | .tok _ _ :: h, y :: g, e, id, cs, st, hi => by
    cases id with
    | zero => simp at hi
    | succ id => exact NL_of (h := h) (h' := g) e id cs st hi
  | .loop _ _ :: h, y :: g, e, id, cs, st, hi => by
    cases id with
    | zero => simp at hi
    | succ id => exact NL_of (h := h) (h' := g) e id cs st hi
  | .map _ :: h, y :: g, e, id, cs, st, hi => by
    cases id with
    | zero => simp at hi
    | succ id => exact NL_of (h := h) (h' := g) e id cs st hi
  | .void :: h, y :: g, e, id, cs, st, hi => by
    cases id with
    | zero => simp at hi
    | succ id => exact NL_of (h := h) (h' := g) e id cs st hi
theorem NL.refl (h : H) : NL h h := fun _ _ st hi => ⟨st, hi, Iff.rfl⟩
theorem NL.trans {a b c : H} (h : NL a b) (k : NL b c) : NL a c := fun id cs st hi => by
  obtain ⟨st1, h1, e1⟩ := h id cs st hi
  obtain ⟨st2, h2, e2⟩ := k id cs st1 h1
  exact ⟨st2, h2, e2.trans e1⟩
theorem NL.stiller {h h' : H} (s : Stiller h h') : NL h h' := fun id cs st hi => by
  rcases s.at_ id with e | ⟨cs', e1, e2⟩
  · exact ⟨st, e.trans hi, Iff.rfl⟩
  · rw [hi] at e1; simp only [Option.some.injEq, VObj.cells.injEq] at e1
    obtain ⟨rfl, rfl⟩ := e1
    exact ⟨_, e2, by simp⟩
theorem NL.push (h : H) (x : VObj) : NL h (h ++ [x]) := fun id cs st hi => ⟨st, by rw [List.getElem?_append_left (List.getElem?_eq_some_iff.1 hi).1]; exact hi, Iff.rfl⟩

theorem adopt_NL {P : Program} {m : Mode} {h1 h h' : H} {r r' : AV} (hh : adopt P m h1 h r = some (r', h')) : NL h h' := by
  unfold adopt at hh
  split at hh
  · split at hh <;> first | (cases hh; done) | skip
    split at hh <;> first | (cases hh; done) | skip
    split at hh <;> first | (cases hh; done) | skip
    · simp only [Option.some.injEq, Prod.mk.injEq] at hh; obtain ⟨_, rfl⟩ := hh; exact .push _ _
    · split at hh
      · simp only [Option.some.injEq, Prod.mk.injEq] at hh; obtain ⟨_, rfl⟩ := hh; exact .refl _
      · simp only [Option.some.injEq, Prod.mk.injEq] at hh; obtain ⟨_, rfl⟩ := hh; exact .push _ _
  · simp only [Option.some.injEq, Prod.mk.injEq] at hh; obtain ⟨_, rfl⟩ := hh; exact .refl _
  · split at hh <;> first | (cases hh; done) | skip
    split at hh <;> first | (cases hh; done) | skip
    split at hh <;> first | (cases hh; done) | skip
    · simp only [Option.some.injEq, Prod.mk.injEq] at hh; obtain ⟨_, rfl⟩ := hh; exact .push _ _
    · simp only [Option.some.injEq, Prod.mk.injEq] at hh; obtain ⟨_, rfl⟩ := hh; exact .refl _
  · cases hh
theorem finishV_NL {P : Program} {m : Mode} {h1 h h2 h' : H} {r r' : AV} (h12 : NL h h2) (hh : finishV P m r h1 h h2 = some (r', h')) : NL h h' := by
  have strip : ∀ z, stripV r h1 h h2 = some z → NL h z.2 := fun z hz => by
    unfold stripV at hz
    split at hz <;> first | (cases hz; done) | skip
    simp only [Option.some.injEq] at hz; subst hz
    dsimp
    split
    · exact .refl _
    · exact h12
  have both : ∀ m z, adoptR P m h1 h r = some z → NL h z.2 := fun m z hz => by
    unfold adoptR at hz
    split at hz
    · split at hz <;> first | (cases hz; done) | skip
      rename_i x' hx ha
      split at hz <;> first | (cases hz; done) | skip
      simp only [Option.some.injEq] at hz; subst hz
      exact adopt_NL ha
    · exact adopt_NL hz
  have rows : ∀ m z, adoptD m h1 h2 r = some z → NL h z.2 := fun m z hz => by
    have one : ∀ x z, adoptM h1 h2 x = some z → NL h z.2 := fun x z hz => by
      unfold adoptM at hz
      split at hz <;> first | (cases hz; done) | skip
      split at hz <;> first | (cases hz; done) | skip
      split at hz <;> first | (cases hz; done) | skip
      split at hz <;> first | (cases hz; done) | skip
      simp only [Option.some.injEq] at hz; subst hz
      exact h12.trans (.push _ _)
    unfold adoptD at hz
    split at hz <;> first | (cases hz; done) | skip
    · split at hz <;> first | (cases hz; done) | skip
      split at hz <;> first | (cases hz; done) | skip
      rename_i hx
      simp only [Option.some.injEq] at hz; subst hz
      have := one _ _ hx
      exact this
    · exact one _ _ hz
  unfold finishV at hh
  split at hh
  · split at hh
    · rename_i z hz; simp only [Option.some.injEq] at hh; subst hh; exact both _ _ hz
    · split at hh
      · rename_i z hz; simp only [Option.some.injEq] at hh; subst hh; exact rows _ _ hz
      · exact strip _ hh
  · split at hh
    · rename_i z hz; simp only [Option.some.injEq] at hh; subst hh; exact both _ _ hz
    · split at hh
      · rename_i z hz; simp only [Option.some.injEq] at hh; subst hh; exact rows _ _ hz
      · exact strip _ hh
  · exact strip _ hh

theorem makeSliceV_NL {P : Program} {wr : Bool} {t : TypeId} {l c r : AV} {h h' : H} (hh : makeSliceV P wr h t l c = some (r, h')) : NL h h' := by
  unfold makeSliceV at hh
  split at hh <;> first | (cases hh; done) | skip
  split at hh <;> first | (cases hh; done) | skip
  split at hh <;> first | (cases hh; done) | skip
  split at hh
  · simp only [Option.some.injEq, Prod.mk.injEq] at hh; obtain ⟨_, rfl⟩ := hh; exact .push _ _
  · simp only [Option.some.injEq, Prod.mk.injEq] at hh; obtain ⟨_, rfl⟩ := hh; exact .push _ _

/-- Rows of cells keep what they hold, but for some. -/
def NLx (X : List Nat) (h h' : H) : Prop := ∀ (id : Nat) cs st, id ∉ X → h[id]? = some (.cells cs st) → ∃ st', h'[id]? = some (.cells cs st') ∧ (st' = .dead ↔ st = .dead)
theorem NL.x {h h' : H} (n : NL h h') (X : List Nat) : NLx X h h' := fun id cs st _ hi => n id cs st hi
theorem NLx.set {h : H} {id : Nat} {x : VObj} {X : List Nat} (hx : id ∈ X ∨ ∀ cs st, h[id]? ≠ some (.cells cs st)) : NLx X h (h.set id x) := fun j cs st hj hi => by
  have : id ≠ j := fun e => by subst e; rcases hx with hx | hx; exact hj hx; exact hx _ _ hi
  exact ⟨st, by rw [List.getElem?_set_ne this]; exact hi, Iff.rfl⟩
theorem appendV_NL {P : Program} {t : TypeId} {a b r : AV} {h h' : H} (hh : appendV P h t a b = some (r, h')) : NLx (mslId a) h h' := by
  unfold appendV at hh
  split at hh <;> first | (cases hh; done) | skip
  split at hh <;> first | (cases hh; done) | skip
  split at hh <;> first | (cases hh; done) | skip
  split at hh <;> first | (cases hh; done) | skip
  · split at hh <;> first | (cases hh; done) | skip
    split at hh <;> first | (cases hh; done) | skip
    split at hh
    · split at hh
      · simp only [Option.some.injEq, Prod.mk.injEq] at hh; obtain ⟨_, rfl⟩ := hh; exact (NL.refl _).x _
      · simp only [Option.some.injEq, Prod.mk.injEq] at hh; obtain ⟨_, rfl⟩ := hh; exact (NL.push _ _).x _
    · split at hh <;> first | (cases hh; done) | skip
      rename_i ht
      split at hh <;> first | (cases hh; done) | skip
      simp only [Option.some.injEq, Prod.mk.injEq] at hh; obtain ⟨_, rfl⟩ := hh
      exact .set (.inr fun cs st e => by rw [ht] at e; cases e)
    · split at hh
      · simp only [Option.some.injEq, Prod.mk.injEq] at hh; obtain ⟨_, rfl⟩ := hh; exact (NL.refl _).x _
      · cases hh
  · split at hh <;> first | (cases hh; done) | skip
    split at hh <;> first | (cases hh; done) | skip
    simp only [Option.some.injEq, Prod.mk.injEq] at hh; obtain ⟨_, rfl⟩ := hh
    exact .set (.inl (by simp [mslId]))
theorem appendN_NL {P : Program} {t : TypeId} {a b r : AV} {h h' : H} (hh : appendN P h t a b = some (r, h')) : NLx (mslId a) h h' := by
  unfold appendN at hh
  split at hh <;> first | (cases hh; done) | skip
  split at hh <;> first | (cases hh; done) | skip
  split at hh <;> first | (cases hh; done) | skip
  split at hh <;> first | (cases hh; done) | skip
  split at hh <;> first | (cases hh; done) | skip
  · split at hh
    · simp only [Option.some.injEq, Prod.mk.injEq] at hh; obtain ⟨_, rfl⟩ := hh; exact (NL.refl _).x _
    · split at hh <;> first | (cases hh; done) | skip
      simp only [Option.some.injEq, Prod.mk.injEq] at hh; obtain ⟨_, rfl⟩ := hh; exact (NL.push _ _).x _
  · split at hh
    · simp only [Option.some.injEq, Prod.mk.injEq] at hh; obtain ⟨_, rfl⟩ := hh; exact (NL.refl _).x _
    · split at hh <;> first | (cases hh; done) | skip
      split at hh <;> first | (cases hh; done) | skip
      simp only [Option.some.injEq, Prod.mk.injEq] at hh; obtain ⟨_, rfl⟩ := hh
      exact fun j cs st hj hi => ⟨st, by rw [List.getElem?_append_left (by simp; exact (List.getElem?_eq_some_iff.1 hi).1), List.getElem?_set_ne (fun e => hj (by simp [mslId, e]))]; exact hi, Iff.rfl⟩
theorem appendZ_NL {P : Program} {t : TypeId} {a r : AV} {n : Int} {h h' : H} (hh : appendZ P h t a n = some (r, h')) : NL h h' := by
  unfold appendZ at hh
  split at hh <;> first | (cases hh; done) | skip
  split at hh <;> first | (cases hh; done) | skip
  split at hh <;> first | (cases hh; done) | skip
  split at hh
  · simp only [Option.some.injEq, Prod.mk.injEq] at hh; obtain ⟨_, rfl⟩ := hh; exact .refl _
  · simp only [Option.some.injEq, Prod.mk.injEq] at hh; obtain ⟨_, rfl⟩ := hh; exact .push _ _
theorem appendW_NL {P : Program} {wr : Bool} {t : TypeId} {a b r : AV} {h h' : H} (hh : appendW P wr h t a b = some (r, h')) : NLx (mslId a) h h' := by
  unfold appendW at hh
  split at hh
  · exact appendV_NL hh
  · split at hh
    · split at hh
      · rename_i z hz; simp only [Option.some.injEq] at hh; subst hh; exact appendV_NL hz
      · exact appendN_NL hh
    · split at hh
      · rename_i z hz; simp only [Option.some.injEq] at hh; subst hh; exact appendN_NL hz
      · exact appendV_NL hh
theorem opA_NL {C : Cfg} {run : FuncId → List AV → H → Option (AV × H)} {cf : FuncId} {s : PT} {hp h' : H} {o : Oper} {r : AV} (hh : opA C run cf s hp o = some (r, h')) (hq : clash.loud C o = false) : NLx (appId s o) hp h' := by
  unfold opA at hh
  split at hh
  · split at hh
    · simp only [Option.some.injEq, Prod.mk.injEq] at hh; obtain ⟨_, rfl⟩ := hh; exact (NL.refl _).x _
    split at hh <;> first | (cases hh; done) | skip
    simp only [Option.some.injEq, Prod.mk.injEq] at hh; obtain ⟨_, rfl⟩ := hh; exact (NL.push _ _).x _
  · split at hh <;> first | (cases hh; done) | skip
    split at hh <;> first | (cases hh; done) | skip
    simp only [Option.some.injEq, Prod.mk.injEq] at hh; obtain ⟨_, rfl⟩ := hh; exact (NL.push _ _).x _
  · split at hh <;> first | (cases hh; done) | skip
    simp only [Option.some.injEq, Prod.mk.injEq] at hh; obtain ⟨_, rfl⟩ := hh; exact (NL.push _ _).x _
  · split at hh <;> first | (cases hh; done) | skip
    unfold buildSliceV at hh
    split at hh <;> first | (cases hh; done) | skip
    split at hh <;> first | (cases hh; done) | skip
    split at hh <;> first | (cases hh; done) | skip
    split at hh <;> first | (cases hh; done) | skip
    split at hh <;> first | (cases hh; done) | skip
    simp only [Option.some.injEq, Prod.mk.injEq] at hh; obtain ⟨_, rfl⟩ := hh; exact (NL.stiller (freeze_stiller _ _)).x _
  · split at hh <;> first | (cases hh; done) | skip
    exact (makeSliceV_NL hh).x _
  · rename_i ho; simp [clash.loud, ho] at hq
  · rename_i args argTypes ho
    split at hh <;> first | (cases hh; done) | skip
    rename_i x y t u hargs htypes
    split at hh
    · split at hh <;> first | (cases hh; done) | skip
      rename_i c d hx hy
      have := appendW_NL hh
      have e : appId s o = mslId c := by
        simp only [appId, ho, hargs, hx]
      rw [e]; exact this
    · split at hh
      rotate_left 1
      · split at hh <;> first | (cases hh; done) | skip
        split at hh <;> first | (cases hh; done) | skip
        rename_i c n hx hy
        exact (appendZ_NL hh).x _
      split at hh <;> first | (cases hh; done) | skip
      rename_i c d hx hy
      have := appendN_NL hh
      have e : appId s o = mslId c := by
        simp only [appId, ho, hargs, hx]
      rw [e]; exact this
  · rename_i f args argTypes ho
    split at hh <;> first | (cases hh; done) | skip
    · rename_i g captured l hx hl
      split at hh
      rotate_left 1
      · unfold extV at hh
        split at hh <;> first | (cases hh; done) | skip
        split at hh <;> first | (cases hh; done) | skip
        split at hh <;> first | (cases hh; done) | skip
        simp only [Option.some.injEq, Prod.mk.injEq] at hh; obtain ⟨_, rfl⟩ := hh; exact (NL.refl _).x _
      cases f with
      | func f =>
        simp only [ev, Option.some.injEq, AV.func.injEq] at hx
        obtain ⟨rfl, rfl⟩ := hx
        have hm : C.mode f ≠ .openH := by simpa [clash.loud, ho] using hq
        unfold applyCall at hh
        split at hh
        · exact absurd ‹_› hm
        · split at hh <;> first | (cases hh; done) | skip
          split at hh <;> first | (cases hh; done) | skip
          rename_i hnl
          simp only [Option.some.injEq, Prod.mk.injEq] at hh; obtain ⟨_, rfl⟩ := hh
          exact (NL_of hnl).x _
        · split at hh <;> first | (cases hh; done) | skip
          split at hh <;> first | (cases hh; done) | skip
          rename_i hnl
          split at hh <;> first | (cases hh; done) | skip
          simp only [Option.some.injEq, Prod.mk.injEq] at hh; obtain ⟨_, rfl⟩ := hh
          exact ((NL_of hnl).trans (.stiller (freeze_stiller _ _))).x _
        · split at hh <;> first | (cases hh; done) | skip
          split at hh <;> first | (cases hh; done) | skip
          exact (finishV_NL (.stiller (freeze_stiller _ _)) hh).x _
      | _ => simp [clash.loud, ho] at hq
    · rename_i i l hx hl
      cases f with
      | func f => simp [ev] at hx
      | _ => simp [clash.loud, ho] at hq
  · simp only [Option.some.injEq, Prod.mk.injEq] at hh; obtain ⟨_, rfl⟩ := hh; exact (NL.push _ _).x _
  · split at hh <;> first | (cases hh; done) | skip
    split at hh <;> first | (cases hh; done) | skip
    simp only [Option.some.injEq, Prod.mk.injEq] at hh; obtain ⟨_, rfl⟩ := hh; exact (NL.refl _).x _
  · split at hh <;> first | (cases hh; done) | skip
    split at hh <;> first | (cases hh; done) | skip
    rename_i h2 hm
    simp only [Option.some.injEq, Prod.mk.injEq] at hh; obtain ⟨_, rfl⟩ := hh
    unfold mapUpdateV at hm
    split at hm <;> first | (cases hm; done) | skip
    split at hm <;> first | (cases hm; done) | skip
    rename_i es hid
    have hno : ∀ cs st, hp[_]? ≠ some (VObj.cells cs st) := fun cs st e => by rw [hid] at e; cases e
    split at hm <;> first | (cases hm; done) | skip
    split at hm
    · split at hm <;> first | (cases hm; done) | skip
      split at hm <;> first | (cases hm; done) | skip
      split at hm <;> first | (cases hm; done) | skip
      simp only [Option.some.injEq] at hm; subst hm; exact NLx.set (.inr hno)
    · split at hm <;> first | (cases hm; done) | skip
      simp only [Option.some.injEq] at hm; subst hm; exact NLx.set (.inr hno)
    · cases hm
  · split at hh <;> first | (cases hh; done) | skip
    split at hh <;> first | (cases hh; done) | skip
    rename_i h2 hm
    simp only [Option.some.injEq, Prod.mk.injEq] at hh; obtain ⟨_, rfl⟩ := hh
    unfold mapUpdateV at hm
    split at hm <;> first | (cases hm; done) | skip
    split at hm <;> first | (cases hm; done) | skip
    rename_i es hid
    have hno : ∀ cs st, hp[_]? ≠ some (VObj.cells cs st) := fun cs st e => by rw [hid] at e; cases e
    split at hm <;> first | (cases hm; done) | skip
    split at hm
    · split at hm <;> first | (cases hm; done) | skip
      split at hm <;> first | (cases hm; done) | skip
      split at hm <;> first | (cases hm; done) | skip
      simp only [Option.some.injEq] at hm; subst hm; exact NLx.set (.inr hno)
    · split at hm <;> first | (cases hm; done) | skip
      simp only [Option.some.injEq] at hm; subst hm; exact NLx.set (.inr hno)
    · cases hm
  · rename_i ho; simp [clash.loud, ho] at hq
  · rename_i ho; simp [clash.loud, ho] at hq
  · cases hh
end Go.V
