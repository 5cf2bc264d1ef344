/- Working the value machine by rules. -/
import Derived.Test.YtdoegkegjaadeaaGreatDoorQV17
namespace Go.V
open Go

/-- What code comes to. -/
def WP (C : Cfg) (cf : FuncId) (c : Code) (s : PT) (h : H) (Q : Ex → PT → H → Prop) : Prop := ∃ e s' h', Exe C cf c s h = some (e, s', h') ∧ Q e s' h'
/-- What a list of operations comes to. -/
def OW (C : Cfg) (cf : FuncId) (ops : Array Oper) (l : List Oper) (s : PT) (h : H) (K : PT → H → Prop) : Prop := ∃ s' h', runOps C (Call C) cf ops l s h = some (s', h') ∧ K s' h'
def thenQ (k : PT → H → Prop) (Q : Ex → PT → H → Prop) : Ex → PT → H → Prop
  | .normal, s, h => k s h
  | e, s, h => Q e s h
def blockQ (id : Nat) (Q : Ex → PT → H → Prop) : Ex → PT → H → Prop
  | .exit i, s, h => if i = id then Q .normal s h else Q (.exit i) s h
  | e, s, h => Q e s h

section
variable {C : Cfg} {cf : FuncId} {s : PT} {h : H} {Q : Ex → PT → H → Prop} {ops : Array Oper} {K : PT → H → Prop}

theorem WP.mono {c : Code} {Q' : Ex → PT → H → Prop} (w : WP C cf c s h Q) (hq : ∀ e s h, Q e s h → Q' e s h) : WP C cf c s h Q' := let ⟨e, s', h', hx, q⟩ := w; ⟨e, s', h', hx, hq _ _ _ q⟩
@[simp] theorem thenQ_normal {k : PT → H → Prop} : thenQ k Q .normal s h = k s h := rfl
@[simp] theorem thenQ_exit {k : PT → H → Prop} {i : Nat} : thenQ k Q (.exit i) s h = Q (.exit i) s h := rfl
@[simp] theorem thenQ_ret {k : PT → H → Prop} : thenQ k Q .ret s h = Q .ret s h := rfl
@[simp] theorem blockQ_normal {id : Nat} : blockQ id Q .normal s h = Q .normal s h := rfl
@[simp] theorem blockQ_exit {id i : Nat} : blockQ id Q (.exit i) s h = if i = id then Q .normal s h else Q (.exit i) s h := rfl
@[simp] theorem blockQ_ret {id : Nat} : blockQ id Q .ret s h = Q .ret s h := rfl

theorem WP_skip : WP C cf .skip s h Q ↔ Q .normal s h := ⟨fun ⟨e, s', h', hx, q⟩ => by rw [Exe_skip] at hx; cases hx; exact q, fun q => ⟨_, _, _, Exe_skip, q⟩⟩
theorem WP_exit {id : Nat} : WP C cf (.exit id) s h Q ↔ Q (.exit id) s h := ⟨fun ⟨e, s', h', hx, q⟩ => by rw [Exe_exit] at hx; cases hx; exact q, fun q => ⟨_, _, _, Exe_exit id, q⟩⟩
theorem WP_ret : WP C cf .ret s h Q ↔ Q .ret s h := ⟨fun ⟨e, s', h', hx, q⟩ => by rw [Exe_ret] at hx; cases hx; exact q, fun q => ⟨_, _, _, Exe_ret, q⟩⟩
theorem WP_region {id : Nat} {d : Bool} (hm : (d && C.mix cf id) = false) (hd : drawOk C (Call C) cf ops d s h = true) : WP C cf (.region id ops d) s h Q ↔ OW C cf ops ops.toList s h (fun s h => Q .normal s h) := by
  unfold WP OW
  rw [Exe_region _ _ _ hm]
  simp only [hd, if_true]
  constructor
  · rintro ⟨e, s', h', hx, q⟩
    split at hx <;> first | (cases hx; done) | skip
    rename_i s1 h1 ho
    simp only [Option.some.injEq, Prod.mk.injEq] at hx
    obtain ⟨rfl, rfl, rfl⟩ := hx
    exact ⟨s1, h1, ho, q⟩
  · rintro ⟨s', h', hx, q⟩
    exact ⟨.normal, s', h', by rw [hx], q⟩
theorem WP_seq {a b : Code} : WP C cf (.seq a b) s h Q ↔ WP C cf a s h (thenQ (fun s h => WP C cf b s h Q) Q) := by
  unfold WP
  rw [Exe_seq]
  constructor
  · rintro ⟨e, s', h', hx, q⟩
    split at hx
    · rename_i s1 h1 ho; exact ⟨.normal, s1, h1, ho, e, s', h', hx, q⟩
    · rename_i hno
      refine ⟨e, s', h', hx, ?_⟩
      cases e with
      | normal => exact absurd hx (hno _ _)
      | _ => exact q
  · rintro ⟨e, s', h', hx, q⟩
    cases e with
    | normal => obtain ⟨e2, s2, h2, hx2, q2⟩ := q; exact ⟨e2, s2, h2, by rw [hx]; exact hx2, q2⟩
    | exit i => exact ⟨_, s', h', by rw [hx], q⟩
    | ret => exact ⟨_, s', h', by rw [hx], q⟩
theorem WP_cond {c : Operand} {a b : Code} : WP C cf (.cond c a b) s h Q ↔ ∃ x, ev s c = some (.bool x) ∧ (x = true → WP C cf a s h Q) ∧ (x = false → WP C cf b s h Q) := by
  unfold WP
  rw [Exe_cond]
  constructor
  · rintro ⟨e, s', h', hx, q⟩
    split at hx <;> first | (cases hx; done) | skip
    · rename_i hc; exact ⟨true, hc, fun _ => ⟨e, s', h', hx, q⟩, fun e => by cases e⟩
    · rename_i hc; exact ⟨false, hc, fun e => (by cases e), fun _ => ⟨e, s', h', hx, q⟩⟩
  · rintro ⟨x, hc, ht, hf⟩
    cases x with
    | true => rw [hc]; exact ht rfl
    | false => rw [hc]; exact hf rfl
theorem WP_block {id : Nat} {b : Code} : WP C cf (.block id b) s h Q ↔ WP C cf b s h (blockQ id Q) := by
  unfold WP
  rw [Exe_block]
  constructor
  · rintro ⟨e, s', h', hx, q⟩
    split at hx
    · rename_i i s1 h1 ho
      refine ⟨.exit i, s1, h1, ho, ?_⟩
      simp only [blockQ_exit]
      split at hx
      · simp only [Option.some.injEq, Prod.mk.injEq] at hx; obtain ⟨rfl, rfl, rfl⟩ := hx; rw [if_pos ‹_›]; exact q
      · simp only [Option.some.injEq, Prod.mk.injEq] at hx; obtain ⟨rfl, rfl, rfl⟩ := hx; rw [if_neg ‹_›]; exact q
    · rename_i hno
      refine ⟨e, s', h', hx, ?_⟩
      cases e with
      | exit i => exact absurd hx (hno _ _ _)
      | _ => exact q
  · rintro ⟨e, s', h', hx, q⟩
    cases e with
    | normal => exact ⟨_, s', h', by rw [hx], q⟩
    | ret => exact ⟨_, s', h', by rw [hx], q⟩
    | exit i =>
      rw [hx]
      simp only [blockQ_exit] at q
      by_cases e : i = id
      · rw [if_pos e] at q; exact ⟨_, s', h', by simp only [if_pos e], q⟩
      · rw [if_neg e] at q; exact ⟨_, s', h', by simp only [if_neg e], q⟩
/-- A loop, by what holds at each round's head and a number that goes down. -/
theorem WP_loop {b : Code} (I : Nat → PT → H → Prop) (n : Nat) (h0 : I n s h) (hs : ∀ n s h, I n s h → WP C cf b s h (thenQ (fun s h => ∃ m, m < n ∧ I m s h) Q)) : WP C cf (.loop b) s h Q := by
  induction n using Nat.strongRecOn generalizing s h with
  | ind n ih =>
    obtain ⟨e, s1, h1, hx, q⟩ := hs n s h h0
    unfold WP
    rw [Exe_loop, hx]
    cases e with
    | normal => obtain ⟨m, hm, hI⟩ := q; exact ih m hm hI
    | exit i => exact ⟨_, s1, h1, rfl, q⟩
    | ret => exact ⟨_, s1, h1, rfl, q⟩

theorem OW_nil : OW C cf ops [] s h K ↔ K s h := ⟨fun ⟨s', h', hx, q⟩ => by simp only [runOps, Option.some.injEq, Prod.mk.injEq] at hx; obtain ⟨rfl, rfl⟩ := hx; exact q, fun q => ⟨s, h, rfl, q⟩⟩
theorem OW_cons {o : Oper} {l : List Oper} : OW C cf ops (o :: l) s h K ↔ if Region.wanted o (yieldedV ops s) = true then ∃ v h', opV C (Call C) cf s h o = some (v, h') ∧ OW C cf ops l (putV s o.dst v) h' K else OW C cf ops l (putV s o.dst AV.undef) h K := by
  unfold OW
  simp only [runOps]
  split
  · constructor
    · rintro ⟨s', h', hx, q⟩
      split at hx <;> first | (cases hx; done) | skip
      rename_i v h1 hv
      exact ⟨v, h1, hv, s', h', hx, q⟩
    · rintro ⟨v, h1, hv, s', h', hx, q⟩
      exact ⟨s', h', by rw [hv]; exact hx, q⟩
  · exact Iff.rfl
/-- An operation that is not guarded. -/
theorem OW_plain {d : Option Tmp} {op : Op} {t : TypeId} {p : String} {af : Array Edge} {l : List Oper} :
    OW C cf ops (⟨d, op, t, p, af, none⟩ :: l) s h K ↔ ∃ v h', opV C (Call C) cf s h ⟨d, op, t, p, af, none⟩ = some (v, h') ∧ OW C cf ops l (putV s d v) h' K := by
  rw [OW_cons, if_pos (show Region.wanted (⟨d, op, t, p, af, none⟩ : Oper) (yieldedV ops s) = true from rfl)]
theorem OW_guard {d : Option Tmp} {op : Op} {t : TypeId} {p : String} {af : Array Edge} {j : Nat} {want : Bool} {l : List Oper} :
    OW C cf ops (⟨d, op, t, p, af, some (j, want)⟩ :: l) s h K ↔ if yieldedV ops s j = some want then ∃ v h', opV C (Call C) cf s h ⟨d, op, t, p, af, some (j, want)⟩ = some (v, h') ∧ OW C cf ops l (putV s d v) h' K else OW C cf ops l (putV s d AV.undef) h K := by
  rw [OW_cons]
  simp only [Region.wanted, beq_iff_eq]

/-- An operation that looks at its operands alone. -/
theorem opV_pure {o : Oper} (ha : active o = false) (hl : isLoad o = false) : opV C (Call C) cf s h o = (match opN C.P s o with | some v => some (v, h) | none => none) := by
  unfold opV
  rw [ha]
  simp only [Bool.false_eq_true, if_false]
  split
  · rename_i t x ho; simp [isLoad, ho] at hl
  · rfl
theorem opV_load {o : Oper} {t : TypeId} {x : Operand} (ho : o.op = .load t x) : opV C (Call C) cf s h o = (match ev s x with | some a => (match loadV C.P h t a with | some v => some (v, h) | none => none) | none => none) := by
  unfold opV
  rw [show active o = false by simp [active, ho]]
  simp only [Bool.false_eq_true, if_false]
  split
  · rename_i t' x' ho'; rw [ho] at ho'; simp only [Op.load.injEq] at ho'; obtain ⟨rfl, rfl⟩ := ho'; rfl
  · rename_i hno; exact absurd ho (hno _ _)
theorem opV_active {o : Oper} (ha : active o = true) : opV C (Call C) cf s h o = opA C (Call C) cf s h o := by
  unfold opV; rw [if_pos ha]

def dat : AV → Option AV
  | .agg cs => match dats1 cs with
    | some l => some (.agg l)
    | none => none
  | .tuple cs => match dats1 cs with
    | some l => some (.tuple l)
    | none => none
  | .func f cs => match dats1 cs with
    | some l => some (.func f l)
    | none => none
  | v => dat1 v
def dats : List AV → Option (List AV)
  | [] => some []
  | v :: r => match dat v, dats r with
    | some a, some l => some (a :: l)
    | _, _ => none

theorem dat1_snap {v v' : AV} (hd : dat1 v = some v') (n : Nat) : snap h (n + 1) v = some v' ∧ reach h (n + 1) v = [] := by
  cases v <;> simp only [dat1, Option.some.injEq] at hd <;> first | (cases hd; done) | (subst hd; exact ⟨rfl, rfl⟩)
theorem dats1_snap : ∀ {l l' : List AV}, dats1 l = some l' → ∀ n, l.length < n → snaps h (n + 1) l = some l' ∧ reachs h (n + 1) l = [] := by
  intro l
  induction l with
  | nil => intro l' hd n _; simp only [dats1, Option.some.injEq] at hd; subst hd; exact ⟨rfl, rfl⟩
  | cons v l ih =>
    intro l' hd n hn
    simp only [List.length_cons] at hn
    obtain ⟨n, rfl⟩ : ∃ k, n = k + 1 := ⟨n - 1, by omega⟩
    simp only [dats1] at hd
    split at hd <;> first | (cases hd; done) | skip
    rename_i a r h1 h2
    simp only [Option.some.injEq] at hd; subst hd
    obtain ⟨e1, e2⟩ := ih h2 n (by omega)
    obtain ⟨e3, e4⟩ := dat1_snap (h := h) h1 n
    exact ⟨by simp only [snaps, e1, e3], by simp only [reachs, e2, e4, List.append_nil]⟩
theorem dat_snap {v v' : AV} (hd : dat v = some v') (n : Nat) (hn : ∀ cs, (v = .agg cs ∨ v = .tuple cs ∨ ∃ f, v = .func f cs) → cs.length < n) : snap h (n + 2) v = some v' ∧ reach h (n + 2) v = [] := by
  unfold dat at hd
  split at hd
  · split at hd <;> first | (cases hd; done) | skip
    rename_i cs l hl
    simp only [Option.some.injEq] at hd; subst hd
    obtain ⟨e1, e2⟩ := dats1_snap (h := h) hl n (hn _ (.inl rfl))
    exact ⟨by simp only [snap, e1], by simp only [reach, e2]⟩
  · split at hd <;> first | (cases hd; done) | skip
    rename_i cs l hl
    simp only [Option.some.injEq] at hd; subst hd
    obtain ⟨e1, e2⟩ := dats1_snap (h := h) hl n (hn _ (.inr (.inl rfl)))
    exact ⟨by simp only [snap, e1], by simp only [reach, e2]⟩
  · split at hd <;> first | (cases hd; done) | skip
    rename_i f cs l hl
    simp only [Option.some.injEq] at hd; subst hd
    obtain ⟨e1, e2⟩ := dats1_snap (h := h) hl n (hn _ (.inr (.inr ⟨_, rfl⟩)))
    exact ⟨by simp only [snap, e1], by simp only [reach, e2]⟩
  · exact dat1_snap hd (n + 1)
/-- Aggregates are no longer than the nesting that is looked into. -/
def short (v : AV) : Bool := match v with
  | .agg cs | .tuple cs | .func _ cs => decide (cs.length < 900000)
  | _ => true
theorem short_spec {v : AV} (hs : short v = true) : ∀ cs, (v = .agg cs ∨ v = .tuple cs ∨ ∃ f, v = .func f cs) → cs.length < 900000 := by
  intro cs hc
  rcases hc with rfl | rfl | ⟨f, rfl⟩ <;> simpa [short] using hs
theorem dats_snap : ∀ {l l' : List AV}, dats l = some l' → l.all short = true → ∀ n, 900000 + l.length + 3 ≤ n → snaps h n l = some l' ∧ reachs h n l = [] := by
  intro l
  induction l with
  | nil => intro l' hd _ n hn; simp only [dats, Option.some.injEq] at hd; subst hd; obtain ⟨n, rfl⟩ : ∃ k, n = k + 1 := ⟨n - 1, by omega⟩; exact ⟨rfl, rfl⟩
  | cons v l ih =>
    intro l' hd hsh n hn
    simp only [List.length_cons] at hn
    obtain ⟨n, rfl⟩ : ∃ k, n = k + 1 := ⟨n - 1, by omega⟩
    simp only [dats] at hd
    split at hd <;> first | (cases hd; done) | skip
    rename_i a r h1 h2
    simp only [Option.some.injEq] at hd; subst hd
    simp only [List.all_cons, Bool.and_eq_true] at hsh
    obtain ⟨e1, e2⟩ := ih h2 hsh.2 n (by omega)
    obtain ⟨m, rfl⟩ : ∃ k, n = k + 2 := ⟨n - 2, by omega⟩
    obtain ⟨e3, e4⟩ := dat_snap (h := h) h1 m (fun cs hc => by have := short_spec hsh.1 cs hc; omega)
    exact ⟨by simp only [snaps, e1, e3], by simp only [reachs, e2, e4, List.append_nil]⟩

/-- A call that leaves the caller's memory alone, as a plain function. -/
noncomputable def CallP (C : Cfg) (f : FuncId) (args : List AV) : Option AV := match Call C f args [] with
  | some (r, h1) => snap (freezeAll h1) deep r
  | none => none
theorem applyCall_strip {f : FuncId} {l l' : List AV} (hm : C.mode f = .strip) (hd : dats l = some l') (hs : l.all short = true) (hl : l.length < 90000) :
    applyCall C (Call C) f l h = (match CallP C f l' with | some v => some (v, h) | none => none) := by
  obtain ⟨e1, e2⟩ := dats_snap (h := h) hd hs deep (by unfold deep; omega)
  unfold applyCall CallP
  rw [hm]
  dsimp only
  rw [e2]
  simp only [freeze, e1]
  cases Call C f l' [] with
  | none => rfl
  | some x =>
    obtain ⟨r, h1⟩ := x
    dsimp only
    simp only [finishV, stripV, ite_self]
    cases snap (freezeAll h1) deep r <;> rfl

/-- A function's outcome, out of its body's. -/
theorem CallP_of {f : FuncId} {args : List AV} {fn : Func} {c : Code} {v : AV} (hp : C.prim f args [] = none) (hf : C.P.funcs[f]? = some fn) (hb : fn.body = some c) (hok : codeOk C f fn.ntmps false c = true) (hn : args.length ≤ fn.ntmps)
    (hw : WP C f c (initS 0 args .leaf) [] (fun e s h => (e = .normal ∨ e = .ret) ∧ ∃ r, resultV C.P s h fn.results.toList = some r ∧ snap (freezeAll h) deep r = some v)) : CallP C f args = some v := by
  obtain ⟨e, s', h', hx, he, r, h1, h2⟩ := hw
  unfold CallP
  rw [Call_eq hp hf hb hok hn, hx]
  rcases he with rfl | rfl <;> simp only [h1, h2]
theorem snap_dat {r v : AV} (hd : dat r = some v) (hs : short r = true) : snap h deep r = some v :=
  (dat_snap (h := h) hd (999998) (fun cs hc => by have := short_spec hs cs hc; omega)).1
end
end Go.V
