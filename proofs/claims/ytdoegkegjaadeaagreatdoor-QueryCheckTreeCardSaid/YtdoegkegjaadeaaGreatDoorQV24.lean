/- Calls with what they leave behind; a range over a function, and its rounds; regions whose order is drawn and that append. -/
import Derived.Test.YtdoegkegjaadeaaGreatDoorQV23
namespace Go.V
open Go
/-- A call's outcome with what holds of what it leaves, worked from its first row. -/
theorem Call_WQ {C : Cfg} {f : FuncId} {args : List AV} {fn : Func} {c : Code} {h : H} {Q : AV → H → Prop} (hp : C.prim f args h = none) (hf : C.P.funcs[f]? = some fn) (hb : fn.body = some c) (hok : codeOk C f fn.ntmps false c = true) (hn : args.length ≤ fn.ntmps)
    (hw : ∀ R : Ex → PT → H → Prop, (∀ e s h, (e = .normal ∨ e = .ret) → (∃ r, resultV C.P s h fn.results.toList = some r ∧ Q r h) → R e s h) → W C f R c [] (initS 0 args .leaf) h) : ∃ r h', Call C f args h = some (r, h') ∧ Q r h' := by
  obtain ⟨e, s', h', hx, he, r, h1, h2⟩ := hw (fun e s h => (e = .normal ∨ e = .ret) ∧ ∃ r, resultV C.P s h fn.results.toList = some r ∧ Q r h) fun _ _ _ he hr => ⟨he, hr⟩
  refine ⟨r, h', ?_, h2⟩
  rw [Call_eq hp hf hb hok hn, hx]
  rcases he with rfl | rfl <;> simp only [h1]
section
variable {C : Cfg} {cf : FuncId} {R : Ex → PT → H → Prop} {k : List It} {s : PT} {h h1 : H} {g : Operand} {ps : Array Tmp} {assign body : Code} {gf : FuncId} {cap : List AV} {fn : Func} {v : AV} {L : LoopV}
theorem W_range_on (hg : ev s g = some (.func gf cap)) (hf : C.P.funcs[cf]? = some fn) (hb : hasBody C.P gf = true)
    (hc : Call C gf (.yield h.length :: cap) (h ++ [.loop ⟨cf, s, fn.ntmps, ps, assign, body⟩ .ready]) = some (v, h1)) (hl : h1[h.length]? = some (.loop L .ready))
    (hk : N C cf R k s (h1.set h.length (.loop L .over))) : W C cf R (.rangeFunc g ps assign body) k s h := by
  refine ⟨.normal, s, h1.set h.length (.loop L .over), ?_, hk⟩
  rw [Exe_range, hg, hf]
  dsimp only
  rw [if_pos hb, hc]
  dsimp only
  rw [hl]
theorem W_range_out {id : Nat} (hg : ev s g = some (.func gf cap)) (hf : C.P.funcs[cf]? = some fn) (hb : hasBody C.P gf = true)
    (hc : Call C gf (.yield h.length :: cap) (h ++ [.loop ⟨cf, s, fn.ntmps, ps, assign, body⟩ .ready]) = some (v, h1)) (hl : h1[h.length]? = some (.loop L (.done (.exit id))))
    (hk : X C cf R id k s (h1.set h.length (.loop L .over))) : W C cf R (.rangeFunc g ps assign body) k s h := by
  refine ⟨.exit id, s, h1.set h.length (.loop L .over), ?_, hk⟩
  rw [Exe_range, hg, hf]
  dsimp only
  rw [if_pos hb, hc]
  dsimp only
  rw [hl]
end
/-- A round, worked from its first row. -/
theorem round_W {C : Cfg} {i : Nat} {args : List AV} {h : H} {L : LoopV} {Q : Ex → LoopV → H → Prop} (hi : h[i]? = some (.loop L .ready)) (hc : args.length = L.ps.size ∧ L.ps.all (fun p => decide (p < L.n)) ∧ codeOk C L.cf L.n true L.assign ∧ codeOk C L.cf L.n true L.body)
    (hw : W C L.cf (fun e s1 h1 => e = .normal ∧ ∃ L1, h1[i]? = some (.loop L1 .ready) ∧ W C L.cf (fun e _s2 h2 => ∃ L2, h2[i]? = some (.loop L2 .busy) ∧ Q e L2 h2) L.body [] s1 (h1.set i (.loop L1 .busy))) L.assign [] (setPs (L.ps.toList.zip args) L.s) h) :
    ∃ e L2 h2, Call C (yb C.P + i) args h = (match e with
      | .normal => some (.bool true, h2.set i (.loop L2 .ready))
      | e => some (.bool false, h2.set i (.loop L2 (.done e)))) ∧ Q e L2 h2 := by
  obtain ⟨e, s1, h1, hx1, he, L1, hi1, hw2⟩ := hw
  subst he
  obtain ⟨e2, s2, h2, hx2, L2, hi2, q⟩ := hw2
  refine ⟨e2, L2, h2, ?_, q⟩
  rw [Call_round hi hc hx1 hi1 hx2 hi2]
  cases e2 <;> rfl

/- A region whose order is drawn. -/
/-- The temporary by which an operation comes to memory. -/
def memT (o : Oper) : Option Tmp := match o.op with
  | .load _ (.tmp t) => some t
  | .call { callee := .builtin .append, args, .. } => match args.toList with
    | [.tmp t, _] => some t
    | _ => none
  | _ => none
/-- It is either known by a temporary, or not at all. -/
def memOk (o : Oper) : Bool := match o.op with
  | .load _ (.tmp _) => true
  | .load _ _ => false
  | .call { callee := .builtin .append, args, .. } => match args.toList with
    | [.tmp _, _] => true
    | [_, _] => false
    | _ => true
  | _ => true
/-- What such operations look at is not written later on in the region. -/
def stab : List Oper → Bool
  | [] => true
  | o :: r => memOk o && (match memT o with | some t => (o :: r).all fun x => !(x.dst == some t) | none => true) && stab r
def ldIds (s : PT) : List Oper → List Nat
  | [] => []
  | o :: r => ldId s o ++ ldIds s r
def apIds (s : PT) : List Oper → List Nat
  | [] => []
  | o :: r => appId s o ++ apIds s r
def idsOk (l : List Oper) (s : PT) : Bool := (ldIds s l).all fun i => !(apIds s l).contains i
theorem runOps_get {C : Cfg} {cf : FuncId} {ops : Array Oper} {run : Run} : ∀ (l : List Oper) (s : PT) (h : H) (s' : PT) (h' : H), runOps C run cf ops l s h = some (s', h') → ∀ t, (l.all fun x => !(x.dst == some t)) = true → s'.get t = s.get t := by
  intro l
  induction l with
  | nil => intro s h s' h' hr t _; simp only [runOps, Option.some.injEq, Prod.mk.injEq] at hr; rw [hr.1]
  | cons o l ih =>
    intro s h s' h' hr t ht
    simp only [List.all_cons, Bool.and_eq_true] at ht
    have hput : ∀ v, (putV s o.dst v).get t = s.get t := by
      intro v
      cases hd : o.dst with
      | none => rfl
      | some d =>
        have : t ≠ d := by
          have h1 := ht.1
          rw [hd] at h1
          intro e; subst e; simp at h1
        simp only [putV, PT.get_set, if_neg this]
    simp only [runOps] at hr
    split at hr
    · split at hr <;> first | (cases hr; done) | skip
      rw [ih _ _ _ _ hr t ht.2, hput]
    · rw [ih _ _ _ _ hr t ht.2, hput]
theorem ldId_eq {s s' : PT} {o : Oper} (hm : memOk o = true) (ht : ∀ t, memT o = some t → s'.get t = s.get t) : ldId s' o = ldId s o := by
  unfold ldId
  split
  · rename_i t x hx
    cases x with
    | tmp t => have := ht t (by simp [memT, hx]); simp only [ev, this]
    | _ => simp [memOk, hx] at hm
  · rfl
theorem appId_eq {s s' : PT} {o : Oper} (hm : memOk o = true) (ht : ∀ t, memT o = some t → s'.get t = s.get t) : appId s' o = appId s o := by
  unfold appId
  split
  · rename_i args _ _ hx
    split
    · rename_i x y hxy
      cases x with
      | tmp t => have := ht t (by simp [memT, hx, hxy]); simp only [ev, this]
      | _ => simp [memOk, hx, hxy] at hm
    · rfl
  · rfl
theorem drawIds_sub {C : Cfg} {cf : FuncId} {ops : Array Oper} {run : Run} : ∀ (l : List Oper) (s : PT) (h : H) (s' : PT) (h' : H), runOps C run cf ops l s h = some (s', h') → stab l = true →
    (∀ i ∈ (drawIds C run cf ops l s h).1, i ∈ ldIds s' l) ∧ (∀ i ∈ (drawIds C run cf ops l s h).2, i ∈ apIds s' l) := by
  intro l
  induction l with
  | nil => intro s h s' h' _ _; simp [drawIds]
  | cons o l ih =>
    intro s h s' h' hr hs
    simp only [stab, Bool.and_eq_true] at hs
    obtain ⟨⟨hm, hd⟩, hs⟩ := hs
    have hg : ∀ t, memT o = some t → s'.get t = s.get t := fun t ht => by
      rw [ht] at hd
      exact runOps_get _ _ _ _ _ hr t hd
    have e1 := ldId_eq hm hg
    have e2 := appId_eq hm hg
    simp only [runOps] at hr
    simp only [drawIds, ldIds, apIds]
    split at hr
    · rename_i hw
      rw [if_pos hw]
      split at hr <;> first | (cases hr; done) | skip
      rename_i v h1 hv
      obtain ⟨a, b⟩ := ih _ _ _ _ hr hs
      try rw [hv]
      dsimp only
      refine ⟨fun i hi => ?_, fun i hi => ?_⟩
      · rw [List.mem_append] at hi ⊢
        exact hi.imp (fun h => by rw [e1]; exact h) (a i)
      · rw [List.mem_append] at hi ⊢
        exact hi.imp (fun h => by rw [e2]; exact h) (b i)
    · rename_i hw
      rw [if_neg hw]
      obtain ⟨a, b⟩ := ih _ _ _ _ hr hs
      exact ⟨fun i hi => List.mem_append.2 (.inr (a i hi)), fun i hi => List.mem_append.2 (.inr (b i hi))⟩
section
variable {C : Cfg} {cf : FuncId} {R : Ex → PT → H → Prop} {k : List It} {s : PT} {h : H}
/-- A region whose order is drawn, and that appends: behind it, what was loaded from is not what was appended to. -/
theorem W_regionS (id : Nat) (o : List Oper) (hm : C.mix cf id = false) (hs : stab o = true) (hw : OW C cf o.toArray o s h fun s' h' => idsOk o s' = true ∧ N C cf R k s' h') : W C cf R (.region id o.toArray true) k s h := by
  obtain ⟨s', h', hr, hi, hk⟩ := hw
  refine (W_regionA id o.toArray hm ?_).2 ⟨s', h', hr, hk⟩
  obtain ⟨a, b⟩ := drawIds_sub o s h s' h' hr hs
  unfold drawOk
  simp only [Bool.not_true, Bool.false_or, Bool.or_eq_true]
  refine .inr ?_
  rw [List.all_eq_true]
  intro i hi'
  unfold idsOk at hi
  rw [List.all_eq_true] at hi
  have h1 := hi i (a i hi')
  simp only [Bool.not_eq_true', List.contains_eq_mem, decide_eq_false_iff_not] at h1 ⊢
  exact fun hc => h1 (b i hc)
end
end Go.V
