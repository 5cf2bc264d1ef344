/- A region whose order is drawn: whatever the order, it comes to what the text's order comes to. -/
import Derived.Test.YtdoegkegjaadeaaGreatDoorQV14
namespace Go.V
open Go

/-- What 'before' knows. -/
theorem before_list (F : Array Nat → Oper → Nat) : ∀ (l : List Oper) (acc : Array Nat), (l.foldl (fun acc o => acc.push (F acc o)) acc).size = acc.size + l.length ∧
    (∀ m, m < acc.size → (l.foldl (fun acc o => acc.push (F acc o)) acc)[m]? = acc[m]?) ∧
    ∀ (j : Nat) o, l[j]? = some o → ∃ accj : Array Nat, accj.size = acc.size + j ∧ (∀ m, m < accj.size → (l.foldl (fun acc o => acc.push (F acc o)) acc)[m]? = accj[m]?) ∧ (l.foldl (fun acc o => acc.push (F acc o)) acc)[acc.size + j]? = some (F accj o) := by
  intro l
  induction l with
  | nil => intro acc; simp
  | cons x l ih =>
    intro acc
    obtain ⟨h1, h2, h3⟩ := ih (acc.push (F acc x))
    simp only [List.foldl_cons]
    refine ⟨by rw [h1]; simp; omega, fun m hm => ?_, fun j o ho => ?_⟩
    · rw [h2 m (by simp; omega), Array.getElem?_push_lt hm]; simp [hm]
    · cases j with
      | zero =>
        simp only [List.getElem?_cons_zero, Option.some.injEq] at ho; subst ho
        refine ⟨acc, by simp, fun m hm => ?_, ?_⟩
        · rw [h2 m (by simp; omega), Array.getElem?_push_lt hm]; simp [hm]
        · rw [Nat.add_zero, h2 _ (by simp)]; simp
      | succ j =>
        simp only [List.getElem?_cons_succ] at ho
        obtain ⟨accj, k1, k2, k3⟩ := h3 j o ho
        refine ⟨accj, by rw [k1]; simp; omega, k2, ?_⟩
        rw [← k3]; congr 1; simp; omega

theorem edges_bits (acc : Array Nat) (i : Nat) : ∀ (l : List Edge) (s : Nat), (l.foldl (fun s e => if Region.binds .any e then s ||| 2 ^ e.on ||| acc.getD e.on 0 else s) s).testBit i = true →
    s.testBit i = true ∨ ∃ e ∈ l, Region.binds .any e = true ∧ (i = e.on ∨ (acc.getD e.on 0).testBit i = true) := by
  intro l
  induction l with
  | nil => intro s h; exact .inl h
  | cons e l ih =>
    intro s h
    simp only [List.foldl_cons] at h
    rcases ih _ h with h | ⟨e', he, hb, hr⟩
    · split at h
      · rename_i hb
        simp only [Nat.testBit_or, Bool.or_eq_true, Nat.testBit_two_pow, decide_eq_true_eq] at h
        rcases h with (h | h) | h
        · exact .inl h
        · exact .inr ⟨e, by simp, hb, .inl h.symm⟩
        · exact .inr ⟨e, by simp, hb, .inr h⟩
      · exact .inl h
    · exact .inr ⟨e', by simp [he], hb, hr⟩

theorem before_spec (ops : Array Oper) (j : Nat) (o : Oper) (ho : ops[j]? = some o) (i : Nat) (h : ((Region.before ops).getD j 0).testBit i = true) :
    ∃ e ∈ o.after, Region.binds .any e = true ∧ (i = e.on ∨ (e.on < j ∧ ((Region.before ops).getD e.on 0).testBit i = true)) := by
  have hb : Region.before ops = ops.toList.foldl (fun acc o => acc.push (o.after.foldl (fun s e => if Region.binds .any e then s ||| 2 ^ e.on ||| acc.getD e.on 0 else s) 0)) #[] := by
    simp only [Region.before, Array.foldl_toList]
  obtain ⟨_, _, h3⟩ := before_list (fun acc o => o.after.foldl (fun s e => if Region.binds .any e then s ||| 2 ^ e.on ||| acc.getD e.on 0 else s) 0) ops.toList #[]
  obtain ⟨accj, k1, k2, k3⟩ := h3 j o (by simpa using ho)
  simp only [List.size_toArray, List.length_nil, Nat.zero_add] at k1 k3
  rw [← hb] at k2 k3
  rw [Array.getD_eq_getD_getElem?, k3] at h
  simp only [Option.getD_some] at h
  rw [← Array.foldl_toList] at h
  rcases edges_bits accj i _ _ h with h | ⟨e, he, hbi, hr⟩
  · simp at h
  · refine ⟨e, by simpa using he, hbi, ?_⟩
    rcases hr with hr | hr
    · exact .inl hr
    · right
      by_cases hlt : e.on < accj.size
      · refine ⟨by omega, ?_⟩
        rw [Array.getD_eq_getD_getElem?, k2 _ hlt, ← Array.getD_eq_getD_getElem?]; exact hr
      · rw [Array.getD_eq_getD_getElem?, Array.getElem?_eq_none (by omega)] at hr; simp at hr

theorem before_closed {ops : Array Oper} {W : Nat → Bool} (hc : ∀ j o, ops[j]? = some o → W j = true → ∀ e ∈ o.after, Region.binds .any e = true → W e.on = true) :
    ∀ (j : Nat) (o : Oper), ops[j]? = some o → (∀ e ∈ o.after, Region.binds .any e = true → W e.on = true) → ∀ i, ((Region.before ops).getD j 0).testBit i = true → W i = true := by
  intro j
  induction j using Nat.strongRecOn with
  | ind j ih =>
    intro o ho he i hi
    obtain ⟨e, he1, he2, hr⟩ := before_spec ops j o ho i hi
    have hw := he e he1 he2
    rcases hr with rfl | ⟨hlt, hb⟩
    · exact hw
    · cases ho2 : ops[e.on]? with
      | none =>
        have : j < ops.size := (Array.getElem?_eq_some_iff.1 ho).1
        rw [Array.getElem?_eq_none_iff] at ho2; omega
      | some o2 => exact ih e.on hlt o2 ho2 (fun e' he' hb' => hc e.on o2 ho2 hw e' he' hb') i hb

theorem orderOk_spec {C : Cfg} {ops : Array Oper} (h : orderOk C ops = true) {j : Nat} {y : Oper} (hy : ops[j]? = some y) :
    (∀ e ∈ y.after, Region.binds .any e = true → e.on < j) ∧ ∀ i x, i < j → ops[i]? = some x → clash C ops x y = true → ((Region.before ops).getD j 0).testBit i = true := by
  simp only [orderOk, List.all_eq_true, List.mem_range] at h
  have hj : j < ops.size := (Array.getElem?_eq_some_iff.1 hy).1
  have := h j hj
  rw [hy] at this
  simp only [Bool.and_eq_true, List.all_eq_true, List.mem_range] at this
  refine ⟨fun e he hb => ?_, fun i x hi hx hc => ?_⟩
  · have := this.1
    simp only [edgesLow, Array.all_eq_true_iff_forall_mem, Bool.or_eq_true, Bool.not_eq_true', decide_eq_true_eq] at this
    rcases this e he with h | h
    · rw [hb] at h; cases h
    · exact h
  · have := this.2 i hi
    rw [hx] at this
    simp only [Bool.or_eq_true, Bool.not_eq_true'] at this
    rcases this with h | h
    · rw [hc] at h; cases h
    · exact h

/-- The slots behind those operations that W names. -/
def sel (ops : Array Oper) (val : Nat → AV) (s0 : PT) (W : Nat → Bool) : Nat → PT
  | 0 => s0
  | m + 1 => if W m then putV (sel ops val s0 W m) ((ops[m]?).bind (·.dst)) (val m) else sel ops val s0 W m

section
variable {ops : Array Oper} {val : Nat → AV} {s0 : PT}
theorem putV_get (s : PT) (d : Option Tmp) (v : AV) (t : Tmp) : (putV s d v).get t = if d = some t then v else s.get t := by
  cases d with
  | none => simp [putV]
  | some u =>
    simp only [putV, PT.get_set, Option.some.injEq]
    by_cases e : t = u
    · simp [e]
    · rw [if_neg e, if_neg (fun k => e k.symm)]
theorem sel_congr {W W' : Nat → Bool} {t : Tmp} : ∀ m, (∀ i, i < m → (ops[i]?).bind (·.dst) = some t → W i = W' i) → (sel ops val s0 W m).get t = (sel ops val s0 W' m).get t := by
  intro m
  induction m with
  | zero => intro _; rfl
  | succ m ih =>
    intro h
    have := ih (fun i hi => h i (by omega))
    simp only [sel]
    by_cases hd : (ops[m]?).bind (·.dst) = some t
    · rw [h m (by omega) hd]
      split
      · rw [putV_get, putV_get, if_pos hd, if_pos hd]
      · exact this
    · have e1 : ∀ b : Bool, ∀ s, (if b then putV s ((ops[m]?).bind (·.dst)) (val m) else s).get t = s.get t := fun b s => by
        cases b
        · rfl
        · simp only [if_true]; rw [putV_get, if_neg hd]
      rw [e1, e1]; exact this
theorem sel_stop {W : Nat → Bool} {t : Tmp} {m : Nat} : ∀ M, m ≤ M → (∀ i, m ≤ i → i < M → (ops[i]?).bind (·.dst) = some t → W i = false) → (sel ops val s0 W M).get t = (sel ops val s0 W m).get t := by
  intro M
  induction M with
  | zero => intro h _; have : m = 0 := by omega
            subst this; rfl
  | succ M ih =>
    intro h hs
    by_cases e : m = M + 1
    · subst e; rfl
    · rw [← ih (by omega) (fun i h1 h2 => hs i h1 (by omega))]
      simp only [sel]
      by_cases hd : (ops[M]?).bind (·.dst) = some t
      · rw [hs M (by omega) (by omega) hd]; rfl
      · split
        · rw [putV_get, if_neg hd]
        · rfl

theorem getD_any {L : Array Bool} {i : Nat} (h : i < L.size) : L.getD i true = L.getD i false := by simp [Array.getD, h]
/-- How many are still to come. -/
def unl (W : Nat → Bool) : Nat → Nat
  | 0 => 0
  | m + 1 => unl W m + if W m then 0 else 1
theorem unl_zero {W : Nat → Bool} : ∀ m, unl W m = 0 → ∀ i, i < m → W i = true := by
  intro m
  induction m with
  | zero => intro _ i hi; omega
  | succ m ih =>
    intro h i hi
    simp only [unl] at h
    by_cases e : i = m
    · subst e; cases hw : W i with
      | true => rfl
      | false => rw [hw] at h; simp at h
    · exact ih (by omega) i (by omega)
theorem unl_set {W W' : Nat → Bool} {j : Nat} (hj : W j = false) (hj' : W' j = true) (h : ∀ i, i ≠ j → W' i = W i) : ∀ m, (j < m → unl W' m + 1 = unl W m) ∧ (m ≤ j → unl W' m = unl W m) := by
  intro m
  induction m with
  | zero => exact ⟨fun h => by omega, fun _ => rfl⟩
  | succ m ih =>
    refine ⟨fun hm => ?_, fun hm => ?_⟩
    · simp only [unl]
      by_cases e : m = j
      · subst e; rw [ih.2 (Nat.le_refl _), hj, hj']; simp
      · rw [h m e, ← ih.1 (by omega)]; omega
    · simp only [unl]
      rw [ih.2 (by omega), h m (by omega)]
end

/-- The run in the text's order, step by step. -/
structure Trace (C : Cfg) (run : FuncId → List AV → H → Option (AV × H)) (cf : FuncId) (ops : Array Oper) (s0 : PT) (h0 : H) (val : Nat → AV) (st : Nat → H) : Prop where
  zero : st 0 = h0
  step : ∀ i o, ops[i]? = some o → (Region.wanted o (yieldedV ops (sel ops val s0 (fun _ => true) i)) = true ∧ opV C run cf (sel ops val s0 (fun _ => true) i) (st i) o = some (val i, st (i + 1))) ∨
    (Region.wanted o (yieldedV ops (sel ops val s0 (fun _ => true) i)) = false ∧ val i = AV.undef ∧ st (i + 1) = st i)

theorem trace_of {C : Cfg} {run : FuncId → List AV → H → Option (AV × H)} {cf : FuncId} {ops : Array Oper} {s0 : PT} : ∀ (l : List Oper) (k : Nat) (val : Nat → AV) (st : Nat → H), (∀ j, l[j]? = ops[k + j]?) →
    ∀ s' h', runOps C run cf ops l (sel ops val s0 (fun _ => true) k) (st k) = some (s', h') →
    ∃ (val' : Nat → AV) (st' : Nat → H), (∀ i, i < k → val' i = val i) ∧ (∀ i, i ≤ k → st' i = st i) ∧ sel ops val' s0 (fun _ => true) (k + l.length) = s' ∧ st' (k + l.length) = h' ∧
      ∀ i o, k ≤ i → ops[i]? = some o → (Region.wanted o (yieldedV ops (sel ops val' s0 (fun _ => true) i)) = true ∧ opV C run cf (sel ops val' s0 (fun _ => true) i) (st' i) o = some (val' i, st' (i + 1))) ∨
        (Region.wanted o (yieldedV ops (sel ops val' s0 (fun _ => true) i)) = false ∧ val' i = AV.undef ∧ st' (i + 1) = st' i) := by
  have selv : ∀ (v v' : Nat → AV) m, (∀ i, i < m → v' i = v i) → sel ops v' s0 (fun _ => true) m = sel ops v s0 (fun _ => true) m := by
    intro v v' m
    induction m with
    | zero => intro _; rfl
    | succ m ih => intro h; simp only [sel, if_true]; rw [ih (fun i hi => h i (by omega)), h m (by omega)]
  intro l
  induction l with
  | nil =>
    intro k val st hl s' h' hr
    simp only [runOps, Option.some.injEq, Prod.mk.injEq] at hr
    refine ⟨val, st, fun _ _ => rfl, fun _ _ => rfl, hr.1, hr.2, fun i o hi ho => ?_⟩
    have := hl (i - k)
    rw [show k + (i - k) = i by omega, ho] at this
    simp at this
  | cons o l ih =>
    intro k val st hl s' h' hr
    have ho : ops[k]? = some o := by have := hl 0; simpa using this.symm
    have hl' : ∀ j, l[j]? = ops[k + 1 + j]? := fun j => by have := hl (j + 1); rw [show k + 1 + j = k + (j + 1) by omega]; simpa using this
    have build : ∀ v h1, runOps C run cf ops l (putV (sel ops val s0 (fun _ => true) k) o.dst v) h1 = some (s', h') →
        ∃ (val' : Nat → AV) (st' : Nat → H), (∀ i, i < k → val' i = val i) ∧ (∀ i, i ≤ k → st' i = st i) ∧ val' k = v ∧ st' (k + 1) = h1 ∧ sel ops val' s0 (fun _ => true) (k + (o :: l).length) = s' ∧ st' (k + (o :: l).length) = h' ∧
          ∀ i o, k + 1 ≤ i → ops[i]? = some o → (Region.wanted o (yieldedV ops (sel ops val' s0 (fun _ => true) i)) = true ∧ opV C run cf (sel ops val' s0 (fun _ => true) i) (st' i) o = some (val' i, st' (i + 1))) ∨
            (Region.wanted o (yieldedV ops (sel ops val' s0 (fun _ => true) i)) = false ∧ val' i = AV.undef ∧ st' (i + 1) = st' i) := by
      intro v h1 hr
      let val1 : Nat → AV := fun i => if i = k then v else val i
      let st1 : Nat → H := fun i => if i = k + 1 then h1 else st i
      have e1 : sel ops val1 s0 (fun _ => true) (k + 1) = putV (sel ops val s0 (fun _ => true) k) o.dst v := by
        simp only [sel, if_true, ho, Option.bind_some]
        rw [selv val val1 k (fun i hi => by simp only [val1]; rw [if_neg (by omega)])]
        simp [val1]
      obtain ⟨val', st', q1, q2, q3, q4, q5⟩ := ih (k + 1) val1 st1 hl' s' h' (by rw [e1]; simpa [st1] using hr)
      refine ⟨val', st', fun i hi => by rw [q1 i (by omega)]; simp only [val1]; rw [if_neg (by omega)], fun i hi => by rw [q2 i (by omega)]; simp only [st1]; rw [if_neg (by omega)], by rw [q1 k (by omega)]; simp [val1],
        by rw [q2 (k + 1) (Nat.le_refl _)]; simp [st1], by rw [← q3]; congr 1; simp; omega, by rw [← q4]; congr 1; simp; omega, q5⟩
    simp only [runOps] at hr
    split at hr
    · rename_i hw
      split at hr <;> first | (cases hr; done) | skip
      rename_i v h1 hv
      obtain ⟨val', st', q1, q2, q3, q4, q5, q6, q7⟩ := build v h1 hr
      refine ⟨val', st', q1, q2, q5, q6, fun i o' hi ho' => ?_⟩
      by_cases e : i = k
      · subst e
        rw [ho] at ho'; simp only [Option.some.injEq] at ho'; subst ho'
        left
        rw [selv val val' i q1, q2 i (Nat.le_refl _), q3, q4]
        exact ⟨hw, hv⟩
      · exact q7 i o' (by omega) ho'
    · rename_i hw
      obtain ⟨val', st', q1, q2, q3, q4, q5, q6, q7⟩ := build AV.undef (st k) hr
      refine ⟨val', st', q1, q2, q5, q6, fun i o' hi ho' => ?_⟩
      by_cases e : i = k
      · subst e
        rw [ho] at ho'; simp only [Option.some.injEq] at ho'; subst ho'
        right
        rw [selv val val' i q1, q2 i (Nat.le_refl _), q3, q4]
        exact ⟨by simpa using hw, rfl, rfl⟩
      · exact q7 i o' (by omega) ho'

theorem drawIds_spec {C : Cfg} {run : FuncId → List AV → H → Option (AV × H)} {cf : FuncId} {ops : Array Oper} {s0 : PT} {h0 : H} {val : Nat → AV} {st : Nat → H} (tr : Trace C run cf ops s0 h0 val st) : ∀ (l : List Oper) (k : Nat), (∀ j, l[j]? = ops[k + j]?) →
    ∀ i o, k ≤ i → ops[i]? = some o → Region.wanted o (yieldedV ops (sel ops val s0 (fun _ => true) i)) = true →
      (∀ id ∈ ldId (sel ops val s0 (fun _ => true) i) o, id ∈ (drawIds C run cf ops l (sel ops val s0 (fun _ => true) k) (st k)).1) ∧
      (∀ id ∈ appId (sel ops val s0 (fun _ => true) i) o, id ∈ (drawIds C run cf ops l (sel ops val s0 (fun _ => true) k) (st k)).2) := by
  intro l
  induction l with
  | nil =>
    intro k hl i o hi ho
    have := hl (i - k)
    rw [show k + (i - k) = i by omega, ho] at this
    simp at this
  | cons x l ih =>
    intro k hl i o hi ho hw
    have hx : ops[k]? = some x := by have := hl 0; simpa using this.symm
    have hl' : ∀ j, l[j]? = ops[k + 1 + j]? := fun j => by have := hl (j + 1); rw [show k + 1 + j = k + (j + 1) by omega]; simpa using this
    have hs : ∀ v, val k = v → putV (sel ops val s0 (fun _ => true) k) x.dst v = sel ops val s0 (fun _ => true) (k + 1) := fun v hv => by
      simp only [sel, if_true, hx, Option.bind_some, hv]
    simp only [drawIds]
    rcases tr.step k x hx with ⟨hw1, hv⟩ | ⟨hw1, hval, hst⟩
    · rw [if_pos hw1, hv]
      dsimp only
      rw [hs _ rfl]
      by_cases e : i = k
      · subst e
        rw [hx] at ho; simp only [Option.some.injEq] at ho; subst ho
        exact ⟨fun id h => List.mem_append_left _ h, fun id h => List.mem_append_left _ h⟩
      · obtain ⟨a, b⟩ := ih (k + 1) hl' i o (by omega) ho hw
        exact ⟨fun id h => List.mem_append_right _ (a id h), fun id h => List.mem_append_right _ (b id h)⟩
    · rw [if_neg (by rw [hw1]; simp), hs _ hval, ← hst]
      by_cases e : i = k
      · subst e
        rw [hx] at ho; simp only [Option.some.injEq] at ho; subst ho
        rw [hw] at hw1; cases hw1
      · exact ih (k + 1) hl' i o (by omega) ho hw

theorem wanted_congr {ops : Array Oper} {o : Oper} {s s' : PT} (h : ∀ t ∈ reads ops o, s.get t = s'.get t) : Region.wanted o (yieldedV ops s) = Region.wanted o (yieldedV ops s') := by
  unfold Region.wanted
  split
  · rfl
  · rename_i j want hg
    congr 1
    unfold yieldedV
    cases hd : (ops[j]?).bind (·.dst) with
    | none => rfl
    | some t =>
      have : t ∈ reads ops o := by simp [reads, hg, hd]
      simp only [h t this]

section
variable {B : Nat} {A0 : Nat → Nat → Prop} {n : Nat} {ro : Option Nat} {nd : Nat}

set_option maxHeartbeats 1000000 in
theorem draw_wp [DFlag] {C : Cfg} (hP : Good C.P) {run : FuncId → List AV → H → Option (AV × H)} (hrun : Ok C.P run) {cf : FuncId} {ops : Array Oper} {Q : Exit → Act → World → Prop} (hok : orderOk C ops = true)
    (hd : ∀ (i : Nat) o, ops[i]? = some o → ∀ t, o.dst = some t → t < n) {σ0 : List (Option Nat)} {h0 : H} {w0 : World} {s0 : PT} {a0 : Act} {val : Nat → AV} {st : Nat → H} (tr : Trace C run cf ops s0 h0 val st)
    (hdis : ∀ q oq j oj, ops[q]? = some oq → ops[j]? = some oj → Region.wanted oq (yieldedV ops (sel ops val s0 (fun _ => true) q)) = true → Region.wanted oj (yieldedV ops (sel ops val s0 (fun _ => true) j)) = true →
      ∀ id ∈ ldId (sel ops val s0 (fun _ => true) j) oj, id ∉ appId (sel ops val s0 (fun _ => true) q) oq)
    (hQ : ∀ σ' w' a', HRel C.P B A0 σ' (st ops.size) w' → Step C.P B A0 σ0 h0 w0 σ' (st ops.size) w' → SRel C.P (Alw C.P B A0 σ' (st ops.size)) σ' (st ops.size) w' n (sel ops val s0 (fun _ => true) ops.size) a'.tmps → a'.defers = a0.defers → Q .normal a' w') :
    ∀ (fuel : Nat) (L : Array Bool) (a : Act) (w : World) (σ : List (Option Nat)) (k : Nat), L.size = ops.size → k ≤ ops.size → HRel C.P B A0 σ (st k) w → Step C.P B A0 σ0 h0 w0 σ (st k) w →
      SRel C.P (Alw C.P B A0 σ (st k)) σ (st k) w n (sel ops val s0 (fun i => L.getD i false) ops.size) a.tmps → a.defers = a0.defers →
      (∀ (i : Nat) o, ops[i]? = some o → active o = true → (L.getD i false = true ↔ i < k)) →
      (∀ j o, ops[j]? = some o → L.getD j false = true → ∀ e ∈ o.after, Region.binds .any e = true → L.getD e.on false = true) →
      unl (fun i => L.getD i false) ops.size ≤ fuel → wpAnyIn (FR ro) nd C.P .any ops Q fuel L a w := by
  -- memory between two places
  have idle : ∀ i m, i ≤ m → m ≤ ops.size → (∀ q o, i ≤ q → q < m → ops[q]? = some o → active o = false) → st m = st i := by
    intro i m hi
    induction m with
    | zero => intro _ _; have : i = 0 := by omega
              subst this; rfl
    | succ m ih =>
      intro hm hq
      by_cases e : i = m + 1
      · subst e; rfl
      · rw [← ih (by omega) (by omega) (fun q o h1 h2 => hq q o h1 (by omega))]
        have ho : ops[m]? = some (ops[m]'(by omega)) := Array.getElem?_eq_getElem _
        rcases tr.step m _ ho with ⟨_, hv⟩ | ⟨_, _, he⟩
        · exact opV_idle hv (hq m _ (by omega) (by omega) ho)
        · exact he
  have soft : ∀ (id : Nat), (∀ q oq, ops[q]? = some oq → Region.wanted oq (yieldedV ops (sel ops val s0 (fun _ => true) q)) = true → id ∉ appId (sel ops val s0 (fun _ => true) q) oq) →
      ∀ i m, i ≤ m → m ≤ ops.size → (∀ q o, i ≤ q → q < m → ops[q]? = some o → active o = true → clash.loud C o = false) →
      ∀ cs stt, (st i)[id]? = some (.cells cs stt) → ∃ st', (st m)[id]? = some (.cells cs st') ∧ (st' = .dead ↔ stt = .dead) := by
    intro id hid i m hi
    induction m with
    | zero => intro _ _ cs stt h; have : i = 0 := by omega
              subst this; exact ⟨stt, h, Iff.rfl⟩
    | succ m ih =>
      intro hm hq cs stt hc
      by_cases e : i = m + 1
      · subst e; exact ⟨stt, hc, Iff.rfl⟩
      · obtain ⟨s1, hc1, e1⟩ := ih (by omega) (by omega) (fun q o h1 h2 => hq q o h1 (by omega)) cs stt hc
        have ho : ops[m]? = some (ops[m]'(by omega)) := Array.getElem?_eq_getElem _
        rcases tr.step m _ ho with ⟨hw, hv⟩ | ⟨_, _, he⟩
        · cases ha : active (ops[m]'(by omega)) with
          | false => rw [opV_idle hv ha]; exact ⟨s1, hc1, e1⟩
          | true =>
            unfold opV at hv
            rw [if_pos ha] at hv
            obtain ⟨s2, hc2, e2⟩ := opA_NL hv (hq m _ (by omega) (by omega) ho ha) id cs s1 (hid m _ ho hw) hc1
            exact ⟨s2, hc2, e2.trans e1⟩
        · rw [he]; exact ⟨s1, hc1, e1⟩
  have final : ∀ (L : Array Bool) (a : Act) (w : World) (σ : List (Option Nat)) (k : Nat), L.size = ops.size → k ≤ ops.size → HRel C.P B A0 σ (st k) w → Step C.P B A0 σ0 h0 w0 σ (st k) w →
      SRel C.P (Alw C.P B A0 σ (st k)) σ (st k) w n (sel ops val s0 (fun i => L.getD i false) ops.size) a.tmps → a.defers = a0.defers →
      (∀ (i : Nat) o, ops[i]? = some o → active o = true → (L.getD i false = true ↔ i < k)) → (∀ i, i < ops.size → L.getD i false = true) → Q .normal a w := by
    intro L a w σ k hL hk hr hst hs hdf hact hall
    have e1 : st ops.size = st k := idle k ops.size hk (Nat.le_refl _) (fun q o h1 h2 ho => by
      cases ha : active o with
      | false => rfl
      | true => have := (hact q o ho ha).1 (hall q h2); omega)
    rw [← e1] at hr hst hs
    refine hQ σ w a hr hst ⟨hs.1, fun t => ?_⟩ hdf
    have := hs.2 t
    rwa [sel_congr (W' := fun _ => true) ops.size (fun i hi _ => hall i hi)] at this
  intro fuel
  induction fuel with
  | zero =>
    intro L a w σ k hL hk hr hst hs hdf hact hcl hu
    have hall := unl_zero (W := fun i => L.getD i false) ops.size (by omega)
    refine ⟨?_, final L a w σ k hL hk hr hst hs hdf hact hall⟩
    cases hrd : Region.ready .any ops L with
    | nil => rfl
    | cons j js =>
      have hj : j ∈ Region.ready .any ops L := by rw [hrd]; simp
      obtain ⟨h1, o, ho, _⟩ := mem_ready.1 hj
      have hlt : j < ops.size := (Array.getElem?_eq_some_iff.1 ho).1
      have h2 := hall j hlt
      rw [getD_any (by omega)] at h1
      rw [h1] at h2; cases h2
  | succ fuel ih =>
    intro L a w σ k hL hk hr hst hs hdf hact hcl hu
    refine ⟨fun hrd => ?_, fun j hj => ?_⟩
    · refine final L a w σ k hL hk hr hst hs hdf hact ?_
      intro i
      induction i using Nat.strongRecOn with
      | ind i ihi =>
        intro hi
        cases hw : L.getD i false with
        | true => rfl
        | false =>
          exfalso
          have ho : ops[i]? = some (ops[i]'hi) := Array.getElem?_eq_getElem hi
          have : i ∈ Region.ready .any ops L := mem_ready.2 ⟨by rw [getD_any (by omega)]; exact hw, _, ho, fun e he hb => by
            have hlt := (orderOk_spec hok ho).1 e he hb
            exact ihi e.on hlt (by omega)⟩
          rw [hrd] at this; cases this
    · obtain ⟨hju, o, ho, hedge⟩ := mem_ready.1 hj
      have hjl : j < ops.size := (Array.getElem?_eq_some_iff.1 ho).1
      have hjf : L.getD j false = false := by rw [← getD_any (by omega)]; exact hju
      have hbj : ∀ i, ((Region.before ops).getD j 0).testBit i = true → L.getD i false = true := before_closed (W := fun i => L.getD i false) hcl j o ho hedge
      have haft : ∀ i x, ops[i]? = some x → ((Region.before ops).getD i 0).testBit j = true → L.getD i false = false := fun i x hx hb => by
        cases hw : L.getD i false with
        | false => rfl
        | true =>
          have := before_closed (W := fun i => L.getD i false) hcl i x hx (hcl i x hx hw) j hb
          rw [hjf] at this; cases this
      have early : ∀ i x, i < j → ops[i]? = some x → clash C ops x o = true → L.getD i false = true := fun i x hi hx hc => hbj i ((orderOk_spec hok ho).2 i x hi hx hc)
      have late : ∀ i x, j < i → ops[i]? = some x → clash C ops o x = true → L.getD i false = false := fun i x hi hx hc => haft i x hx ((orderOk_spec hok hx).2 j o hi ho hc)
      have dstOf : ∀ (i : Nat) t, (ops[i]?).bind (·.dst) = some t → ∃ x, ops[i]? = some x ∧ x.dst = some t := fun i t h => by
        cases hx : ops[i]? with
        | none => rw [hx] at h; cases h
        | some x => rw [hx] at h; exact ⟨x, rfl, h⟩
      -- what it looks at
      have agree : ∀ t ∈ reads ops o, (sel ops val s0 (fun i => L.getD i false) ops.size).get t = (sel ops val s0 (fun _ => true) j).get t := fun t ht => by
        rw [sel_stop (m := j) ops.size (by omega) (fun i h1 h2 hdi => ?_)]
        · refine sel_congr j (fun i hi hdi => ?_)
          obtain ⟨x, hx, hxd⟩ := dstOf i t hdi
          exact early i x hi hx (by simp [clash, hxd, ht])
        · obtain ⟨x, hx, hxd⟩ := dstOf i t hdi
          by_cases e : i = j
          · subst e; exact hjf
          · exact late i x (by omega) hx (by simp [clash, hxd, ht])
      have hwant := wanted_congr agree
      have hcong : ∀ x ∈ o.op.operands.toList, ev (sel ops val s0 (fun i => L.getD i false) ops.size) x = ev (sel ops val s0 (fun _ => true) j) x := fun x hx =>
        ev_congr (fun t ht => agree t (by simp [reads, ht])) hx
      -- behind it
      have hW' : ∀ i, i ≠ j → (L.setIfInBounds j true).getD i false = L.getD i false := fun i hi => getD_set_ne false (fun e => hi e.symm)
      have hWj : (L.setIfInBounds j true).getD j false = true := by simp [Array.getD_eq_getD_getElem?, hL, hjl]
      have after : ∀ {A : Nat → Nat → Prop} {σ' : List (Option Nat)} {h' : H} {w' : World} {v : Value}, SRel C.P A σ' h' w' n (sel ops val s0 (fun i => L.getD i false) ops.size) a.tmps → Rel C.P A σ' h' w' (val j) v →
          SRel C.P A σ' h' w' n (sel ops val s0 (fun i => (L.setIfInBounds j true).getD i false) ops.size) (a.put o.dst v).tmps := by
        intro A σ' h' w' v hs' hv
        have hp := SRel.put (d := o.dst) hs' (hd j o ho) hv
        refine ⟨hp.1, fun t => ?_⟩
        have := hp.2 t
        rw [putV_get] at this
        by_cases e : o.dst = some t
        · rw [if_pos e] at this
          have e2 : (sel ops val s0 (fun i => (L.setIfInBounds j true).getD i false) ops.size).get t = val j := by
            rw [sel_stop (m := j + 1) ops.size (by omega) (fun i h1 h2 hdi => ?_)]
            · simp only [sel]; rw [if_pos hWj, putV_get, if_pos (by rw [ho]; exact e)]
            · obtain ⟨x, hx, hxd⟩ := dstOf i t hdi
              rw [hW' i (by omega)]
              exact late i x (by omega) hx (by simp [clash, e, hxd])
          rw [e2]; exact this
        · rw [if_neg e] at this
          rw [sel_congr (W' := fun i => L.getD i false) ops.size (fun i hi hdi => ?_)]
          · exact this
          · by_cases ei : i = j
            · subst ei; rw [ho] at hdi; exact absurd hdi e
            · exact hW' i ei
      have hcl' : ∀ j' o', ops[j']? = some o' → (L.setIfInBounds j true).getD j' false = true → ∀ e ∈ o'.after, Region.binds .any e = true → (L.setIfInBounds j true).getD e.on false = true := fun j' o' ho' hw e he hb => by
        refine getD_set_true ?_
        by_cases ej : j' = j
        · subst ej; rw [ho] at ho'; simp only [Option.some.injEq] at ho'; subst ho'; exact hedge e he hb
        · rw [hW' j' ej] at hw; exact hcl j' o' ho' hw e he hb
      have hu' : unl (fun i => (L.setIfInBounds j true).getD i false) ops.size ≤ fuel := by
        have := (unl_set (W := fun i => L.getD i false) (W' := fun i => (L.setIfInBounds j true).getD i false) hjf hWj hW' ops.size).1 hjl
        omega
      have hL' : (L.setIfInBounds j true).size = ops.size := by simpa using hL
      -- an active one: memory is just where the text has it
      have hactive : active o = true → st j = st k ∧ ∀ (i : Nat) x, ops[i]? = some x → active x = true → ((L.setIfInBounds j true).getD i false = true ↔ i < j + 1) := fun hao => by
        have hkj : k ≤ j := by
          rcases Nat.lt_or_ge j k with h | h
          · have := (hact j o ho hao).2 h; rw [hjf] at this; cases this
          · exact h
        have hcl2 : ∀ x, active x = true → clash C ops x o = true ∧ clash C ops o x = true := fun x hx => by simp [clash, hx, hao]
        refine ⟨idle k j hkj (by omega) (fun q x h1 h2 hx => ?_), fun i x hx hax => ?_⟩
        · cases hax : active x with
          | false => rfl
          | true =>
            have e1 := early q x h2 hx (hcl2 x hax).1
            have := (hact q x hx hax).1 e1; omega
        · by_cases ei : i = j
          · subst ei; simp [hWj]
          · rw [hW' i ei]
            rcases Nat.lt_or_ge i j with h | h
            · simp only [early i x h hx (hcl2 x hax).1, true_iff]; omega
            · simp only [late i x (by omega) hx (hcl2 x hax).2, Bool.false_eq_true, false_iff]; omega
      have hidle : active o = false → ∀ (i : Nat) x, ops[i]? = some x → active x = true → ((L.setIfInBounds j true).getD i false = true ↔ i < k) := fun hao i x hx hax => by
        have : i ≠ j := fun e => by subst e; rw [ho] at hx; simp only [Option.some.injEq] at hx; subst hx; rw [hao] at hax; cases hax
        rw [hW' i this]; exact hact i x hx hax
      unfold wpOpIn
      simp only [ho]
      rw [yielded_eq hs, hwant]
      rcases tr.step j o ho with ⟨hw, hv⟩ | ⟨hw, hval, hsteq⟩
      · rw [if_pos hw]
        cases hao : active o with
        | true =>
          obtain ⟨e1, e2⟩ := hactive hao
          rw [← opV_congr hcong, e1] at hv
          refine opV_wp hP rfl hrun hr hs hv fun u w1 ⟨σ1, k1, k2, k3⟩ => ?_
          exact ih (L.setIfInBounds j true) (a.put o.dst u) w1 σ1 (j + 1) hL' (by omega) k1 (hst.trans k2) (after (hs.step k2) k3) (by rw [put_defers]; exact hdf) e2 hcl' hu'
        | false =>
          have hst1 := opV_idle hv hao
          have hv2 : opV C run cf (sel ops val s0 (fun i => L.getD i false) ops.size) (st k) o = some (val j, st k) := by
            unfold opV at hv ⊢
            rw [hao] at hv ⊢
            simp only [Bool.false_eq_true, if_false] at hv ⊢
            split at hv
            · rename_i t x hop
              have hmem : x ∈ o.op.operands.toList := by rw [hop]; simp [Op.operands]
              rw [hcong x hmem]
              have hevr : ∀ c, ev (sel ops val s0 (fun _ => true) j) x = some c → Rel C.P (Alw C.P B A0 σ (st k)) σ (st k) w c (a.eval x) := fun c hc => ev_sound hr.gr hs (by rw [hcong x hmem]; exact hc)
              have hld : isLoad o = true := by simp [isLoad, hop]
              split at hv <;> first | (cases hv; done) | skip
              rename_i c hc
              have hrc := hevr c hc
              split at hv <;> first | (cases hv; done) | skip
              rename_i v hlv
              simp only [Option.some.injEq, Prod.mk.injEq] at hv
              have hsame : loadV C.P (st k) t c = some v := by
                unfold loadV at hlv ⊢
                split at hlv <;> first | (cases hlv; done) | skip
                · rename_i id off
                  obtain ⟨b, _, _, cs0, st0, hid0⟩ := rel_ptr hrc
                  have hidx : ∀ q oq, ops[q]? = some oq → Region.wanted oq (yieldedV ops (sel ops val s0 (fun _ => true) q)) = true → id ∉ appId (sel ops val s0 (fun _ => true) q) oq := fun q oq h1 h2 =>
                    hdis q oq j o h1 ho h2 hw id (by simp [ldId, hop, hc])
                  have alive : ∀ cs stj, (st j)[id]? = some (.cells cs stj) → stj ≠ .dead → ∃ stk, (st k)[id]? = some (.cells cs stk) ∧ stk ≠ .dead := by
                    intro cs stj hidj hne
                    rcases Nat.le_total k j with hkj | hkj
                    · obtain ⟨st2, h2, h3⟩ := soft id hidx k j hkj (by omega) (fun q x h1 h2 hx hax => by
                        cases hlo : clash.loud C x with
                        | false => rfl
                        | true =>
                          have e1 := early q x h2 hx (by simp [clash, hlo, hld])
                          have := (hact q x hx hax).1 e1; omega) cs0 st0 hid0
                      rw [hidj] at h2; simp only [Option.some.injEq, VObj.cells.injEq] at h2
                      obtain ⟨rfl, rfl⟩ := h2
                      exact ⟨st0, hid0, fun e => hne (h3.2 e)⟩
                    · obtain ⟨st2, h2, h3⟩ := soft id hidx j k hkj hk (fun q x h1 h2 hx hax => by
                        cases hlo : clash.loud C x with
                        | false => rfl
                        | true =>
                          have hqj : q ≠ j := fun e => by subst e; rw [ho] at hx; simp only [Option.some.injEq] at hx; subst hx; rw [hao] at hax; cases hax
                          have e1 := late q x (by omega) hx (by simp [clash, hlo, hld])
                          have := (hact q x hx hax).2 h2; rw [e1] at this; cases this) cs stj hidj
                      exact ⟨st2, h2, fun e => hne (h3.1 e)⟩
                  split at hlv <;> first | (cases hlv; done) | skip
                  · rename_i cs hidj
                    obtain ⟨stk, h1, h2⟩ := alive cs _ hidj (by simp)
                    rw [h1]; cases stk <;> first | exact hlv | exact absurd rfl h2
                  · rename_i cs hidj
                    obtain ⟨stk, h1, h2⟩ := alive cs _ hidj (by simp)
                    rw [h1]; cases stk <;> first | exact hlv | exact absurd rfl h2
                · exact hlv
              rw [hsame, ← hv.1]
            · rw [opN_congr hcong]
              split at hv <;> first | (cases hv; done) | skip
              simp only [Option.some.injEq, Prod.mk.injEq] at hv
              rw [← hv.1]
          refine opV_wp hP rfl hrun hr hs hv2 fun u w1 ⟨σ1, k1, k2, k3⟩ => ?_
          exact ih (L.setIfInBounds j true) (a.put o.dst u) w1 σ1 k hL' hk k1 (hst.trans k2) (after (hs.step k2) k3) (by rw [put_defers]; exact hdf) (hidle hao) hcl' hu'
      · rw [if_neg (by rw [hw]; simp)]
        have hsr := after (v := undef) hs (by rw [hval]; exact undef_rel)
        refine ⟨fun _ _ => trivial, ?_⟩
        cases hao : active o with
        | true =>
          obtain ⟨e1, e2⟩ := hactive hao
          have e3 : st (j + 1) = st k := hsteq.trans e1
          exact ih (L.setIfInBounds j true) (a.put o.dst undef) w σ (j + 1) hL' (by omega) (by rw [e3]; exact hr) (by rw [e3]; exact hst) (by rw [e3]; exact hsr) (by rw [put_defers]; exact hdf) e2 hcl' hu'
        | false =>
          exact ih (L.setIfInBounds j true) (a.put o.dst undef) w σ k hL' hk hr hst hsr (by rw [put_defers]; exact hdf) (hidle hao) hcl' hu'
end
end Go.V
