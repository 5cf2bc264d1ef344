/- A region whose order is drawn, with a place of its own for each new object: the law. -/
import Derived.Test.YtdoegkegjaadeaaGreatDoorQV32
namespace Go.V
open Go

theorem tmpOk_spec {ops : Array Oper} (h : tmpOk ops = true) {j : Nat} {y : Oper} (hy : ops[j]? = some y) :
    (∀ e ∈ y.after, Region.binds .any e = true → e.on < j) ∧ ∀ i x, i < j → ops[i]? = some x → tmpClash ops x y = true → ((Region.before ops).getD j 0).testBit i = true := by
  simp only [tmpOk, List.all_eq_true, List.mem_range] at h
  have hj : j < ops.size := (Array.getElem?_eq_some_iff.1 hy).1
  have := h j hj
  rw [hy] at this
  simp only [Bool.and_eq_true, List.all_eq_true, List.mem_range] at this
  refine ⟨fun e he hb => ?_, fun i x hi hx hc => ?_⟩
  · have := this.1
    simp only [edgesLow, Array.all_eq_true_iff_forall_mem, Bool.or_eq_true, Bool.not_eq_true', decide_eq_true_eq] at this
    rcases this e he with h | h
    · rw [hb] at h; cases h
    · exact h
  · have := this.2 i hi
    rw [hx] at this
    simp only [Bool.or_eq_true, Bool.not_eq_true'] at this
    rcases this with h | h
    · rw [hc] at h; cases h
    · exact h
theorem meet_of {a b : List Nat} {id : Nat} (ha : id ∈ a) (hb : id ∈ b) : meet a b = true := by
  unfold meet
  rw [List.any_eq_true]
  exact ⟨id, ha, by simpa using hb⟩
theorem fpOk_spec {ops : Array Oper} {F : List FP} (h : fpOk ops F = true) {i j : Nat} {x y : FP} (hx : F[i]? = some x) (hy : F[j]? = some y) (hi : i < j) (hm : meet x.2 y.1 = true ∨ meet y.2 x.1 = true) : ((Region.before ops).getD j 0).testBit i = true := by
  simp only [fpOk, List.all_eq_true, List.mem_range] at h
  have := h j (List.getElem?_eq_some_iff.1 hy).1
  rw [hy] at this
  simp only [List.all_eq_true, List.mem_range] at this
  have := this i hi
  rw [hx] at this
  simp only [Bool.or_eq_true, Bool.not_eq_true', Bool.or_eq_false_iff] at this
  rcases this with ⟨h1, h2⟩ | h
  · rcases hm with e | e
    · rw [e] at h1; cases h1
    · rw [e] at h2; cases h2
  · exact h

/-- Memory behind those operations that W names. -/
def upd (h : H) (l : List Nat) (g : H) : H := h.mapIdx fun id x => if l.contains id then (g[id]?).getD x else x
def selH (ws : Nat → List Nat) (hs : Nat → H) (W : Nat → Bool) : Nat → H
  | 0 => hs 0
  | m + 1 => if W m then upd (selH ws hs W m) (ws m) (hs (m + 1)) else selH ws hs W m
theorem upd_get (h : H) (l : List Nat) (g : H) (id : Nat) : (upd h l g)[id]? = (h[id]?).map fun x => if l.contains id then (g[id]?).getD x else x := by
  unfold upd; rw [List.getElem?_mapIdx]
theorem upd_out {h : H} {l : List Nat} {g : H} {id : Nat} (hid : id ∉ l) : (upd h l g)[id]? = h[id]? := by
  have hc : l.contains id = false := by simpa using hid
  rw [upd_get]; simp only [hc, Bool.false_eq_true, if_false]; simp
theorem upd_in {h : H} {l : List Nat} {g : H} {id : Nat} (hid : id ∈ l) : (upd h l g)[id]? = (h[id]?).map fun x => (g[id]?).getD x := by
  have hc : l.contains id = true := by simpa using hid
  rw [upd_get]; simp only [hc, if_true]
theorem fin_out {p : Nat} {T : List Nat} {h h' : H} {id : Nat} (hp : id ≠ p) (hT : id ∉ T) : (fin p T h h')[id]? = h[id]? := by
  have hc : T.contains id = false := by simpa using hT
  rw [fin_get]; simp only [hc, Bool.false_eq_true, if_false, if_neg hp]; simp
theorem upd_length (h : H) (l : List Nat) (g : H) : (upd h l g).length = h.length := by simp [upd]
section
variable {ws : Nat → List Nat} {hs : Nat → H}
theorem selH_length (W : Nat → Bool) : ∀ m, (selH ws hs W m).length = (hs 0).length := by
  intro m
  induction m with
  | zero => rfl
  | succ m ih => simp only [selH]; split <;> simp [upd_length, ih]
theorem selH_out {W : Nat → Bool} {id m : Nat} (h : id ∉ ws m) : (selH ws hs W (m + 1))[id]? = (selH ws hs W m)[id]? := by
  simp only [selH]
  split
  · exact upd_out h
  · rfl
theorem selH_congr {W W' : Nat → Bool} {id : Nat} : ∀ m, (∀ i, i < m → id ∈ ws i → W i = W' i) → (selH ws hs W m)[id]? = (selH ws hs W' m)[id]? := by
  intro m
  induction m with
  | zero => intro _; rfl
  | succ m ih =>
    intro h
    have := ih (fun i hi => h i (by omega))
    by_cases hm : id ∈ ws m
    · simp only [selH]
      rw [h m (by omega) hm]
      split
      · rw [upd_get, upd_get, this]
      · exact this
    · rw [selH_out hm, selH_out hm]; exact this
theorem selH_stop {W : Nat → Bool} {id m : Nat} : ∀ M, m ≤ M → (∀ i, m ≤ i → i < M → id ∈ ws i → W i = false) → (selH ws hs W M)[id]? = (selH ws hs W m)[id]? := by
  intro M
  induction M with
  | zero => intro h _; have : m = 0 := by omega
            subst this; rfl
  | succ M ih =>
    intro h hz
    by_cases e : m = M + 1
    · subst e; rfl
    · rw [← ih (by omega) (fun i h1 h2 => hz i h1 (by omega))]
      by_cases hM : id ∈ ws M
      · simp only [selH]
        rw [hz M (by omega) (by omega) hM]; rfl
      · exact selH_out hM
end

/-- The run in the text's order, step by step. -/
structure MTrace (C : Cfg) (run : FuncId → List AV → H → Option (AV × H)) (cf : FuncId) (ops : Array Oper) (base : Nat) (s0 : PT) (h0 : H) (val : Nat → AV) (hs : Nat → H) (fp : Nat → FP) : Prop where
  zero : hs 0 = h0
  step : ∀ i o, ops[i]? = some o → mixStep C run cf ops base i o (sel ops val s0 (fun _ => true) i) (hs i) = some (val i, hs (i + 1), fp i)
theorem mtrace_of {C : Cfg} {run : FuncId → List AV → H → Option (AV × H)} {cf : FuncId} {ops : Array Oper} {base : Nat} {s0 : PT} {h0 : H} {s' : PT} {h' : H} {F : List FP} (hh : mixTo C run cf ops base ops.size s0 h0 = some (s', h', F)) :
    ∃ val hs fp, MTrace C run cf ops base s0 h0 val hs fp ∧ sel ops val s0 (fun _ => true) ops.size = s' ∧ hs ops.size = h' ∧ ∀ i, i < ops.size → F[i]? = some (fp i) := by
  have key : ∀ n, n ≤ ops.size → ∀ s1 h1 F1, mixTo C run cf ops base n s0 h0 = some (s1, h1, F1) → ∃ (val : Nat → AV) (hs : Nat → H) (fp : Nat → FP), hs 0 = h0 ∧ (∀ i o, i < n → ops[i]? = some o → mixStep C run cf ops base i o (sel ops val s0 (fun _ => true) i) (hs i) = some (val i, hs (i + 1), fp i)) ∧
      sel ops val s0 (fun _ => true) n = s1 ∧ hs n = h1 ∧ F1.length = n ∧ ∀ i, i < n → F1[i]? = some (fp i) := by
    intro n
    induction n with
    | zero =>
      intro _ s1 h1 F1 h
      simp only [mixTo, Option.some.injEq, Prod.mk.injEq] at h
      obtain ⟨rfl, rfl, rfl⟩ := h
      exact ⟨fun _ => AV.undef, fun _ => h0, fun _ => ([], []), rfl, fun i o hi => by omega, rfl, rfl, rfl, fun i hi => by omega⟩
    | succ n ih =>
      intro hn s1 h1 F1 h
      simp only [mixTo] at h
      split at h <;> first | (cases h; done) | skip
      rename_i s2 h2 F2 o hm ho
      split at h <;> first | (cases h; done) | skip
      rename_i v h3 f hst
      simp only [Option.some.injEq, Prod.mk.injEq] at h
      obtain ⟨rfl, rfl, rfl⟩ := h
      obtain ⟨val, hs, fp, k1, k2, k3, k4, k5, k6⟩ := ih (by omega) s2 h2 F2 hm
      let val' : Nat → AV := fun i => if i = n then v else val i
      let hs' : Nat → H := fun i => if i = n + 1 then h3 else hs i
      let fp' : Nat → FP := fun i => if i = n then f else fp i
      have selv : ∀ m, m ≤ n → sel ops val' s0 (fun _ => true) m = sel ops val s0 (fun _ => true) m := by
        intro m
        induction m with
        | zero => intro _; rfl
        | succ m ihm =>
          intro hm
          simp only [sel, if_true]
          rw [ihm (by omega)]
          simp only [val']; rw [if_neg (by omega)]
      refine ⟨val', hs', fp', by simp only [hs']; rw [if_neg (by omega)]; exact k1, fun i o' hi ho' => ?_, ?_, by simp [hs'], by simp [k5], fun i hi => ?_⟩
      · by_cases e : i = n
        · subst e
          rw [ho] at ho'; simp only [Option.some.injEq] at ho'; subst ho'
          rw [selv i (Nat.le_refl _), k3]
          have e1 : hs' i = h2 := by simp only [hs']; rw [if_neg (by omega)]; exact k4
          rw [e1, hst]; simp [val', hs', fp']
        · rw [selv i (by omega)]
          have e1 : hs' i = hs i := by simp only [hs']; rw [if_neg (by omega)]
          have e2 : hs' (i + 1) = hs (i + 1) := by simp only [hs']; rw [if_neg (by omega)]
          have e3 : val' i = val i := by simp only [val']; rw [if_neg e]
          have e4 : fp' i = fp i := by simp only [fp']; rw [if_neg e]
          rw [e1, e2, e3, e4]
          exact k2 i o' (by omega) ho'
      · simp only [sel, if_true, ho, Option.bind_some]
        rw [selv n (Nat.le_refl _), k3]; simp [val']
      · by_cases e : i = n
        · subst e; rw [List.getElem?_append_right (by omega), k5]; simp [fp']
        · rw [List.getElem?_append_left (by omega)]
          simp only [fp']; rw [if_neg e]; exact k6 i (by omega)
  obtain ⟨val, hs, fp, k1, k2, k3, k4, _, k6⟩ := key ops.size (Nat.le_refl _) s' h' F hh
  exact ⟨val, hs, fp, ⟨k1, fun i o ho => k2 i o (Array.getElem?_eq_some_iff.1 ho).1 ho⟩, k3, k4, k6⟩

theorem mixStep_spec {C : Cfg} {run : FuncId → List AV → H → Option (AV × H)} {cf : FuncId} {ops : Array Oper} {base i : Nat} {o : Oper} {s : PT} {h h2 : H} {v : AV} {f : FP} (hh : mixStep C run cf ops base i o s h = some (v, h2, f)) :
    (Region.wanted o (yieldedV ops s) = true ∧ ∃ T wr r h', foot C s h o = some (T, wr) ∧ opV C run cf s h o = some (r, h') ∧ h'.length ≤ h.length + 1 ∧ base + i ∉ T ∧ h[base + i]? = some .void ∧ v = r.mv h.length (base + i) ∧
      h2 = (if wr then fin (base + i) T h h' else h) ∧ f = (if wr then ((base + i) :: T, (base + i) :: T) else (T, []))) ∨
    (Region.wanted o (yieldedV ops s) = false ∧ v = AV.undef ∧ h2 = h ∧ f = ([], [])) := by
  unfold mixStep at hh
  split at hh
  · rename_i hw
    split at hh <;> first | (cases hh; done) | skip
    rename_i T wr r h' hf hv
    split at hh <;> first | (cases hh; done) | skip
    rename_i hc
    simp only [Option.some.injEq, Prod.mk.injEq] at hh
    obtain ⟨rfl, rfl, rfl⟩ := hh
    refine .inl ⟨hw, T, wr, r, h', hf, hv, hc.1, by simpa using hc.2.1, ?_, rfl, rfl, rfl⟩
    have := hc.2.2
    unfold isVoid at this
    split at this
    · assumption
    · cases this
  · rename_i hw
    simp only [Option.some.injEq, Prod.mk.injEq] at hh
    obtain ⟨rfl, rfl, rfl⟩ := hh
    exact .inr ⟨by simpa using hw, rfl, rfl, rfl⟩
section
variable {C : Cfg} {run : FuncId → List AV → H → Option (AV × H)} {cf : FuncId} {ops : Array Oper} {base : Nat} {s0 : PT} {h0 : H} {val : Nat → AV} {hs : Nat → H} {fp : Nat → FP}
theorem MTrace.len (tr : MTrace C run cf ops base s0 h0 val hs fp) : ∀ i, i ≤ ops.size → (hs i).length = (hs 0).length := by
  intro i
  induction i with
  | zero => intro _; rfl
  | succ i ih =>
    intro hi
    have ho : ops[i]? = some (ops[i]'(by omega)) := Array.getElem?_eq_getElem _
    rcases mixStep_spec (tr.step i _ ho) with ⟨_, T, wr, r, h', _, _, _, _, _, _, e, _⟩ | ⟨_, _, e, _⟩
    · rw [e]; split
      · rw [fin_length]; exact ih (by omega)
      · exact ih (by omega)
    · rw [e]; exact ih (by omega)
theorem MTrace.out (tr : MTrace C run cf ops base s0 h0 val hs fp) {i : Nat} {o : Oper} (ho : ops[i]? = some o) {id : Nat} (hid : id ∉ (fp i).2) : (hs (i + 1))[id]? = (hs i)[id]? := by
  rcases mixStep_spec (tr.step i o ho) with ⟨_, T, wr, r, h', _, _, _, _, _, _, e, ef⟩ | ⟨_, _, e, _⟩
  · rw [e]
    cases wr with
    | false => rfl
    | true =>
      rw [ef] at hid
      simp only [if_true, List.mem_cons, not_or] at hid
      simp only [if_true]
      exact fin_out hid.1 hid.2
  · rw [e]
theorem MTrace.all (tr : MTrace C run cf ops base s0 h0 val hs fp) : ∀ i, i ≤ ops.size → selH (fun i => (fp i).2) hs (fun _ => true) i = hs i := by
  intro i
  induction i with
  | zero => intro _; rfl
  | succ i ih =>
    intro hi
    have ho : ops[i]? = some (ops[i]'(by omega)) := Array.getElem?_eq_getElem _
    simp only [selH, if_true]
    rw [ih (by omega)]
    apply List.ext_getElem?
    intro id
    rw [upd_get]
    by_cases hid : id ∈ (fp i).2
    · have hc : (fp i).2.contains id = true := by simpa using hid
      simp only [hc, if_true]
      have e1 := tr.len i (by omega)
      have e2 := tr.len (i + 1) hi
      by_cases hl : id < (hs i).length
      · rw [List.getElem?_eq_getElem hl, List.getElem?_eq_getElem (l := hs (i + 1)) (by omega)]; rfl
      · rw [List.getElem?_eq_none (by omega), List.getElem?_eq_none (by omega)]; rfl
    · have hc : (fp i).2.contains id = false := by simpa using hid
      simp only [hc, Bool.false_eq_true, if_false]
      rw [tr.out ho hid]; simp
end

section
variable {B : Nat} {A0 : Nat → Nat → Prop} {n : Nat} {ro : Option Nat} {nd : Nat}
set_option maxHeartbeats 1000000 in
theorem mix_wp [DFlag] {C : Cfg} (hP : Good C.P) {run : FuncId → List AV → H → Option (AV × H)} (hrun : Ok C.P run) {cf : FuncId} {ops : Array Oper} {Q : Exit → Act → World → Prop} (hok : tmpOk ops = true)
    (hd : ∀ (i : Nat) o, ops[i]? = some o → ∀ t, o.dst = some t → t < n) {σ0 : List (Option Nat)} {h0 h00 : H} {w0 : World} {s0 : PT} {a0 : Act} {base : Nat} {val : Nat → AV} {hs : Nat → H} {fp : Nat → FP} (tr : MTrace C run cf ops base s0 h00 val hs fp)
    (hfp : ∀ i j, i < j → j < ops.size → (meet (fp i).2 (fp j).1 = true ∨ meet (fp j).2 (fp i).1 = true) → ((Region.before ops).getD j 0).testBit i = true)
    (hQ : ∀ σ' w' a', HRel C.P B A0 σ' (hs ops.size) w' → Step C.P B A0 σ0 h0 w0 σ' (hs ops.size) w' → SRel C.P (Alw C.P B A0 σ' (hs ops.size)) σ' (hs ops.size) w' n (sel ops val s0 (fun _ => true) ops.size) a'.tmps → a'.defers = a0.defers → Q .normal a' w') :
    ∀ (fuel : Nat) (L : Array Bool) (a : Act) (w : World) (σ : List (Option Nat)), L.size = ops.size → HRel C.P B A0 σ (selH (fun i => (fp i).2) hs (fun i => L.getD i false) ops.size) w →
      Step C.P B A0 σ0 h0 w0 σ (selH (fun i => (fp i).2) hs (fun i => L.getD i false) ops.size) w →
      SRel C.P (Alw C.P B A0 σ (selH (fun i => (fp i).2) hs (fun i => L.getD i false) ops.size)) σ (selH (fun i => (fp i).2) hs (fun i => L.getD i false) ops.size) w n (sel ops val s0 (fun i => L.getD i false) ops.size) a.tmps → a.defers = a0.defers →
      (∀ j o, ops[j]? = some o → L.getD j false = true → ∀ e ∈ o.after, Region.binds .any e = true → L.getD e.on false = true) →
      unl (fun i => L.getD i false) ops.size ≤ fuel → wpAnyIn (FR ro) nd C.P .any ops Q fuel L a w := by
  have final : ∀ (L : Array Bool) (a : Act) (w : World) (σ : List (Option Nat)), L.size = ops.size → HRel C.P B A0 σ (selH (fun i => (fp i).2) hs (fun i => L.getD i false) ops.size) w →
      Step C.P B A0 σ0 h0 w0 σ (selH (fun i => (fp i).2) hs (fun i => L.getD i false) ops.size) w →
      SRel C.P (Alw C.P B A0 σ (selH (fun i => (fp i).2) hs (fun i => L.getD i false) ops.size)) σ (selH (fun i => (fp i).2) hs (fun i => L.getD i false) ops.size) w n (sel ops val s0 (fun i => L.getD i false) ops.size) a.tmps → a.defers = a0.defers →
      (∀ i, i < ops.size → L.getD i false = true) → Q .normal a w := by
    intro L a w σ hL hr hst hs' hdf hall
    have e1 : selH (fun i => (fp i).2) hs (fun i => L.getD i false) ops.size = hs ops.size := by
      rw [← tr.all ops.size (Nat.le_refl _)]
      apply List.ext_getElem?
      intro id
      exact selH_congr ops.size fun i hi _ => hall i hi
    rw [e1] at hr hst hs'
    refine hQ σ w a hr hst ⟨hs'.1, fun t => ?_⟩ hdf
    have := hs'.2 t
    rwa [sel_congr (W' := fun _ => true) ops.size (fun i hi _ => hall i hi)] at this
  intro fuel
  induction fuel with
  | zero =>
    intro L a w σ hL hr hst hs' hdf hcl hu
    have hall := unl_zero (W := fun i => L.getD i false) ops.size (by omega)
    refine ⟨?_, final L a w σ hL hr hst hs' hdf hall⟩
    cases hrd : Region.ready .any ops L with
    | nil => rfl
    | cons j js =>
      have hj : j ∈ Region.ready .any ops L := by rw [hrd]; simp
      obtain ⟨h1, o, ho, _⟩ := mem_ready.1 hj
      have hlt : j < ops.size := (Array.getElem?_eq_some_iff.1 ho).1
      have h2 := hall j hlt
      rw [getD_any (by omega)] at h1
      rw [h1] at h2; cases h2
  | succ fuel ih =>
    intro L a w σ hL hr hst hs' hdf hcl hu
    refine ⟨fun hrd => ?_, fun j hj => ?_⟩
    · refine final L a w σ hL hr hst hs' hdf ?_
      intro i
      induction i using Nat.strongRecOn with
      | ind i ihi =>
        intro hi
        cases hw : L.getD i false with
        | true => rfl
        | false =>
          exfalso
          have ho : ops[i]? = some (ops[i]'hi) := Array.getElem?_eq_getElem hi
          have : i ∈ Region.ready .any ops L := mem_ready.2 ⟨by rw [getD_any (by omega)]; exact hw, _, ho, fun e he hb => by
            have hlt := (tmpOk_spec hok ho).1 e he hb
            exact ihi e.on hlt (by omega)⟩
          rw [hrd] at this; cases this
    · obtain ⟨hju, o, ho, hedge⟩ := mem_ready.1 hj
      have hjl : j < ops.size := (Array.getElem?_eq_some_iff.1 ho).1
      have hjf : L.getD j false = false := by rw [← getD_any (by omega)]; exact hju
      have hbj : ∀ i, ((Region.before ops).getD j 0).testBit i = true → L.getD i false = true := before_closed (W := fun i => L.getD i false) hcl j o ho hedge
      have haft : ∀ i x, ops[i]? = some x → ((Region.before ops).getD i 0).testBit j = true → L.getD i false = false := fun i x hx hb => by
        cases hw : L.getD i false with
        | false => rfl
        | true =>
          have := before_closed (W := fun i => L.getD i false) hcl i x hx (hcl i x hx hw) j hb
          rw [hjf] at this; cases this
      have early : ∀ i x, i < j → ops[i]? = some x → tmpClash ops x o = true → L.getD i false = true := fun i x hi hx hc => hbj i ((tmpOk_spec hok ho).2 i x hi hx hc)
      have late : ∀ i x, j < i → ops[i]? = some x → tmpClash ops o x = true → L.getD i false = false := fun i x hi hx hc => haft i x hx ((tmpOk_spec hok hx).2 j o hi ho hc)
      have earlyH : ∀ i, i < j → (∃ id, id ∈ (fp i).2 ∧ id ∈ (fp j).1) → L.getD i false = true := fun i hi ⟨id, h1, h2⟩ => hbj i (hfp i j hi hjl (.inl (meet_of h1 h2)))
      have lateH : ∀ i, j < i → i < ops.size → (∃ id, id ∈ (fp i).2 ∧ id ∈ (fp j).1) → L.getD i false = false := fun i hi hil ⟨id, h1, h2⟩ => haft i _ (Array.getElem?_eq_getElem hil) (hfp j i hi hil (.inr (meet_of h1 h2)))
      have lateW : ∀ i, j < i → i < ops.size → (∃ id, id ∈ (fp j).2 ∧ id ∈ (fp i).1) → L.getD i false = false := fun i hi hil ⟨id, h1, h2⟩ => haft i _ (Array.getElem?_eq_getElem hil) (hfp j i hi hil (.inl (meet_of h1 h2)))
      have dstOf : ∀ (i : Nat) t, (ops[i]?).bind (·.dst) = some t → ∃ x, ops[i]? = some x ∧ x.dst = some t := fun i t h => by
        cases hx : ops[i]? with
        | none => rw [hx] at h; cases h
        | some x => rw [hx] at h; exact ⟨x, rfl, h⟩
      have agree : ∀ t ∈ reads ops o, (sel ops val s0 (fun i => L.getD i false) ops.size).get t = (sel ops val s0 (fun _ => true) j).get t := fun t ht => by
        rw [sel_stop (m := j) ops.size (by omega) (fun i h1 h2 hdi => ?_)]
        · refine sel_congr j (fun i hi hdi => ?_)
          obtain ⟨x, hx, hxd⟩ := dstOf i t hdi
          exact early i x hi hx (by simp [tmpClash, hxd, ht])
        · obtain ⟨x, hx, hxd⟩ := dstOf i t hdi
          by_cases e : i = j
          · subst e; exact hjf
          · exact late i x (by omega) hx (by simp [tmpClash, hxd, ht])
      have agreeH : ∀ id ∈ (fp j).1, (selH (fun i => (fp i).2) hs (fun i => L.getD i false) ops.size)[id]? = (hs j)[id]? := fun id hid => by
        rw [selH_stop (m := j) ops.size (by omega) (fun i h1 h2 hi => ?_), ← tr.all j (by omega)]
        · exact selH_congr j fun i hi hw => earlyH i hi ⟨id, hw, hid⟩
        · by_cases e : i = j
          · subst e; exact hjf
          · exact lateH i (by omega) h2 ⟨id, hi, hid⟩
      have hwant := wanted_congr agree
      have hcong : ∀ x ∈ o.op.operands.toList, ev (sel ops val s0 (fun i => L.getD i false) ops.size) x = ev (sel ops val s0 (fun _ => true) j) x := fun x hx =>
        ev_congr (fun t ht => agree t (by simp [reads, ht])) hx
      have hW' : ∀ i, i ≠ j → (L.setIfInBounds j true).getD i false = L.getD i false := fun i hi => getD_set_ne false (fun e => hi e.symm)
      have hWj : (L.setIfInBounds j true).getD j false = true := by simp [Array.getD_eq_getD_getElem?, hL, hjl]
      have after : ∀ {A : Nat → Nat → Prop} {σ' : List (Option Nat)} {h' : H} {w' : World} {v : Value}, SRel C.P A σ' h' w' n (sel ops val s0 (fun i => L.getD i false) ops.size) a.tmps → Rel C.P A σ' h' w' (val j) v →
          SRel C.P A σ' h' w' n (sel ops val s0 (fun i => (L.setIfInBounds j true).getD i false) ops.size) (a.put o.dst v).tmps := by
        intro A σ' h' w' v hs' hv
        have hp := SRel.put (d := o.dst) hs' (hd j o ho) hv
        refine ⟨hp.1, fun t => ?_⟩
        have := hp.2 t
        rw [putV_get] at this
        by_cases e : o.dst = some t
        · rw [if_pos e] at this
          have e2 : (sel ops val s0 (fun i => (L.setIfInBounds j true).getD i false) ops.size).get t = val j := by
            rw [sel_stop (m := j + 1) ops.size (by omega) (fun i h1 h2 hdi => ?_)]
            · simp only [sel]; rw [if_pos hWj, putV_get, if_pos (by rw [ho]; exact e)]
            · obtain ⟨x, hx, hxd⟩ := dstOf i t hdi
              rw [hW' i (by omega)]
              exact late i x (by omega) hx (by simp [tmpClash, e, hxd])
          rw [e2]; exact this
        · rw [if_neg e] at this
          rw [sel_congr (W' := fun i => L.getD i false) ops.size (fun i hi hdi => ?_)]
          · exact this
          · by_cases ei : i = j
            · subst ei; rw [ho] at hdi; exact absurd hdi e
            · exact hW' i ei
      have hcl' : ∀ j' o', ops[j']? = some o' → (L.setIfInBounds j true).getD j' false = true → ∀ e ∈ o'.after, Region.binds .any e = true → (L.setIfInBounds j true).getD e.on false = true := fun j' o' ho' hw e he hb => by
        refine getD_set_true ?_
        by_cases ej : j' = j
        · subst ej; rw [ho] at ho'; simp only [Option.some.injEq] at ho'; subst ho'; exact hedge e he hb
        · rw [hW' j' ej] at hw; exact hcl j' o' ho' hw e he hb
      have hu' : unl (fun i => (L.setIfInBounds j true).getD i false) ops.size ≤ fuel := by
        have := (unl_set (W := fun i => L.getD i false) (W' := fun i => (L.setIfInBounds j true).getD i false) hjf hWj hW' ops.size).1 hjl
        omega
      have hL' : (L.setIfInBounds j true).size = ops.size := by simpa using hL
      -- memory that the operation does not turn
      have keep : ∀ id, id ∉ (fp j).2 → (selH (fun i => (fp i).2) hs (fun i => (L.setIfInBounds j true).getD i false) ops.size)[id]? = (selH (fun i => (fp i).2) hs (fun i => L.getD i false) ops.size)[id]? := fun id hid =>
        selH_congr ops.size fun i hi hw => by
          by_cases ei : i = j
          · subst ei; exact absurd hw hid
          · exact hW' i ei
      have turn : ∀ id, id ∈ (fp j).2 → id ∈ (fp j).1 → (selH (fun i => (fp i).2) hs (fun i => (L.setIfInBounds j true).getD i false) ops.size)[id]? = (hs (j + 1))[id]? := fun id hid hid1 => by
        rw [selH_stop (m := j + 1) ops.size (by omega) (fun i h1 h2 hi => by rw [hW' i (by omega)]; exact lateH i (by omega) h2 ⟨id, hi, hid1⟩)]
        simp only [selH]
        rw [if_pos hWj, upd_in hid]
        have e1 := selH_length (ws := fun i => (fp i).2) (hs := hs) (fun i => (L.setIfInBounds j true).getD i false) j
        have e2 := tr.len (j + 1) (by omega)
        by_cases hl : id < (hs 0).length
        · rw [List.getElem?_eq_getElem (l := selH _ _ _ _) (by rw [e1]; exact hl), List.getElem?_eq_getElem (l := hs (j + 1)) (by rw [e2]; exact hl)]; rfl
        · rw [List.getElem?_eq_none (l := selH _ _ _ _) (by rw [e1]; omega), List.getElem?_eq_none (l := hs (j + 1)) (by rw [e2]; omega)]; rfl
      have hlen := selH_length (ws := fun i => (fp i).2) (hs := hs) (fun i => L.getD i false) ops.size
      have hlenj := tr.len j (by omega)
      unfold wpOpIn
      simp only [ho]
      rw [yielded_eq hs', hwant]
      rcases mixStep_spec (tr.step j o ho) with ⟨hw, T, wr, r, h', hf, hv, hle, hpT, hpv, hval, hh2, hff⟩ | ⟨hw, hval, hh2, hff⟩
      · rw [if_pos hw]
        rw [← foot_congr hcong] at hf
        rw [← opV_congr hcong] at hv
        obtain ⟨l1, l2, l3⟩ := opV_loc hf hv
        have hT1 : ∀ id ∈ T, id ∈ (fp j).1 := fun id hid => by rw [hff]; cases wr <;> simp [hid]
        have hagT : ∀ id ∈ T, (selH (fun i => (fp i).2) hs (fun i => L.getD i false) ops.size)[id]? = (hs j)[id]? := fun id hid => agreeH id (hT1 id hid)
        obtain ⟨h3, e3, lc⟩ := l3 (selH (fun i => (fp i).2) hs (fun i => L.getD i false) ops.size) (by omega) hagT
        dsimp only at e3
        have hf3 := foot_loc hf hagT
        obtain ⟨m1, m2, m3⟩ := opV_loc hf3 e3
        refine opV_wp hP rfl hrun hr hs' e3 fun u w1 hlv => ?_
        cases wr with
        | false =>
          have e4 := m1 rfl
          subst e4
          obtain ⟨σ1, k1, k2, k3⟩ := hlv
          have e5 : (fp j).2 = [] := by rw [hff]; rfl
          have e6 : selH (fun i => (fp i).2) hs (fun i => (L.setIfInBounds j true).getD i false) ops.size = selH (fun i => (fp i).2) hs (fun i => L.getD i false) ops.size := by
            apply List.ext_getElem?
            intro id
            exact keep id (by rw [e5]; simp)
          have e7 : val j = r := by
            rw [hval]
            exact mv_rel (.inl (List.getElem?_eq_none (by omega))) _ k3
          refine ih (L.setIfInBounds j true) (a.put o.dst u) w1 σ1 hL' (by rw [e6]; exact k1) (by rw [e6]; exact hst.trans k2) (by rw [e6]; exact after (hs'.step k2) (by rw [e7]; exact k3)) (by rw [put_defers]; exact hdf) hcl' hu'
        | true =>
          have hpj : base + j ∈ (fp j).1 ∧ base + j ∈ (fp j).2 := by rw [hff]; simp
          have hpv' : (selH (fun i => (fp i).2) hs (fun i => L.getD i false) ops.size)[base + j]? = some .void := by rw [agreeH _ hpj.1]; exact hpv
          have hL3 : h3.length = h'.length := lc.len
          have pl := place hr hpv' hpT (by omega) m2 hlv
          have e6 : selH (fun i => (fp i).2) hs (fun i => (L.setIfInBounds j true).getD i false) ops.size = fin (base + j) T (selH (fun i => (fp i).2) hs (fun i => L.getD i false) ops.size) h3 := by
            apply List.ext_getElem?
            intro id
            by_cases hid : id ∈ (fp j).2
            · have hid1 : id ∈ (fp j).1 := by rw [hff] at hid ⊢; simpa using hid
              rw [turn id hid hid1, hh2]
              simp only [if_true]
              rw [fin_get, fin_get, agreeH id hid1]
              have e8 : (selH (fun i => (fp i).2) hs (fun i => L.getD i false) ops.size).length = (hs j).length := by omega
              rw [e8, lc.new _ (Nat.le_refl _)]
              by_cases e9 : id = base + j
              · simp only [e9, if_true]
              · have hT : id ∈ T := by
                  rw [hff] at hid
                  simp only [if_true, List.mem_cons] at hid
                  rcases hid with h | h
                  · exact absurd h e9
                  · exact h
                simp only [if_neg e9]
                rw [lc.same id hT]
            · rw [keep id hid]
              have hid' : id ≠ base + j ∧ id ∉ T := by
                rw [hff] at hid
                simpa [not_or] using hid
              rw [fin_out hid'.1 hid'.2]
          rw [← e6] at pl
          obtain ⟨σ1, k1, k2, k3⟩ := pl
          have e7 : val j = r.mv (selH (fun i => (fp i).2) hs (fun i => L.getD i false) ops.size).length (base + j) := by
            rw [hval, hlenj, hlen]
          exact ih (L.setIfInBounds j true) (a.put o.dst u) w1 σ1 hL' k1 (hst.trans k2) (after (hs'.step k2) (by rw [e7]; exact k3)) (by rw [put_defers]; exact hdf) hcl' hu'
      · rw [if_neg (by rw [hw]; simp)]
        have hsr := after (v := undef) hs' (by rw [hval]; exact undef_rel)
        refine ⟨fun _ _ => trivial, ?_⟩
        have e6 : selH (fun i => (fp i).2) hs (fun i => (L.setIfInBounds j true).getD i false) ops.size = selH (fun i => (fp i).2) hs (fun i => L.getD i false) ops.size := by
          apply List.ext_getElem?
          intro id
          exact keep id (by rw [hff]; simp)
        exact ih (L.setIfInBounds j true) (a.put o.dst undef) w σ hL' (by rw [e6]; exact hr) (by rw [e6]; exact hst) (by rw [e6]; exact hsr) (by rw [put_defers]; exact hdf) hcl' hu'

/-- Places for what a region makes. -/
theorem voids [DFlag] {P : Program} {σ : List (Option Nat)} {h : H} {w : World} (hr : HRel P B A0 σ h w) : ∀ m, HRel P B A0 (σ ++ List.replicate m none) (h ++ List.replicate m .void) w ∧ Step P B A0 σ h w (σ ++ List.replicate m none) (h ++ List.replicate m .void) w := by
  intro m
  induction m with
  | zero => simpa using ⟨hr, Step.refl _ _ _⟩
  | succ m ih =>
    obtain ⟨k1, k2⟩ := ih
    have hy : ∀ b, (none : Option Nat) = some b → w.heap.size ≤ b := fun b hb => by cases hb
    have e1 := HRel.push k1 (.refl w) .void none hy (fun cs st e => by cases e) (fun u ty e => by cases e) (fun L st e => by cases e) (fun es e => by cases e)
    have e2 := Step.push k1 (.refl w) .void none hy
    rw [List.replicate_succ', List.replicate_succ', ← List.append_assoc, ← List.append_assoc]
    exact ⟨e1, k2.trans e2⟩
end
end Go.V
