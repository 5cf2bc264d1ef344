/- Maps of one's own: made, asked, turned. -/
import Derived.Test.YtdoegkegjaadeaaGreatDoorQV12
import Derived.MapKept
import Derived.RangeFuncRecord
namespace Go.V
open Go

section
variable {P : Program} {B : Nat} {A0 : Nat → Nat → Prop} {σ : List (Option Nat)} {h : H} {w : World}

theorem pureVal_bind {α β : Type} : ∀ (m : Sem α) (f : α → Sem β), pureVal P (m >>= f) = (pureVal P m).bind fun a => pureVal P (f a) := by
  intro m
  induction m with
  | pure a => intro f; rfl
  | program k ih => intro f; exact ih P f
  | _ => intro f; rfl
theorem pureVal_pure {α : Type} (a : α) : pureVal P (pure a : Sem α) = some a := rfl

/- A key's place hangs on the keys alone. -/
theorem findNow_keys (d : TypeDesc) (k : Value) : ∀ (l l' : List MapEntry) (i : Nat), l.map (·.key) = l'.map (·.key) →
    (match Instr.findNow d k l i with
    | none => Instr.findNow d k l' i = none
    | some none => Instr.findNow d k l' i = some none
    | some (some (j, _)) => ∃ e, i ≤ j ∧ l'[j - i]? = some e ∧ Instr.findNow d k l' i = some (some (j, e.val))) := by
  intro l
  induction l with
  | nil => intro l' i hk; cases l' with
    | nil => simp [Instr.findNow]
    | cons _ _ => simp at hk
  | cons e l ih =>
    intro l' i hk
    cases l' with
    | nil => simp at hk
    | cons e' l' =>
      simp only [List.map_cons, List.cons.injEq] at hk
      simp only [Instr.findNow, ← hk.1]
      cases hs : Instr.sameNow d k e.key with
      | none => simp
      | some b =>
        cases b with
        | true => simp
        | false =>
          have := ih l' (i + 1) hk.2
          dsimp only
          generalize Instr.findNow d k l (i + 1) = r at this ⊢
          match r with
          | none => simpa using this
          | some none => simpa using this
          | some (some (j, v)) =>
            obtain ⟨x, h1, h2, h3⟩ := this
            refine ⟨x, by omega, ?_, h3⟩
            rw [show j - i = (j - (i + 1)) + 1 by omega]; exact h2
theorem findAsking_keys (kt : TypeId) (k : Value) : ∀ (l l' : List MapEntry) (i : Nat) (r : Option (Nat × Value)), l.map (·.key) = l'.map (·.key) → pureVal P (Instr.findAsking kt k l i) = some r →
    (match r with
    | none => pureVal P (Instr.findAsking kt k l' i) = some none
    | some (j, _) => ∃ e, i ≤ j ∧ l'[j - i]? = some e ∧ pureVal P (Instr.findAsking kt k l' i) = some (some (j, e.val))) := by
  intro l
  induction l with
  | nil => intro l' i r hk hr; cases l' with
    | nil => simp only [Instr.findAsking, pureVal_pure, Option.some.injEq] at hr; subst hr; rfl
    | cons _ _ => simp at hk
  | cons e l ih =>
    intro l' i r hk hr
    cases l' with
    | nil => simp at hk
    | cons e' l' =>
      simp only [List.map_cons, List.cons.injEq] at hk
      simp only [Instr.findAsking, pureVal_bind, ← hk.1] at hr ⊢
      cases hb : pureVal P (Op.equal kt k e.key) with
      | none => rw [hb] at hr; cases hr
      | some b =>
        rw [hb] at hr
        cases b with
        | true =>
          simp only [Option.bind_some, if_true, pureVal_pure, Option.some.injEq] at hr
          subst hr
          exact ⟨e', Nat.le_refl _, by simp, by simp [pureVal_pure]⟩
        | false =>
          simp only [Option.bind_some, Bool.false_eq_true, if_false] at hr ⊢
          have := ih l' (i + 1) r hk.2 hr
          match r with
          | none => exact this
          | some (j, v) =>
            obtain ⟨x, h1, h2, h3⟩ := this
            refine ⟨x, by omega, ?_, h3⟩
            rw [show j - i = (j - (i + 1)) + 1 by omega]; exact h2
theorem findKey_keys (kt : TypeId) (k : Value) (l l' : List MapEntry) (r : Option (Nat × Value)) (hk : l.map (·.key) = l'.map (·.key)) (hr : pureVal P (Instr.findKey kt k l) = some r) :
    (match r with
    | none => pureVal P (Instr.findKey kt k l') = some none
    | some (j, _) => ∃ e, l'[j]? = some e ∧ pureVal P (Instr.findKey kt k l') = some (some (j, e.val))) := by
  simp only [Instr.findKey, pureVal_bind] at hr ⊢
  cases hu : pureVal P (underlying kt) with
  | none => rw [hu] at hr; cases hr
  | some d =>
    rw [hu] at hr
    simp only [Option.bind_some] at hr ⊢
    have h1 := findNow_keys d k l l' 0 hk
    generalize Instr.findNow d k l 0 = q at h1 hr
    match q with
    | none =>
      simp only at h1
      rw [h1]
      have := findAsking_keys kt k l l' 0 r hk hr
      match r with
      | none => exact this
      | some (j, v) => obtain ⟨e, _, h2, h3⟩ := this; exact ⟨e, by simpa using h2, h3⟩
    | some none =>
      simp only at h1
      rw [h1]
      simp only [pureVal_pure, Option.some.injEq] at hr ⊢
      subst hr; trivial
    | some (some (j, v)) =>
      obtain ⟨e, _, h2, h3⟩ := h1
      simp only [pureVal_pure, Option.some.injEq] at hr
      subst hr
      exact ⟨e, by simpa using h2, by rw [h3]; rfl⟩

theorem keyEntries_spec : ∀ (es : List (AV × AV)) (i : Nat) (l : List MapEntry), keyEntries es i = some l → l.length = es.length ∧ ∀ (k : Nat) e, es[k]? = some e → ∃ m, l[k]? = some m ∧ toVal e.1 = some m.key := by
  intro es
  induction es with
  | nil => intro i l h; simp only [keyEntries, Option.some.injEq] at h; subst h; simp
  | cons e es ih =>
    intro i l h
    obtain ⟨k, v⟩ := e
    simp only [keyEntries] at h
    split at h <;> first | (cases h; done) | skip
    rename_i kv l' h1 h2
    simp only [Option.some.injEq] at h; subst h
    obtain ⟨g1, g2⟩ := ih _ _ h2
    refine ⟨by simp [g1], fun j x hj => ?_⟩
    cases j with
    | zero => simp only [List.getElem?_cons_zero, Option.some.injEq] at hj; subst hj; exact ⟨_, rfl, h1⟩
    | succ j => simp only [List.getElem?_cons_succ] at hj ⊢; exact g2 j x hj
/-- What the place of a key in the value machine's map says of the model's. -/
theorem findV_spec {empty : Bool} {kt : TypeId} {key : AV} {es : List (AV × AV)} {r : Option Nat} (hh : findV P empty kt key es = some r) {mes : Array MapEntry} (hl : mes.size = es.length)
    (hk : ∀ (k : Nat) e m, es[k]? = some e → mes[k]? = some m → toVal e.1 = some m.key) :
    ∃ kv, toVal key = some kv ∧ (Instr.checkKey empty 10000 kt kv).run P w = .ok () w ∧
      (match r with
      | none => (Instr.findKey kt kv mes.toList).run P w = .ok none w
      | some j => ∃ m, mes[j]? = some m ∧ (Instr.findKey kt kv mes.toList).run P w = .ok (some (j, m.val)) w) := by
  unfold findV at hh
  split at hh <;> first | (cases hh; done) | skip
  rename_i kv l h1 h2
  obtain ⟨g1, g2⟩ := keyEntries_spec _ _ _ h2
  have hkeys : l.map (·.key) = mes.toList.map (·.key) := by
    apply List.ext_getElem?
    intro i
    rw [List.getElem?_map, List.getElem?_map, show mes.toList[i]? = mes[i]? by simp]
    by_cases hi : i < es.length
    · obtain ⟨m, e1, e2⟩ := g2 i es[i] (List.getElem?_eq_getElem hi)
      have hm : mes[i]? = some (mes[i]'(by omega)) := Array.getElem?_eq_getElem _
      have e3 := hk i es[i] _ (List.getElem?_eq_getElem hi) hm
      rw [e2] at e3
      rw [e1, hm]; exact e3
    · rw [List.getElem?_eq_none (by omega), Array.getElem?_eq_none (by omega)]
  simp only [Option.map_eq_some_iff] at hh
  obtain ⟨q, hq, rfl⟩ := hh
  simp only [asksV, pureVal_bind] at hq
  cases hc : pureVal P (Instr.checkKey empty 10000 kt kv) with
  | none => rw [hc] at hq; cases hq
  | some u =>
    rw [hc] at hq
    simp only [Option.bind_some] at hq
    have hf := findKey_keys kt kv l mes.toList q hkeys hq
    refine ⟨kv, h1, pureVal_run _ _ hc, ?_⟩
    match q with
    | none => exact pureVal_run _ _ hf
    | some (j, v) =>
      obtain ⟨e, h3, h4⟩ := hf
      exact ⟨e, by simpa using h3, pureVal_run _ _ h4⟩

theorem makeMap_sound [DFlag] (hr : HRel P B A0 σ h w) (t : TypeId) : ∃ v w', (Instr.makeMap t none).run P w = .ok v w' ∧ Leaves P B A0 σ h w (.mp h.length) (h ++ [.map []]) v w' := by
  have g := Grows.alloc w (.map #[] 0)
  have hy : ∀ b, (some w.heap.size : Option Nat) = some b → w.heap.size ≤ b := fun b e => by simp only [Option.some.injEq] at e; omega
  refine ⟨.map (some w.heap.size), w.alloc (.map #[] 0), rfl, σ ++ [some w.heap.size], HRel.push hr g (.map []) _ hy (fun _ _ e => by cases e) (fun _ _ e => by cases e) (fun _ _ e => by cases e) (fun es e => ?_), Step.push hr g _ _ hy,
    .mp (by rw [← hr.len, getElem?_push_eq]) ⟨[], getElem?_push_eq h _⟩⟩
  simp only [VObj.map.injEq] at e; subst e
  exact ⟨w.heap.size, #[], 0, rfl, heap_alloc_new w _, rfl, fun k e m he _ => by simp at he⟩

theorem rel_mp {A : Nat → Nat → Prop} {id : Nat} {v : Value} (r : Rel P A σ h w (.mp id) v) : ∃ b, v = .map (some b) ∧ σ[id]? = some (some b) := by
  cases r with
  | data hd => cases hd
  | mp hs hk => exact ⟨_, rfl, hs⟩
theorem rel_nilmap {A : Nat → Nat → Prop} {v : Value} (r : Rel P A σ h w .nilmap v) : v = .map none := by
  cases r with
  | data hd => cases hd; rfl

theorem lookupV_sound (hr : HRel P B A0 σ h w) {t : TypeId} {x k : AV} {ok : Bool} {r : AV} {u v : Value} (hh : lookupV P h t x k ok = some r) (rx : Rel P (Alw P B A0 σ h) σ h w x u) (rk : Rel P (Alw P B A0 σ h) σ h w k v) :
    ∃ z, (Instr.lookup t u v ok).run P w = .ok z w ∧ Rel P (Alw P B A0 σ h) σ h w r z := by
  unfold lookupV at hh
  split at hh <;> first | (cases hh; done) | skip
  rename_i kt et ht
  split at hh <;> first | (cases hh; done) | skip
  rename_i es hes
  -- the entries, as the model holds them
  obtain ⟨mes, hget, hl, hk⟩ : ∃ mes : Array MapEntry, ((u = .map none ∧ mes = #[]) ∨ ∃ b clock, u = .map (some b) ∧ w.heap[b]? = some (.map mes clock)) ∧ mes.size = es.length ∧
      ∀ (i : Nat) e m, es[i]? = some e → mes[i]? = some m → toVal e.1 = some m.key ∧ notTuple e.2 = true ∧ Rel P (Alw P B A0 σ h) σ h w e.2 m.val := by
    split at hes <;> first | (cases hes; done) | skip
    · simp only [Option.some.injEq] at hes; subst hes
      have := rel_nilmap rx; subst this
      exact ⟨#[], .inl ⟨rfl, rfl⟩, rfl, fun i e m he _ => by simp at he⟩
    · rename_i id
      split at hes <;> first | (cases hes; done) | skip
      rename_i es' hid
      simp only [Option.some.injEq] at hes; subst hes
      obtain ⟨b, rfl, hs⟩ := rel_mp rx
      obtain ⟨b', mes, clock, k1, k2, k3, k4, k5⟩ := hr.map id es' hid
      rw [hs] at k1; simp only [Option.some.injEq] at k1; subst k1
      exact ⟨mes, .inr ⟨b, clock, rfl, k3⟩, k4, k5⟩
  have hemp : mes.isEmpty = es.isEmpty := by
    cases es with
    | nil => simp only [List.length_nil] at hl; simp [Array.isEmpty, hl]
    | cons e es => simp only [List.length_cons] at hl; simp [Array.isEmpty, hl]
  split at hh
  · rename_i i hf
    split at hh <;> first | (cases hh; done) | skip
    rename_i e he
    simp only [Option.some.injEq] at hh; subst hh
    obtain ⟨kv, e1, e2, m, e3, e4⟩ := findV_spec (w := w) hf hl fun k e m he hm => (hk k e m he hm).1
    have hv := toVal_rel e1 rk; subst hv
    obtain ⟨q1, q2, q3⟩ := hk i e m he e3
    cases ok with
    | true =>
      refine ⟨.tuple #[m.val, .bool true], ?_, ?_⟩
      · rcases hget with ⟨rfl, rfl⟩ | ⟨b, c, rfl, hb⟩
        · simp only [Instr.lookup, Sem.run_bind, run_under ht, Result.andThen_ok, hemp, e2, e4, Sem.run_pure, if_true]
        · simp only [Instr.lookup, Sem.run_bind, run_under ht, Result.andThen_ok, MapKept.run_getObj_map hb, hemp, e2, e4, Sem.run_pure, if_true]
      · refine .tuple rfl fun j a z ha hz => ?_
        match j with
        | 0 => simp at ha hz; subst ha hz; exact q3
        | 1 => simp at ha hz; subst ha hz; exact .data (.bool _)
        | j + 2 => simp at ha
    | false =>
      refine ⟨m.val, ?_, q3⟩
      rcases hget with ⟨rfl, rfl⟩ | ⟨b, c, rfl, hb⟩
      · simp only [Instr.lookup, Sem.run_bind, run_under ht, Result.andThen_ok, hemp, e2, e4, Sem.run_pure, Bool.false_eq_true, if_false]
      · simp only [Instr.lookup, Sem.run_bind, run_under ht, Result.andThen_ok, MapKept.run_getObj_map hb, hemp, e2, e4, Sem.run_pure, Bool.false_eq_true, if_false]
  · rename_i hf
    split at hh <;> first | (cases hh; done) | skip
    rename_i z hz
    simp only [Option.some.injEq] at hh; subst hh
    obtain ⟨kv, e1, e2, e4⟩ := findV_spec (w := w) hf hl fun k e m he hm => (hk k e m he hm).1
    have hv := toVal_rel e1 rk; subst hv
    obtain ⟨zv, z1, z2, _⟩ := zeroV_spec (A := Alw P B A0 σ h) (σ := σ) (h := h) (w := w) hz
    cases ok with
    | true =>
      refine ⟨.tuple #[zv, .bool false], ?_, ?_⟩
      · rcases hget with ⟨rfl, rfl⟩ | ⟨b, c, rfl, hb⟩
        · simp only [Instr.lookup, Sem.run_bind, run_under ht, Result.andThen_ok, hemp, e2, e4, z1, Sem.run_pure, if_true]
        · simp only [Instr.lookup, Sem.run_bind, run_under ht, Result.andThen_ok, MapKept.run_getObj_map hb, hemp, e2, e4, z1, Sem.run_pure, if_true]
      · refine .tuple rfl fun j a z ha hz => ?_
        match j with
        | 0 => simp at ha hz; subst ha hz; exact z2
        | 1 => simp at ha hz; subst ha hz; exact .data (.bool _)
        | j + 2 => simp at ha
    | false =>
      refine ⟨zv, ?_, z2⟩
      rcases hget with ⟨rfl, rfl⟩ | ⟨b, c, rfl, hb⟩
      · simp only [Instr.lookup, Sem.run_bind, run_under ht, Result.andThen_ok, hemp, e2, e4, z1, Sem.run_pure, Bool.false_eq_true, if_false]
      · simp only [Instr.lookup, Sem.run_bind, run_under ht, Result.andThen_ok, MapKept.run_getObj_map hb, hemp, e2, e4, z1, Sem.run_pure, Bool.false_eq_true, if_false]
  · cases hh
/-- A block that holds no cells may turn: nothing that is said of cells is touched. -/
theorem putObj_cell {l : Nat} {o o' : Obj} (hl : w.heap[l]? = some o) (ho : ∀ vs ty fr, o ≠ .cells vs ty fr) (_ho' : ∀ vs ty fr, o' ≠ .cells vs ty fr) {b k : Nat} {x : Value} (hc : w.cell? ⟨b, k, none⟩ = some x) : (w.putObj l o').cell? ⟨b, k, none⟩ = some x := by
  by_cases e : b = l
  · subst e
    unfold World.cell? at hc
    simp only [hl] at hc
    cases o <;> first | (cases hc; done) | exact absurd rfl (ho _ _ _)
  · rw [World.cell?_of_block (w := w) (World.putObj_heap_other e)]; exact hc
theorem putObj_row {l : Nat} {o o' : Obj} (hl : w.heap[l]? = some o) (ho : ∀ vs ty fr, o ≠ .cells vs ty fr) {b : Nat} {vs : Array Value} {ty : TypeId} {fr : Nat × Nat} (hb : w.heap[b]? = some (.cells vs ty fr)) : (w.putObj l o').heap[b]? = some (.cells vs ty fr) := by
  rw [World.putObj_heap_other (fun e => by subst e; rw [hl] at hb; exact ho _ _ _ (Option.some.inj hb))]; exact hb
theorem putObj_shapes {l : Nat} {o o' : Obj} (hl : w.heap[l]? = some o) (ho : ∀ vs ty fr, o ≠ .cells vs ty fr) : Shapes w (w.putObj l o') := fun _b vs _ty fr hb => ⟨vs, fr, putObj_row hl ho hb, rfl⟩
theorem putObj_below {l : Nat} {o' : Obj} (hB : B ≤ l) : RowKit.Below B w (w.putObj l o') :=
  ⟨rfl, rfl, rfl, by simp, fun k hk => World.putObj_heap_other (by omega)⟩


/-- A map turns. -/
theorem Step.mapSet [DFlag] (_ : HRel P B A0 σ h w) {i b : Nat} {es es' : List (AV × AV)} {mes mes' : Array MapEntry} {clock clock' : Nat} (hi : h[i]? = some (.map es)) (hb : w.heap[b]? = some (.map mes clock)) (hB : B ≤ b) :
    Step P B A0 σ h w σ (h.set i (.map es')) (w.putObj b (.map mes' clock')) where
  below := putObj_below hB
  shapes := putObj_shapes hb (by simp)
  kept := fun b o x ha hc => by
    refine ⟨?_, putObj_cell hb (by simp) (by simp) hc⟩
    unfold Alw at *
    split
    · rename_i hb; simpa [hb] using ha
    · rename_i hb
      rw [if_neg hb] at ha
      refine ⟨fun j cs hj => ?_, fun j u t hj => ?_⟩
      · rcases getElem?_set_cases hj with ⟨_, e, _⟩ | ⟨_, hj⟩
        · cases e
        · exact ha.1 j cs hj
      · rcases getElem?_set_cases hj with ⟨_, e, _⟩ | ⟨_, hj⟩
        · cases e
        · exact ha.2 j u t hj
  cells := fun j cs st2 hj => ⟨rfl, cs, st2, by rw [List.getElem?_set_ne (fun e => by subst e; rw [hi] at hj; cases hj)]; exact hj⟩
  toks := fun j u ty hj => ⟨u, by rw [List.getElem?_set_ne (fun e => by subst e; rw [hi] at hj; cases hj)]; exact hj, Nat.le_refl _, fun _ => rfl⟩
  loops := fun j L st hj => ⟨rfl, st, by rw [List.getElem?_set_ne (fun e => by subst e; rw [hi] at hj; cases hj)]; exact hj⟩
  maps := fun j es2 hj => ⟨rfl, by
    by_cases e : j = i
    · subst e; exact ⟨es', List.getElem?_set_self (List.getElem?_eq_some_iff.1 hi).1⟩
    · exact ⟨es2, by rw [List.getElem?_set_ne (fun k => e k.symm)]; exact hj⟩⟩
  marks := fun k hk => by rw [World.putObj_heap_other (fun e => by subst e; rw [hb] at hk; cases hk)]; exact hk
  drawn := fun _ => Nat.le_refl _
theorem HRel.mapSet (hr : HRel P B A0 σ h w) {i b : Nat} {es es' : List (AV × AV)} {mes mes' : Array MapEntry} {clock clock' : Nat} (hi : h[i]? = some (.map es)) (hs : σ[i]? = some (some b)) (hb : w.heap[b]? = some (.map mes clock))
    (hsz : mes'.size = es'.length) (hrel : ∀ (k : Nat) e m, es'[k]? = some e → mes'[k]? = some m → toVal e.1 = some m.key ∧ notTuple e.2 = true ∧ Rel P (Alw P B A0 σ h) σ h w e.2 m.val) :
    HRel P B A0 σ (h.set i (.map es')) (w.putObj b (.map mes' clock')) := by
  obtain ⟨b', mes0, clock0, k1, k2, k3, _⟩ := hr.map i es hi
  rw [hs] at k1; simp only [Option.some.injEq] at k1; subst k1
  have hst := Step.mapSet (es' := es') (mes' := mes') (clock' := clock') hr hi hb k2
  refine ⟨by simpa using hr.base, by simpa using hr.len, fun j cs st2 hj hd => ?_, fun j u ty hj => ?_, fun j L2 st2 hj hd => ?_, fun j es2 hj => ?_, fun j1 j2 b x y hj1 hj2 s1 s2 g1 g2 => ?_, hr.globBelow hst.below⟩
  · rcases getElem?_set_cases hj with ⟨_, e, _⟩ | ⟨_, hj⟩
    · cases e
    · obtain ⟨b, vs, ty, q1, q2, q3, q4, q5, q6⟩ := hr.cells j cs st2 hj hd
      exact ⟨b, vs, ty, q1, q2, putObj_row hb (by simp) q3, q4, q5, fun k c v hc hv => (q6 k c v hc hv).step hst⟩
  · rcases getElem?_set_cases hj with ⟨_, e, _⟩ | ⟨_, hj⟩
    · cases e
    · rcases hr.tok j u ty hj with k | ⟨b, vs, sz, cap, q1, q2, q3, q⟩
      · exact .inl k
      · exact .inr ⟨b, vs, sz, cap, q1, q2, putObj_row hb (by simp) q3, q⟩
  · rcases getElem?_set_cases hj with ⟨_, e, _⟩ | ⟨hne, hj⟩
    · cases e
    · obtain ⟨l2, fn2, tm2, D2, q1, q2, q3, q4, q5⟩ := hr.loop j L2 st2 hj hd
      exact ⟨l2, fn2, tm2, D2, q1, q2, by rw [World.putObj_heap_other (fun e => by subst e; rw [hb] at q3; cases q3)]; exact q3, q4, fun t => (q5 t).step hst⟩
  · rcases getElem?_set_cases hj with ⟨rfl, e, _⟩ | ⟨hne, hj⟩
    · simp only [VObj.map.injEq] at e; subst e
      exact ⟨b, mes', clock', hs, k2, World.putObj_heap_same (Array.getElem?_eq_some_iff.1 hb).1, hsz, fun k e m he hm => let q := hrel k e m he hm; ⟨q.1, q.2.1, q.2.2.step hst⟩⟩
    · obtain ⟨b2, mes2, clock2, q1, q2, q3, q4, q5⟩ := hr.map j es2 hj
      have hne2 : b2 ≠ b := fun e => hne (hr.uniq j i b _ _ hj hi (e ▸ q1) hs rfl rfl)
      exact ⟨b2, mes2, clock2, q1, q2, by rw [World.putObj_heap_other hne2]; exact q3, q4, fun k e m he hm => let q := q5 k e m he hm; ⟨q.1, q.2.1, q.2.2.step hst⟩⟩
  · have key : ∀ (j : Nat) p, (h.set i (.map es'))[j]? = some p → p.gone = false → ∃ p', h[j]? = some p' ∧ p'.gone = false := fun j p hj dj => by
      rcases getElem?_set_cases hj with ⟨rfl, _, _⟩ | ⟨_, hj⟩
      · exact ⟨_, hi, rfl⟩
      · exact ⟨p, hj, dj⟩
    obtain ⟨p', hp', dp'⟩ := key j1 x hj1 g1
    obtain ⟨q', hq', dq'⟩ := key j2 y hj2 g2
    exact hr.uniq j1 j2 b p' q' hp' hq' s1 s2 dp' dq'

theorem mapUpdateV_sound [DFlag] (hr : HRel P B A0 σ h w) {t : TypeId} {x k v : AV} {h' : H} {ux uk uv : Value} (hh : mapUpdateV P h t x k v = some h') (rx : Rel P (Alw P B A0 σ h) σ h w x ux) (rk : Rel P (Alw P B A0 σ h) σ h w k uk) (rv : Rel P (Alw P B A0 σ h) σ h w v uv) :
    ∃ w', (Instr.mapUpdate t ux uk uv).run P w = .ok () w' ∧ HRel P B A0 σ h' w' ∧ Step P B A0 σ h w σ h' w' := by
  unfold mapUpdateV at hh
  split at hh <;> first | (cases hh; done) | skip
  rename_i kt et id ht
  split at hh <;> first | (cases hh; done) | skip
  rename_i es hid
  split at hh <;> first | (cases hh; done) | skip
  rename_i hnt
  simp only [Bool.not_eq_true', Bool.not_eq_false] at hnt
  obtain ⟨b, rfl, hs⟩ := rel_mp rx
  obtain ⟨b', mes, clock, k1, k2, k3, k4, k5⟩ := hr.map id es hid
  rw [hs] at k1; simp only [Option.some.injEq] at k1; subst k1
  have hget : (getObj b).run P w = .ok (.map mes clock) w := MapKept.run_getObj_map k3
  have hset : ∀ o, (setObj b o).run P w = .ok () (w.putObj b o) := fun o => MapKept.run_setObj_map o k3
  split at hh
  · rename_i i hf
    split at hh <;> first | (cases hh; done) | skip
    rename_i e kv he hkv
    split at hh <;> first | (cases hh; done) | skip
    rename_i ov hov
    split at hh <;> first | (cases hh; done) | skip
    rename_i hsb
    simp only [Option.some.injEq] at hh; subst hh
    obtain ⟨kv', e1, e2, m, e3, e4⟩ := findV_spec (w := w) hf k4 fun k e m he hm => (k5 k e m he hm).1
    rw [hkv] at e1; simp only [Option.some.injEq] at e1; subst e1
    have hu := toVal_rel hkv rk; subst hu
    obtain ⟨q1, q2, q3⟩ := k5 i e m he e3
    rw [hov] at q1; simp only [Option.some.injEq] at q1
    have hil : i < mes.size := (Array.getElem?_eq_some_iff.1 e3).1
    have hkey : (Instr.keyThatStays (((mes[i]?).map (·.key)).getD uk) uk).run P w = .ok uk w := by
      rw [e3]
      simp only [Option.map_some, Option.getD_some, Instr.keyThatStays]
      rw [← q1, if_pos hsb]; rfl
    have hmod : ∀ (j : Nat), (mes.modify i fun e => { e with key := uk, val := uv })[j]? = if j = i then some { m with key := uk, val := uv } else mes[j]? := fun j => by
      rw [Array.getElem?_modify]
      by_cases hj : i = j
      · subst hj; rw [if_pos rfl, if_pos rfl, e3]; rfl
      · rw [if_neg hj, if_neg (fun e => hj e.symm)]
    refine ⟨w.putObj b (.map (mes.modify i fun e => { e with key := uk, val := uv }) clock), ?_, ?_, Step.mapSet hr hid k3 k2⟩
    · simp only [Instr.mapUpdate, Sem.run_bind, run_under ht, Result.andThen_ok, hget, e2, e4, hkey, hset]
    · refine HRel.mapSet hr hid hs k3 (by simp [k4]) fun j e' m' he' hm' => ?_
      rw [hmod] at hm'
      rcases getElem?_set_cases he' with ⟨rfl, rfl, _⟩ | ⟨hne, he'⟩
      · rw [if_pos rfl] at hm'; simp only [Option.some.injEq] at hm'; subst hm'
        exact ⟨hkv, hnt, rv⟩
      · rw [if_neg hne] at hm'
        exact k5 j e' m' he' hm'
  · rename_i hf
    split at hh <;> first | (cases hh; done) | skip
    rename_i hkv
    obtain ⟨kv, hkv⟩ := Option.isSome_iff_exists.1 hkv
    simp only [Option.some.injEq] at hh; subst hh
    obtain ⟨kv', e1, e2, e4⟩ := findV_spec (w := w) hf k4 fun k e m he hm => (k5 k e m he hm).1
    rw [hkv] at e1; simp only [Option.some.injEq] at e1; subst e1
    have hu := toVal_rel hkv rk; subst hu
    refine ⟨w.putObj b (.map (mes.push { key := uk, val := uv, born := clock }) (clock + 1)), ?_, ?_, Step.mapSet hr hid k3 k2⟩
    · simp only [Instr.mapUpdate, Sem.run_bind, run_under ht, Result.andThen_ok, hget, e2, e4, hset]
    · refine HRel.mapSet hr hid hs k3 (by simp [k4]) fun j e' m' he' hm' => ?_
      by_cases hj : j < es.length
      · rw [List.getElem?_append_left hj] at he'
        rw [Array.getElem?_push_lt (by omega)] at hm'
        exact k5 j e' m' he' (by rw [Array.getElem?_eq_getElem (by omega)]; exact hm')
      · have hje : j = es.length := by
          have := (List.getElem?_eq_some_iff.1 he').1
          simp at this; omega
        subst hje
        simp at he'
        rw [← k4] at hm'
        simp at hm'
        subst he' hm'
        exact ⟨hkv, hnt, rv⟩
  · cases hh
end
end Go.V
