/- Rows written and rows that grow. -/
import Derived.Test.YtdoegkegjaadeaaGreatDoorQV8
namespace Go.V
open Go

section
variable {P : Program} {B : Nat} {A0 : Nat → Nat → Prop} {σ : List (Option Nat)} {h : H} {w : World}

theorem irel_one {A : Nat → Nat → Prop} {c : AV} {x : Value} (r : IRel A w c x) (h1 : c.one = true) : x.oneCell' = true := by
  cases r <;> first | rfl | (simp [AV.one] at h1; done)
theorem rel_one {A : Nat → Nat → Prop} {c : AV} {x : Value} (r : Rel P A σ h w c x) (h1 : c.one = true) : x.oneCell' = true := by
  cases r with
  | data r => exact irel_one r h1
  | tok hd _ => exact irel_one hd rfl
  | _ => first | rfl | (simp [AV.one] at h1; done)

/-- One row of cells is written over, cell for cell. -/
theorem setRow_shapes {b : Nat} {vs vs' : Array Value} {ty : TypeId} {fr : Nat × Nat} (hb : w.heap[b]? = some (.cells vs ty fr)) (hs : vs'.size = vs.size) : Shapes w (w.setRow b vs') := by
  intro k us t f hk
  by_cases e : k = b
  · subst e
    rw [hb] at hk; simp only [Option.some.injEq, Obj.cells.injEq] at hk
    obtain ⟨rfl, rfl, rfl⟩ := hk
    exact ⟨vs', _, setRow_heap w k vs vs' _ _ hb, hs⟩
  · exact ⟨us, f, by rw [setRow_other w b k vs' e]; exact hk, rfl⟩
theorem setRow_below {b : Nat} {vs' : Array Value} (hB : B ≤ b) : RowKit.Below B w (w.setRow b vs') :=
  ⟨rfl, rfl, rfl, by simp, fun k hk => setRow_other w b k vs' (by omega)⟩
theorem setRow_cell {b k o : Nat} {vs' : Array Value} (e : k ≠ b) : (w.setRow b vs').cell? ⟨k, o, none⟩ = w.cell? ⟨k, o, none⟩ :=
  World.cell?_of_block (w := w) (setRow_other w b k vs' e)

theorem getElem?_set_cases {α : Type} {l : List α} {x y : α} {i j : Nat} (hj : (l.set i x)[j]? = some y) : (j = i ∧ y = x ∧ i < l.length) ∨ (j ≠ i ∧ l[j]? = some y) := by
  by_cases e : j = i
  · subst e
    have hl : j < (l.set j x).length := (List.getElem?_eq_some_iff.1 hj).1
    simp only [List.length_set] at hl
    rw [List.getElem?_set_self hl] at hj
    simp only [Option.some.injEq] at hj
    exact .inl ⟨rfl, hj.symm, hl⟩
  · rw [List.getElem?_set_ne (fun k => e k.symm)] at hj
    exact .inr ⟨e, hj⟩

theorem gone_cells {cs : List AV} {st : OSt} (hd : st ≠ .dead) : (VObj.cells cs st).gone = false := by cases st <;> first | rfl | exact absurd rfl hd
theorem gone_loop {L : LoopV} {st : LSt} (hd : st ≠ .over) : (VObj.loop L st).gone = false := by cases st <;> first | rfl | exact absurd rfl hd
theorem setRow_mark {b k : Nat} {vs vs' : Array Value} {ty : TypeId} {o : Obj} (hb : w.heap[b]? = some (.cells vs ty (0, 0))) (hk : w.heap[k]? = some o) (ho : ∀ vs ty fr, o ≠ .cells vs ty fr) : (w.setRow b vs').heap[k]? = some o := by
  rw [setRow_other w b k vs' (fun e => by subst e; rw [hb] at hk; exact ho _ _ _ (Option.some.inj hk).symm)]; exact hk
theorem Step.write [DFlag] (hr : HRel P B A0 σ h w) {id b : Nat} {cs cs' : List AV} {vs vs' : Array Value} {ty : TypeId} (hid : h[id]? = some (.cells cs .live)) (hs : σ[id]? = some (some b))
    (hb : w.heap[b]? = some (.cells vs ty (0, 0))) (hsz : vs'.size = vs.size) : Step P B A0 σ h w σ (h.set id (.cells cs' .live)) (w.setRow b vs') := by
  have hl := hr.lt hid rfl hs
  refine ⟨setRow_below hl.2, setRow_shapes hb hsz, fun k o x ha hc => ?_, fun i cs st hi => ⟨rfl, ?_⟩, fun i u ty hi => ⟨u, ?_, Nat.le_refl _, fun _ => rfl⟩,
    fun i L st hi => ⟨rfl, st, by rw [List.getElem?_set_ne (fun k => by subst k; rw [hid] at hi; cases hi)]; exact hi⟩, fun i es hi => ⟨rfl, es, by rw [List.getElem?_set_ne (fun k => by subst k; rw [hid] at hi; cases hi)]; exact hi⟩, fun k hk => setRow_mark hb hk (by simp), fun _ => Nat.le_refl _⟩
  · have hne : k ≠ b := by
      intro e; subst e
      unfold Alw at ha
      rw [if_neg (by omega)] at ha
      exact ha.1 id cs hid hs
    refine ⟨?_, by rw [setRow_cell hne]; exact hc⟩
    unfold Alw at *
    split
    · rename_i hB; simpa [hB] using ha
    · rename_i hB
      rw [if_neg hB] at ha
      refine ⟨fun i cs2 hi => ?_, fun i u t hi => ?_⟩
      · rcases getElem?_set_cases hi with ⟨rfl, _, _⟩ | ⟨_, hi⟩
        · exact ha.1 i cs hid
        · exact ha.1 i cs2 hi
      · rcases getElem?_set_cases hi with ⟨_, e, _⟩ | ⟨_, hi⟩
        · cases e
        · exact ha.2 i u t hi
  · by_cases e : i = id
    · subst e; exact ⟨cs', .live, List.getElem?_set_self (List.getElem?_eq_some_iff.1 hid).1⟩
    · exact ⟨cs, st, by rw [List.getElem?_set_ne (fun k => e k.symm)]; exact hi⟩
  · by_cases e : i = id
    · subst e; rw [hid] at hi; cases hi
    · rw [List.getElem?_set_ne (fun k => e k.symm)]; exact hi

theorem HRel.write (hr : HRel P B A0 σ h w) {id b : Nat} {cs cs' : List AV} {vs vs' : Array Value} {ty : TypeId} (hid : h[id]? = some (.cells cs .live)) (hs : σ[id]? = some (some b))
    (hb : w.heap[b]? = some (.cells vs ty (0, 0))) (hsz : vs'.size = vs.size) (hl' : cs'.length ≤ vs.size) (h1 : ∀ c ∈ cs', c.one = true)
    (hrel : ∀ (k : Nat) c v, cs'[k]? = some c → vs'[k]? = some v → Rel P (Alw P B A0 σ h) σ h w c v) : HRel P B A0 σ (h.set id (.cells cs' .live)) (w.setRow b vs') := by
  have hst := Step.write (cs' := cs') hr hid hs hb hsz
  have hlt := hr.lt hid rfl hs
  refine ⟨by simpa using hr.base, by simpa using hr.len, fun i c2 st hi hd => ?_, fun i u t hi => ?_, fun i L st hi hd => ?_, fun i es hi => ?map, fun i j k p q hi hj si sj di dj => ?_, hr.globBelow hst.below⟩
  case map =>
    rcases getElem?_set_cases hi with ⟨_, e, _⟩ | ⟨hne, hi⟩
    · cases e
    · obtain ⟨b2, mes, clock, k1, k2, k3, k4, k5⟩ := hr.map i es hi
      exact ⟨b2, mes, clock, k1, k2, setRow_mark hb k3 (by simp), k4, fun k e m he hm => let q := k5 k e m he hm; ⟨q.1, q.2.1, q.2.2.step hst⟩⟩
  rotate_left 2
  · rcases getElem?_set_cases hi with ⟨_, e, _⟩ | ⟨hne, hi⟩
    · cases e
    · obtain ⟨l, fn, tm, D, k1, k2, k3, k4, k5⟩ := hr.loop i L st hi hd
      exact ⟨l, fn, tm, D, k1, k2, setRow_mark hb k3 (by simp), k4, fun t => (k5 t).step hst⟩
  rotate_left 1
  · rcases getElem?_set_cases hi with ⟨rfl, e, _⟩ | ⟨hne, hi⟩
    · simp only [VObj.cells.injEq] at e
      obtain ⟨rfl, rfl⟩ := e
      exact ⟨b, vs', ty, hs, hlt.2, setRow_heap w b vs vs' _ _ hb, by omega, h1, fun k c v hc hv => (hrel k c v hc hv).step hst⟩
    · obtain ⟨b2, us, t2, k1, k2, k3, k4, k5, k6⟩ := hr.cells i c2 st hi hd
      have hbb : b2 ≠ b := fun e => hne (hr.uniq i id b _ _ hi hid (by rw [k1, e]) hs (gone_cells hd) rfl)
      exact ⟨b2, us, t2, k1, k2, by rw [setRow_other w b b2 vs' hbb]; exact k3, k4, k5, fun k c v hc hv => (k6 k c v hc hv).step hst⟩
  · rcases getElem?_set_cases hi with ⟨_, e, _⟩ | ⟨hne, hi⟩
    · cases e
    · rcases hr.tok i u t hi with k | ⟨b2, us, sz, cap, k1, k2, k3, k4⟩
      · exact .inl k
      · have hbb : b2 ≠ b := fun e => hne (hr.uniq i id b _ _ hi hid (by rw [k1, e]) hs rfl rfl)
        exact .inr ⟨b2, us, sz, cap, k1, k2, by rw [setRow_other w b b2 vs' hbb]; exact k3, k4⟩
  · have key : ∀ (i : Nat) p, (h.set id (.cells cs' .live))[i]? = some p → p.gone = false → ∃ p', h[i]? = some p' ∧ p'.gone = false := fun i p hi di => by
      rcases getElem?_set_cases hi with ⟨rfl, e, _⟩ | ⟨hne, hi⟩
      · exact ⟨_, hid, rfl⟩
      · exact ⟨p, hi, di⟩
    obtain ⟨p', hi', di'⟩ := key i p hi di
    obtain ⟨q', hj', dj'⟩ := key j q hj dj
    exact hr.uniq i j k p' q' hi' hj' si sj di' dj'

/-- A row that grows within its room. -/
theorem Step.tokWrite [DFlag] (hr : HRel P B A0 σ h w) {t b u u' sz : Nat} {vs vs' : Array Value} {ty : TypeId} (ht : h[t]? = some (.tok u ty)) (hs : σ[t]? = some (some b))
    (hb : w.heap[b]? = some (.cells vs ty (0, 0))) (hsize : sizeV P ty = some sz) (hsz : vs'.size = vs.size) (hu : u ≤ u') (hkeep : ∀ o, o < u * sz → vs'[o]? = vs[o]?) :
    Step P B A0 σ h w σ (h.set t (.tok u' ty)) (w.setRow b vs') := by
  have hl := hr.lt ht rfl hs
  refine ⟨setRow_below hl.2, setRow_shapes hb hsz, fun k o x ha hc => ?_, fun i cs st hi => ⟨rfl, ?_⟩, fun i u2 ty2 hi => ?_,
    fun i L st hi => ⟨rfl, st, by rw [List.getElem?_set_ne (fun k => by subst k; rw [ht] at hi; cases hi)]; exact hi⟩, fun i es hi => ⟨rfl, es, by rw [List.getElem?_set_ne (fun k => by subst k; rw [ht] at hi; cases hi)]; exact hi⟩, fun k hk => setRow_mark hb hk (by simp), fun _ => Nat.le_refl _⟩
  · refine ⟨?_, ?_⟩
    · unfold Alw at *
      split
      · rename_i hB; simpa [hB] using ha
      · rename_i hB
        rw [if_neg hB] at ha
        refine ⟨fun i cs2 hi => ?_, fun i u2 t2 hi hs2 => ?_⟩
        · rcases getElem?_set_cases hi with ⟨_, e, _⟩ | ⟨_, hi⟩
          · cases e
          · exact ha.1 i cs2 hi
        · rcases getElem?_set_cases hi with ⟨rfl, e, _⟩ | ⟨_, hi⟩
          · simp only [VObj.tok.injEq] at e
            obtain ⟨rfl, rfl⟩ := e
            obtain ⟨s2, e1, e2⟩ := ha.2 i u _ ht hs2
            exact ⟨s2, e1, Nat.lt_of_lt_of_le e2 (Nat.mul_le_mul_right _ hu)⟩
          · exact ha.2 i u2 t2 hi hs2
    · by_cases e : k = b
      · subst e
        unfold Alw at ha
        rw [if_neg (by omega)] at ha
        obtain ⟨s2, e1, e2⟩ := ha.2 t u ty ht hs
        rw [hsize] at e1; simp only [Option.some.injEq] at e1; subst e1
        rw [cell_of_row _ k o vs' ty _ (setRow_heap w k vs vs' _ _ hb), hkeep o e2, ← cell_of_row w k o vs ty _ hb]
        exact hc
      · rw [setRow_cell e]; exact hc
  · have hne : i ≠ t := fun e => by subst e; rw [ht] at hi; cases hi
    exact ⟨cs, st, by rw [List.getElem?_set_ne (fun k => hne k.symm)]; exact hi⟩
  · by_cases e : i = t
    · subst e
      rw [ht] at hi; simp only [Option.some.injEq, VObj.tok.injEq] at hi
      obtain ⟨rfl, rfl⟩ := hi
      exact ⟨u', List.getElem?_set_self (List.getElem?_eq_some_iff.1 ht).1, hu, fun _ => rfl⟩
    · exact ⟨u2, by rw [List.getElem?_set_ne (fun k => e k.symm)]; exact hi, Nat.le_refl _, fun _ => rfl⟩

theorem HRel.tokWrite (hr : HRel P B A0 σ h w) {t b u u' sz cap : Nat} {vs vs' : Array Value} {ty : TypeId} (ht : h[t]? = some (.tok u ty)) (hs : σ[t]? = some (some b))
    (hb : w.heap[b]? = some (.cells vs ty (0, 0))) (hsize : sizeV P ty = some sz) (hsz : vs'.size = vs.size) (hu : u ≤ u') (hkeep : ∀ o, o < u * sz → vs'[o]? = vs[o]?)
    (hcap : vs.size = cap * sz) (hc : u' ≤ cap) (hm : cap ≤ maxLen) : HRel P B A0 σ (h.set t (.tok u' ty)) (w.setRow b vs') := by
  have hst := Step.tokWrite (u' := u') hr ht hs hb hsize hsz hu hkeep
  have hlt := hr.lt ht rfl hs
  refine ⟨by simpa using hr.base, by simpa using hr.len, fun i c2 st hi hd => ?_, fun i u2 t2 hi => ?_, fun i L st hi hd => ?_, fun i es hi => ?map, fun i j k p q hi hj si sj di dj => ?_, hr.globBelow hst.below⟩
  case map =>
    rcases getElem?_set_cases hi with ⟨_, e, _⟩ | ⟨hne, hi⟩
    · cases e
    · obtain ⟨b2, mes, clock, k1, k2, k3, k4, k5⟩ := hr.map i es hi
      exact ⟨b2, mes, clock, k1, k2, setRow_mark hb k3 (by simp), k4, fun k e m he hm => let q := k5 k e m he hm; ⟨q.1, q.2.1, q.2.2.step hst⟩⟩
  rotate_left 2
  · rcases getElem?_set_cases hi with ⟨_, e, _⟩ | ⟨hne, hi⟩
    · cases e
    · obtain ⟨l, fn, tm, D, k1, k2, k3, k4, k5⟩ := hr.loop i L st hi hd
      exact ⟨l, fn, tm, D, k1, k2, setRow_mark hb k3 (by simp), k4, fun t => (k5 t).step hst⟩
  rotate_left 1
  · rcases getElem?_set_cases hi with ⟨rfl, e, _⟩ | ⟨hne, hi⟩
    · cases e
    · obtain ⟨b2, us, t2, k1, k2, k3, k4, k5, k6⟩ := hr.cells i c2 st hi hd
      have hbb : b2 ≠ b := fun e => hne (hr.uniq i t b _ _ hi ht (by rw [k1, e]) hs (gone_cells hd) rfl)
      exact ⟨b2, us, t2, k1, k2, by rw [setRow_other w b b2 vs' hbb]; exact k3, k4, k5, fun k c v hc hv => (k6 k c v hc hv).step hst⟩
  · rcases getElem?_set_cases hi with ⟨rfl, e, _⟩ | ⟨hne, hi⟩
    · simp only [VObj.tok.injEq] at e
      obtain ⟨rfl, rfl⟩ := e
      exact .inr ⟨b, vs', sz, cap, hs, hlt.2, setRow_heap w b vs vs' _ _ hb, hsize, by omega, hc, hm⟩
    · rcases hr.tok i u2 t2 hi with k | ⟨b2, us, sz, cap, k1, k2, k3, k4⟩
      · exact .inl k
      · have hbb : b2 ≠ b := fun e => hne (hr.uniq i t b _ _ hi ht (by rw [k1, e]) hs rfl rfl)
        exact .inr ⟨b2, us, sz, cap, k1, k2, by rw [setRow_other w b b2 vs' hbb]; exact k3, k4⟩
  · have key : ∀ (i : Nat) p, (h.set t (.tok u' ty))[i]? = some p → p.gone = false → ∃ p', h[i]? = some p' ∧ p'.gone = false := fun i p hi di => by
      rcases getElem?_set_cases hi with ⟨rfl, e, _⟩ | ⟨hne, hi⟩
      · exact ⟨_, ht, rfl⟩
      · exact ⟨p, hi, di⟩
    obtain ⟨p', hi', di'⟩ := key i p hi di
    obtain ⟨q', hj', dj'⟩ := key j q hj dj
    exact hr.uniq i j k p' q' hi' hj' si sj di' dj'

/-- A row that grows into a new block. -/
theorem Step.tokMove [DFlag] (hr : HRel P B A0 σ h w) {w' : World} (g : Grows w w') {t b u u' : Nat} {ty : TypeId} (ht : h[t]? = some (.tok u ty)) (hb : w.heap.size ≤ b) (hu : u < u') :
    Step P B A0 σ h w (σ.set t (some b)) (h.set t (.tok u' ty)) w' := by
  have htl : t < σ.length := by rw [hr.len]; exact (List.getElem?_eq_some_iff.1 ht).1
  refine ⟨g.below hr.base, g.shapes, fun k o x ha hc => ⟨?_, g.cell hc⟩, fun i cs st hi => ?_, fun i u2 ty2 hi => ?_,
    fun i L st hi => ⟨List.getElem?_set_ne (fun k => by subst k; rw [ht] at hi; cases hi), st, by rw [List.getElem?_set_ne (fun k => by subst k; rw [ht] at hi; cases hi)]; exact hi⟩,
    fun i es hi => ⟨List.getElem?_set_ne (fun k => by subst k; rw [ht] at hi; cases hi), es, by rw [List.getElem?_set_ne (fun k => by subst k; rw [ht] at hi; cases hi)]; exact hi⟩,
    fun k hk => by rw [g.block k (Array.getElem?_eq_some_iff.1 hk).1]; exact hk, g.drawn⟩
  · have hk := World.block_lt_of_cell? w _ hc
    unfold Alw at *
    split
    · rename_i hB; simpa [hB] using ha
    · rename_i hB
      rw [if_neg hB] at ha
      refine ⟨fun i cs2 hi => ?_, fun i u2 t2 hi hs2 => ?_⟩
      · rcases getElem?_set_cases hi with ⟨_, e, _⟩ | ⟨hne, hi⟩
        · cases e
        · rw [List.getElem?_set_ne (fun k => hne k.symm)]; exact ha.1 i cs2 hi
      · rcases getElem?_set_cases hi with ⟨rfl, e, _⟩ | ⟨hne, hi⟩
        · rw [List.getElem?_set_self htl] at hs2
          simp only [Option.some.injEq] at hs2
          dsimp at hk; omega
        · rw [List.getElem?_set_ne (fun k => hne k.symm)] at hs2; exact ha.2 i u2 t2 hi hs2
  · have hne : i ≠ t := fun e => by subst e; rw [ht] at hi; cases hi
    exact ⟨List.getElem?_set_ne (fun k => hne k.symm), cs, st, by rw [List.getElem?_set_ne (fun k => hne k.symm)]; exact hi⟩
  · by_cases e : i = t
    · subst e
      rw [ht] at hi; simp only [Option.some.injEq, VObj.tok.injEq] at hi
      obtain ⟨rfl, rfl⟩ := hi
      exact ⟨u', List.getElem?_set_self (List.getElem?_eq_some_iff.1 ht).1, Nat.le_of_lt hu, fun e => by omega⟩
    · exact ⟨u2, by rw [List.getElem?_set_ne (fun k => e k.symm)]; exact hi, Nat.le_refl _, fun _ => List.getElem?_set_ne (fun k => e k.symm)⟩

theorem HRel.tokMove [DFlag] (hr : HRel P B A0 σ h w) {w' : World} (g : Grows w w') {t b u u' sz cap : Nat} {vs : Array Value} {ty : TypeId} (ht : h[t]? = some (.tok u ty)) (hb : w.heap.size ≤ b) (hu : u < u')
    (hbl : w'.heap[b]? = some (.cells vs ty (0, 0))) (hsize : sizeV P ty = some sz) (hcap : vs.size = cap * sz) (hc : u' ≤ cap) (hm : cap ≤ maxLen) :
    HRel P B A0 (σ.set t (some b)) (h.set t (.tok u' ty)) w' := by
  have hst := Step.tokMove (u' := u') hr g ht hb hu
  have htl : t < σ.length := by rw [hr.len]; exact (List.getElem?_eq_some_iff.1 ht).1
  refine ⟨Nat.le_trans hr.base g.size, by simpa using hr.len, fun i c2 st hi hd => ?_, fun i u2 t2 hi => ?_, fun i L st hi hd => ?_, fun i es hi => ?map, fun i j k p q hi hj si sj di dj => ?_, hr.globBelow hst.below⟩
  case map =>
    rcases getElem?_set_cases hi with ⟨_, e, _⟩ | ⟨hne, hi⟩
    · cases e
    · obtain ⟨b2, mes, clock, k1, k2, k3, k4, k5⟩ := hr.map i es hi
      exact ⟨b2, mes, clock, by rw [List.getElem?_set_ne (fun k => hne k.symm)]; exact k1, k2, by rw [g.block b2 (Array.getElem?_eq_some_iff.1 k3).1]; exact k3, k4, fun k e m he hm => let q := k5 k e m he hm; ⟨q.1, q.2.1, q.2.2.step hst⟩⟩
  rotate_left 2
  · rcases getElem?_set_cases hi with ⟨_, e, _⟩ | ⟨hne, hi⟩
    · cases e
    · obtain ⟨l, fn, tm, D, k1, k2, k3, k4, k5⟩ := hr.loop i L st hi hd
      exact ⟨l, fn, tm, D, by rw [List.getElem?_set_ne (fun k => hne k.symm)]; exact k1, k2, by rw [g.block l (Array.getElem?_eq_some_iff.1 k3).1]; exact k3, k4, fun t => (k5 t).step hst⟩
  rotate_left 1
  · rcases getElem?_set_cases hi with ⟨rfl, e, _⟩ | ⟨hne, hi⟩
    · cases e
    · obtain ⟨b2, us, t2, k1, k2, k3, k4, k5, k6⟩ := hr.cells i c2 st hi hd
      exact ⟨b2, us, t2, by rw [List.getElem?_set_ne (fun k => hne k.symm)]; exact k1, k2, by rw [g.block b2 (Array.getElem?_eq_some_iff.1 k3).1]; exact k3, k4, k5, fun k c v hc hv => (k6 k c v hc hv).step hst⟩
  · rcases getElem?_set_cases hi with ⟨rfl, e, _⟩ | ⟨hne, hi⟩
    · simp only [VObj.tok.injEq] at e
      obtain ⟨rfl, rfl⟩ := e
      exact .inr ⟨b, vs, sz, cap, List.getElem?_set_self htl, Nat.le_trans hr.base hb, hbl, hsize, hcap, hc, hm⟩
    · rw [List.getElem?_set_ne (fun k => hne k.symm)]
      rcases hr.tok i u2 t2 hi with k | ⟨b2, us, sz, cap, k1, k2, k3, k4⟩
      · exact .inl k
      · exact .inr ⟨b2, us, sz, cap, k1, k2, by rw [g.block b2 (Array.getElem?_eq_some_iff.1 k3).1]; exact k3, k4⟩
  · rcases getElem?_set_cases hi with ⟨rfl, ei, _⟩ | ⟨ni, hi2⟩ <;> rcases getElem?_set_cases hj with ⟨rfl, ej, _⟩ | ⟨nj, hj2⟩
    · rfl
    · rw [List.getElem?_set_self htl] at si
      rw [List.getElem?_set_ne (fun k => nj k.symm)] at sj
      simp only [Option.some.injEq] at si
      have := hr.lt hj2 dj sj; omega
    · rw [List.getElem?_set_self htl] at sj
      rw [List.getElem?_set_ne (fun k => ni k.symm)] at si
      simp only [Option.some.injEq] at sj
      have := hr.lt hi2 di si; omega
    · rw [List.getElem?_set_ne (fun k => ni k.symm)] at si
      rw [List.getElem?_set_ne (fun k => nj k.symm)] at sj
      exact hr.uniq i j k p q hi2 hj2 si sj di dj

/-- The cells of a row of values, in one list. -/
def Flat (A : Nat → Nat → Prop) (w : World) (sz : Nat) (es : List AV) (fl : List Value) : Prop :=
  fl.length = es.length * sz ∧ (∀ e ∈ es, e.cells.length = sz ∧ notTuple e = true) ∧ (∀ e ∈ es, ∀ c ∈ e.cells, c.one = true) ∧
  ∀ (i j : Nat) e c, es[i]? = some e → e.cells[j]? = some c → ∃ x, fl[i * sz + j]? = some x ∧ IRel A w c x
theorem Flat.one {A : Nat → Nat → Prop} {sz : Nat} {es : List AV} {fl : List Value} (h0 : 0 < sz) (f : Flat A w sz es fl) : ∀ x ∈ fl, x.oneCell' = true := by
  intro x hx
  obtain ⟨k, hk, rfl⟩ := List.getElem_of_mem hx
  obtain ⟨f1, f2, f3, f4⟩ := f
  have hd : k / sz < es.length := Nat.div_lt_of_lt_mul (by rw [Nat.mul_comm]; omega)
  have he : es[k / sz]? = some es[k / sz] := List.getElem?_eq_getElem hd
  have hm := f2 es[k / sz] (List.getElem_mem hd)
  have hj : k % sz < es[k / sz].cells.length := by rw [hm.1]; exact Nat.mod_lt _ h0
  have hc : es[k / sz].cells[k % sz]? = some es[k / sz].cells[k % sz] := List.getElem?_eq_getElem hj
  obtain ⟨x, e1, e2⟩ := f4 _ _ _ _ he hc
  have : k / sz * sz + k % sz = k := by rw [Nat.mul_comm]; exact Nat.div_add_mod k sz
  rw [this, List.getElem?_eq_getElem hk] at e1
  simp only [Option.some.injEq] at e1
  rw [e1]
  exact irel_one e2 (f3 _ (List.getElem_mem hd) _ (List.getElem_mem hj))
theorem Flat.mono {A A' : Nat → Nat → Prop} {w' : World} {sz : Nat} {es : List AV} {fl : List Value} (f : Flat A w sz es fl)
    (hA : ∀ b o x, A b o → w.cell? ⟨b, o, none⟩ = some x → A' b o ∧ w'.cell? ⟨b, o, none⟩ = some x) : Flat A' w' sz es fl :=
  ⟨f.1, f.2.1, f.2.2.1, fun i j e c he hc => let ⟨x, h1, h2⟩ := f.2.2.2 i j e c he hc; ⟨x, h1, h2.mono hA⟩⟩
theorem Flat.append {A : Nat → Nat → Prop} {sz : Nat} {xs ys : List AV} {fx fy : List Value} (a : Flat A w sz xs fx) (b : Flat A w sz ys fy) : Flat A w sz (xs ++ ys) (fx ++ fy) := by
  obtain ⟨a1, a2, a3, a4⟩ := a
  obtain ⟨b1, b2, b3, b4⟩ := b
  refine ⟨by simp [a1, b1, Nat.add_mul], fun e he => ?_, fun e he => ?_, fun i j e c he hc => ?_⟩
  · rcases List.mem_append.1 he with he | he
    · exact a2 e he
    · exact b2 e he
  · rcases List.mem_append.1 he with he | he
    · exact a3 e he
    · exact b3 e he
  · by_cases hi : i < xs.length
    · rw [List.getElem?_append_left hi] at he
      obtain ⟨x, e1, e2⟩ := a4 i j e c he hc
      exact ⟨x, by rw [List.getElem?_append_left (List.getElem?_eq_some_iff.1 e1).1]; exact e1, e2⟩
    · rw [List.getElem?_append_right (by omega)] at he
      obtain ⟨x, e1, e2⟩ := b4 (i - xs.length) j e c he hc
      refine ⟨x, ?_, e2⟩
      have hge : xs.length * sz ≤ i * sz := Nat.mul_le_mul_right _ (by omega)
      rw [List.getElem?_append_right (by omega), a1, show i * sz + j - xs.length * sz = (i - xs.length) * sz + j by rw [Nat.sub_mul]; omega]
      exact e1

theorem flat_of {A : Nat → Nat → Prop} {es : List AV} {v : Value} {sz : Nat} (r : IRel A w (.isl es .unk) v) (hz : szOk sz es = true) (h0 : 0 < sz) : ∃ fl, Flat A w sz es fl ∧
    ((es = [] ∧ v = .slice none 0 0) ∨ ∃ a cap, v = .slice (some a) es.length cap ∧ es.length ≤ cap ∧ cap ≤ maxLen ∧ ∀ (j : Nat) x, fl[j]? = some x → w.cell? (a.add j) = some x) := by
  rcases irel_isl r with ⟨rfl, base, cap, rfl, hm, hn⟩ | ⟨sz', b, o, cap, f, rfl, g1, g2, g3, g4, g5, g6, g7⟩
  · refine ⟨[], ⟨by simp, by simp, by simp, by simp⟩, ?_⟩
    cases base with
    | none => have := hn rfl; subst this; exact .inl ⟨rfl, rfl⟩
    | some a => exact .inr ⟨a, cap, rfl, Nat.zero_le _, hm, by simp⟩
  · have hs : es ≠ [] → sz' = sz := fun hne => by
      cases es with
      | nil => exact absurd rfl hne
      | cons e es => simp only [szOk, beq_iff_eq] at hz; rw [← hz]; exact (g4 e (by simp)).1.symm
    refine ⟨(List.range (es.length * sz)).map (fun k => f (k / sz) (k % sz)), ⟨by simp, fun e he => ?_, g5, fun i j e c he hc => ?_⟩, .inr ⟨_, cap, rfl, g2, g3, fun k x hx => ?_⟩⟩
    · have := hs (List.ne_nil_of_mem he); subst this; exact g4 e he
    · have hne := hs (List.ne_nil_of_mem (List.mem_of_getElem? he)); subst hne
      have hi : i < es.length := (List.getElem?_eq_some_iff.1 he).1
      have hj : j < sz' := by rw [← (g4 e (List.mem_of_getElem? he)).1]; exact (List.getElem?_eq_some_iff.1 hc).1
      have hlt : i * sz' + j < es.length * sz' := Nat.lt_of_lt_of_le (by rw [Nat.succ_mul]; omega) (Nat.mul_le_mul_right sz' (show i + 1 ≤ es.length from hi))
      refine ⟨f i j, ?_, g7 i j e c he hc⟩
      rw [List.getElem?_map, List.getElem?_range hlt, Option.map_some]
      rw [Nat.mul_comm i sz', Nat.mul_add_div g1, Nat.div_eq_of_lt hj, Nat.mul_add_mod, Nat.mod_eq_of_lt hj]; simp
    · have hk : k < es.length * sz := by have := (List.getElem?_eq_some_iff.1 hx).1; simpa using this
      have hne : es ≠ [] := fun e => by subst e; simp at hk
      have hne := hs hne; subst hne
      rw [List.getElem?_map, List.getElem?_range hk, Option.map_some] at hx
      simp only [Option.some.injEq] at hx
      have hd : k / sz' < es.length := Nat.div_lt_of_lt_mul (by rw [Nat.mul_comm]; exact hk)
      have he : es[k / sz']? = some es[k / sz'] := List.getElem?_eq_getElem hd
      have hm := g4 es[k / sz'] (List.getElem_mem hd)
      have hj : k % sz' < es[k / sz'].cells.length := by rw [hm.1]; exact Nat.mod_lt _ h0
      have := (g6 _ _ _ _ he (List.getElem?_eq_getElem hj)).2
      rw [Nat.add_assoc, show k / sz' * sz' + k % sz' = k by rw [Nat.mul_comm]; exact Nat.div_add_mod k sz'] at this
      rw [addr_add, this, hx]

theorem of_flat {A : Nat → Nat → Prop} {es : List AV} {sz b o cap : Nat} {fl : List Value} (f : Flat A w sz es fl) (h0 : 0 < sz) (hc : es.length ≤ cap) (hm : cap ≤ maxLen)
    (hcell : ∀ (k : Nat) x, fl[k]? = some x → A b (o + k) ∧ w.cell? ⟨b, o + k, none⟩ = some x) : IRel A w (.isl es .unk) (.slice (some ⟨b, o, none⟩) es.length cap) := by
  obtain ⟨f1, f2, f3, f4⟩ := f
  refine .isl (fun i j => fl.getD (i * sz + j) undef) h0 hc hm f2 f3 (fun i j e c he hc => ?_) (fun i j e c he hc => ?_)
  · obtain ⟨x, e1, e2⟩ := f4 i j e c he hc
    rw [Nat.add_assoc, List.getD_eq_getElem?_getD, e1]
    exact hcell _ _ e1
  · obtain ⟨x, e1, e2⟩ := f4 i j e c he hc
    rw [List.getD_eq_getElem?_getD, e1]; exact e2
end
end Go.V
