/- Memory of one's own: made, laid still, held once and for all. -/
import Derived.Test.YtdoegkegjaadeaaGreatDoorQV7
namespace Go.V
open Go

section
variable {P : Program} {B : Nat} {A0 : Nat → Nat → Prop} {σ : List (Option Nat)} {h : H} {w : World}

/-- Below the new blocks all is as it was. -/
structure Grows [DFlag] (w w' : World) : Prop where
  os : w'.os = w.os
  tape : w'.tape = w.tape
  output : w'.output = w.output
  size : w.heap.size ≤ w'.heap.size
  block : ∀ k : Nat, k < w.heap.size → w'.heap[k]? = w.heap[k]?
  drawn : DFlag.D → w.drawn ≤ w'.drawn

theorem Grows.refl [DFlag] (w : World) : Grows w w := ⟨rfl, rfl, rfl, Nat.le_refl _, fun _ _ => rfl, fun _ => Nat.le_refl _⟩
theorem Grows.alloc [DFlag] (w : World) (o : Obj) : Grows w (w.alloc o) := ⟨rfl, rfl, rfl, by simp, fun k hk => heap_alloc_old w o k hk, fun _ => Nat.le_refl _⟩
theorem Grows.drew [DFlag] (w : World) : Grows w w.drew := ⟨rfl, rfl, rfl, Nat.le_refl _, fun _ _ => rfl, fun _ => Nat.le_succ _⟩
theorem Grows.trans [DFlag] {a b c : World} (h : Grows a b) (k : Grows b c) : Grows a c :=
  ⟨k.os.trans h.os, k.tape.trans h.tape, k.output.trans h.output, Nat.le_trans h.size k.size, fun i hi => (k.block i (Nat.lt_of_lt_of_le hi h.size)).trans (h.block i hi), fun d => Nat.le_trans (h.drawn d) (k.drawn d)⟩
theorem Grows.cell [DFlag] {w w' : World} (g : Grows w w') {b o : Nat} {x : Value} (hc : w.cell? ⟨b, o, none⟩ = some x) : w'.cell? ⟨b, o, none⟩ = some x := by
  have hb := World.block_lt_of_cell? w _ hc
  rw [World.cell?_of_block (w := w) (g.block b hb)]; exact hc
theorem Grows.shapes [DFlag] {w w' : World} (g : Grows w w') : Shapes w w' := fun b vs ty fr hb => ⟨vs, fr, by rw [g.block b (Array.getElem?_eq_some_iff.1 hb).1]; exact hb, rfl⟩
theorem Grows.below [DFlag] {w w' : World} (g : Grows w w') {B : Nat} (hB : B ≤ w.heap.size) : RowKit.Below B w w' := ⟨g.os, g.tape, g.output, g.size, fun k hk => g.block k (Nat.lt_of_lt_of_le hk hB)⟩

theorem HRel.lt (hr : HRel P B A0 σ h w) {i b : Nat} {x : VObj} (hx : h[i]? = some x) (hd : x.gone = false) (hs : σ[i]? = some (some b)) : b < w.heap.size ∧ B ≤ b := by
  cases x with
  | cells cs st =>
    obtain ⟨b', vs, ty, k1, k2, k3, _⟩ := hr.cells i cs st hx (fun e => by subst e; cases hd)
    rw [hs] at k1; simp only [Option.some.injEq] at k1; subst k1
    exact ⟨(Array.getElem?_eq_some_iff.1 k3).1, k2⟩
  | tok u ty =>
    rcases hr.tok i u ty hx with ⟨k1, _⟩ | ⟨b', vs, sz, cap, k1, k2, k3, _⟩
    · rw [hs] at k1; cases k1
    · rw [hs] at k1; simp only [Option.some.injEq] at k1; subst k1
      exact ⟨(Array.getElem?_eq_some_iff.1 k3).1, k2⟩
  | loop L st =>
    obtain ⟨l, fn, tm, D, k1, k2, k3, _⟩ := hr.loop i L st hx (fun e => by subst e; cases hd)
    rw [hs] at k1; simp only [Option.some.injEq] at k1; subst k1
    exact ⟨(Array.getElem?_eq_some_iff.1 k3).1, k2⟩
  | map es =>
    obtain ⟨b', mes, clock, k1, k2, k3, _⟩ := hr.map i es hx
    rw [hs] at k1; simp only [Option.some.injEq] at k1; subst k1
    exact ⟨(Array.getElem?_eq_some_iff.1 k3).1, k2⟩
  | void => cases hd

/-- The world grows; own memory stays. -/
theorem Step.grows [DFlag] (hr : HRel P B A0 σ h w) {w' : World} (g : Grows w w') : Step P B A0 σ h w σ h w' :=
  ⟨g.below hr.base, g.shapes, fun _ _ _ a c => ⟨a, g.cell c⟩, fun _ cs st hi => ⟨rfl, cs, st, hi⟩, fun _ u _ hi => ⟨u, hi, Nat.le_refl _, fun _ => rfl⟩, fun _ _ st hi => ⟨rfl, st, hi⟩, fun _ es hi => ⟨rfl, es, hi⟩, fun k hk => by rw [g.block k (Array.getElem?_eq_some_iff.1 hk).1]; exact hk, g.drawn⟩
theorem HRel.grows [DFlag] (hr : HRel P B A0 σ h w) {w' : World} (g : Grows w w') : HRel P B A0 σ h w' where
  base := Nat.le_trans hr.base g.size
  len := hr.len
  cells := fun i cs st hi hd => by
    obtain ⟨b, vs, ty, k1, k2, k3, k4, k5, k6⟩ := hr.cells i cs st hi hd
    exact ⟨b, vs, ty, k1, k2, by rw [g.block b (Array.getElem?_eq_some_iff.1 k3).1]; exact k3, k4, k5, fun k c v hc hv => (k6 k c v hc hv).step (.grows hr g)⟩
  tok := fun i u ty hi => by
    rcases hr.tok i u ty hi with k | ⟨b, vs, sz, cap, k1, k2, k3, k⟩
    · exact .inl k
    · exact .inr ⟨b, vs, sz, cap, k1, k2, by rw [g.block b (Array.getElem?_eq_some_iff.1 k3).1]; exact k3, k⟩
  loop := fun i L st hi hd => by
    obtain ⟨l, fn, tm, D, k1, k2, k3, k4, k5⟩ := hr.loop i L st hi hd
    exact ⟨l, fn, tm, D, k1, k2, by rw [g.block l (Array.getElem?_eq_some_iff.1 k3).1]; exact k3, k4, fun t => (k5 t).step (.grows hr g)⟩
  map := fun i es hi => by
    obtain ⟨b, mes, clock, k1, k2, k3, k4, k5⟩ := hr.map i es hi
    exact ⟨b, mes, clock, k1, k2, by rw [g.block b (Array.getElem?_eq_some_iff.1 k3).1]; exact k3, k4, fun k e m he hm => let q := k5 k e m he hm; ⟨q.1, q.2.1, q.2.2.step (.grows hr g)⟩⟩
  uniq := hr.uniq
  glob := hr.globBelow (g.below hr.base)

theorem getElem?_push_lt {α : Type} (l : List α) (x : α) {i : Nat} (hi : i < l.length) : (l ++ [x])[i]? = l[i]? := List.getElem?_append_left hi
theorem getElem?_push_eq {α : Type} (l : List α) (x : α) : (l ++ [x])[l.length]? = some x := by simp
theorem getElem?_push_cases {α : Type} {l : List α} {x y : α} {i : Nat} (hi : (l ++ [x])[i]? = some y) : (i < l.length ∧ l[i]? = some y) ∨ (i = l.length ∧ y = x) := by
  rcases Nat.lt_trichotomy i l.length with c | c | c
  · exact .inl ⟨c, by rwa [getElem?_push_lt l x c] at hi⟩
  · subst c; rw [getElem?_push_eq] at hi; simp only [Option.some.injEq] at hi; exact .inr ⟨rfl, hi.symm⟩
  · rw [List.getElem?_eq_none (by simp; omega)] at hi; cases hi

/-- A new object, in a new block or in none. -/
theorem HRel.tok00 (hr : HRel P B A0 σ h w) {t u b : Nat} {ty ty' : TypeId} {vs : Array Value} (ht : h[t]? = some (.tok u ty)) (q1 : σ[t]? = some (some b)) (q3 : ∃ fr, w.heap[b]? = some (.cells vs ty' fr)) :
    w.heap[b]? = some (.cells vs ty' (0, 0)) := by
  obtain ⟨fr, q3⟩ := q3
  rcases hr.tok t _ _ ht with ⟨z1, _⟩ | ⟨b3, vs3, _, _, z1, _, z3, _⟩
  · rw [q1] at z1; cases z1
  · rw [q1] at z1; simp only [Option.some.injEq] at z1; subst z1
    rw [q3] at z3; simp only [Option.some.injEq, Obj.cells.injEq] at z3
    rw [q3, z3.2.2]
theorem Step.push [DFlag] (hr : HRel P B A0 σ h w) {w' : World} (g : Grows w w') (x : VObj) (y : Option Nat) (hy : ∀ b, y = some b → w.heap.size ≤ b) :
    Step P B A0 σ h w (σ ++ [y]) (h ++ [x]) w' where
  below := g.below hr.base
  shapes := g.shapes
  kept := fun b o v ha hc => by
    refine ⟨?_, g.cell hc⟩
    have hb := World.block_lt_of_cell? w _ hc
    unfold Alw at *
    split
    · rename_i hB; simpa [hB] using ha
    · rename_i hB
      rw [if_neg hB] at ha
      refine ⟨fun i cs hi => ?_, fun i u ty hi hs => ?_⟩
      · rcases getElem?_push_cases hi with ⟨c, hi⟩ | ⟨rfl, _⟩
        · rw [getElem?_push_lt σ y (by rw [hr.len]; exact c)]; exact ha.1 i cs hi
        · rw [← hr.len, getElem?_push_eq]
          intro e; simp only [Option.some.injEq] at e
          have := hy b e; dsimp at hb; omega
      · rcases getElem?_push_cases hi with ⟨c, hi⟩ | ⟨rfl, _⟩
        · rw [getElem?_push_lt σ y (by rw [hr.len]; exact c)] at hs; exact ha.2 i u ty hi hs
        · rw [← hr.len, getElem?_push_eq] at hs
          simp only [Option.some.injEq] at hs
          have := hy b hs; dsimp at hb; omega
  cells := fun i cs st hi => by
    have hl : i < h.length := (List.getElem?_eq_some_iff.1 hi).1
    exact ⟨getElem?_push_lt σ y (by rw [hr.len]; exact hl), cs, st, by rw [getElem?_push_lt h x hl]; exact hi⟩
  toks := fun i u ty hi => by
    have hl : i < h.length := (List.getElem?_eq_some_iff.1 hi).1
    exact ⟨u, by rw [getElem?_push_lt h x hl]; exact hi, Nat.le_refl _, fun _ => getElem?_push_lt σ y (by rw [hr.len]; exact hl)⟩
  loops := fun i L st hi => by
    have hl : i < h.length := (List.getElem?_eq_some_iff.1 hi).1
    exact ⟨getElem?_push_lt σ y (by rw [hr.len]; exact hl), st, by rw [getElem?_push_lt h x hl]; exact hi⟩
  maps := fun i es hi => by
    have hl : i < h.length := (List.getElem?_eq_some_iff.1 hi).1
    exact ⟨getElem?_push_lt σ y (by rw [hr.len]; exact hl), es, by rw [getElem?_push_lt h x hl]; exact hi⟩
  marks := fun k hk => by rw [g.block k (Array.getElem?_eq_some_iff.1 hk).1]; exact hk
  drawn := g.drawn

theorem HRel.push [DFlag] (hr : HRel P B A0 σ h w) {w' : World} (g : Grows w w') (x : VObj) (y : Option Nat) (hy : ∀ b, y = some b → w.heap.size ≤ b)
    (hcells : ∀ cs st, x = .cells cs st → ∃ b vs ty, y = some b ∧ w'.heap[b]? = some (.cells vs ty (0, 0)) ∧ cs.length ≤ vs.size ∧ (∀ c ∈ cs, c.one = true) ∧
      ∀ (k : Nat) c v, cs[k]? = some c → vs[k]? = some v → Rel P (Alw P B A0 σ h) σ h w c v)
    (htok : ∀ u ty, x = .tok u ty → (y = none ∧ u = 0) ∨ ∃ b vs sz cap, y = some b ∧ w'.heap[b]? = some (.cells vs ty (0, 0)) ∧ sizeV P ty = some sz ∧ vs.size = cap * sz ∧ u ≤ cap ∧ cap ≤ maxLen)
    (hloop : ∀ L st, x = .loop L st → st ≠ .over → ∃ l fn tm D, y = some l ∧ w'.heap[l]? = some (.loop (recOf L fn tm D st)) ∧ tm.size = L.n ∧
      ∀ t, Rel P (Alw P B A0 σ h) σ h w (L.s.get t) (tm.getD t undef) := by intro _ _ e; cases e)
    (hmap : ∀ es, x = .map es → ∃ b mes clock, y = some b ∧ w'.heap[b]? = some (.map mes clock) ∧ mes.size = es.length ∧
      ∀ (k : Nat) e m, es[k]? = some e → mes[k]? = some m → toVal e.1 = some m.key ∧ notTuple e.2 = true ∧ Rel P (Alw P B A0 σ h) σ h w e.2 m.val := by intro _ e; cases e) :
    HRel P B A0 (σ ++ [y]) (h ++ [x]) w' where
  base := Nat.le_trans hr.base g.size
  glob := hr.globBelow (g.below hr.base)
  len := by simp [hr.len]
  cells := fun i cs st hi hd => by
    rcases getElem?_push_cases hi with ⟨c, hi⟩ | ⟨rfl, e⟩
    · obtain ⟨b, vs, ty, k1, k2, k3, k4, k5, k6⟩ := hr.cells i cs st hi hd
      exact ⟨b, vs, ty, by rw [getElem?_push_lt σ y (by rw [hr.len]; exact c)]; exact k1, k2, by rw [g.block b (Array.getElem?_eq_some_iff.1 k3).1]; exact k3, k4, k5,
        fun k c v hc hv => (k6 k c v hc hv).step (.push hr g x y hy)⟩
    · obtain ⟨b, vs, ty, k1, k2, k3, k4, k5⟩ := hcells cs st e.symm
      exact ⟨b, vs, ty, by rw [← hr.len, getElem?_push_eq, k1], Nat.le_trans hr.base (hy b k1), k2, k3, k4, fun k c v hc hv => (k5 k c v hc hv).step (.push hr g x y hy)⟩
  tok := fun i u ty hi => by
    rcases getElem?_push_cases hi with ⟨c, hi⟩ | ⟨rfl, e⟩
    · rw [getElem?_push_lt σ y (by rw [hr.len]; exact c)]
      rcases hr.tok i u ty hi with k | ⟨b, vs, sz, cap, k1, k2, k3, k⟩
      · exact .inl k
      · exact .inr ⟨b, vs, sz, cap, k1, k2, by rw [g.block b (Array.getElem?_eq_some_iff.1 k3).1]; exact k3, k⟩
    · rw [← hr.len, getElem?_push_eq]
      rcases htok u ty e.symm with ⟨k1, k2⟩ | ⟨b, vs, sz, cap, k1, k⟩
      · exact .inl ⟨by rw [k1], .inl k2⟩
      · exact .inr ⟨b, vs, sz, cap, by rw [k1], Nat.le_trans hr.base (hy b k1), k⟩
  loop := fun i L st hi hd => by
    rcases getElem?_push_cases hi with ⟨c, hi⟩ | ⟨rfl, e⟩
    · obtain ⟨l, fn, tm, D, k1, k2, k3, k4, k5⟩ := hr.loop i L st hi hd
      exact ⟨l, fn, tm, D, by rw [getElem?_push_lt σ y (by rw [hr.len]; exact c)]; exact k1, k2, by rw [g.block l (Array.getElem?_eq_some_iff.1 k3).1]; exact k3, k4, fun t => (k5 t).step (.push hr g x y hy)⟩
    · obtain ⟨l, fn, tm, D, k1, k3, k4, k5⟩ := hloop L st e.symm hd
      exact ⟨l, fn, tm, D, by rw [← hr.len, getElem?_push_eq, k1], Nat.le_trans hr.base (hy l k1), k3, k4, fun t => (k5 t).step (.push hr g x y hy)⟩
  map := fun i es hi => by
    rcases getElem?_push_cases hi with ⟨c, hi⟩ | ⟨rfl, e⟩
    · obtain ⟨b, mes, clock, k1, k2, k3, k4, k5⟩ := hr.map i es hi
      exact ⟨b, mes, clock, by rw [getElem?_push_lt σ y (by rw [hr.len]; exact c)]; exact k1, k2, by rw [g.block b (Array.getElem?_eq_some_iff.1 k3).1]; exact k3, k4, fun k e m he hm => let q := k5 k e m he hm; ⟨q.1, q.2.1, q.2.2.step (.push hr g x y hy)⟩⟩
    · obtain ⟨b, mes, clock, k1, k3, k4, k5⟩ := hmap es e.symm
      exact ⟨b, mes, clock, by rw [← hr.len, getElem?_push_eq, k1], Nat.le_trans hr.base (hy b k1), k3, k4, fun k e m he hm => let q := k5 k e m he hm; ⟨q.1, q.2.1, q.2.2.step (.push hr g x y hy)⟩⟩
  uniq := fun i j b p q hi hj si sj di dj => by
    rcases getElem?_push_cases hi with ⟨ci, hi⟩ | ⟨rfl, _⟩ <;> rcases getElem?_push_cases hj with ⟨cj, hj⟩ | ⟨rfl, _⟩
    · rw [getElem?_push_lt σ y (by rw [hr.len]; exact ci)] at si
      rw [getElem?_push_lt σ y (by rw [hr.len]; exact cj)] at sj
      exact hr.uniq i j b p q hi hj si sj di dj
    · rw [getElem?_push_lt σ y (by rw [hr.len]; exact ci)] at si
      rw [← hr.len, getElem?_push_eq] at sj
      simp only [Option.some.injEq] at sj
      have := hr.lt hi di si; have := hy b sj; omega
    · rw [getElem?_push_lt σ y (by rw [hr.len]; exact cj)] at sj
      rw [← hr.len, getElem?_push_eq] at si
      simp only [Option.some.injEq] at si
      have := hr.lt hj dj sj; have := hy b si; omega
    · rfl

/-- As HRel.push, for cells of which all is said in the end. -/
theorem HRel.pushF [DFlag] (hr : HRel P B A0 σ h w) {w' : World} (g : Grows w w') (x : VObj) (y : Option Nat) (hy : ∀ b, y = some b → w.heap.size ≤ b) {cs : List AV} {st : OSt} (hx : x = .cells cs st := by rfl)
    (hcells : ∃ b vs ty, y = some b ∧ w'.heap[b]? = some (.cells vs ty (0, 0)) ∧ cs.length ≤ vs.size ∧ (∀ c ∈ cs, c.one = true) ∧
      ∀ (k : Nat) c v, cs[k]? = some c → vs[k]? = some v → Rel P (Alw P B A0 (σ ++ [y]) (h ++ [x])) (σ ++ [y]) (h ++ [x]) w' c v) : HRel P B A0 (σ ++ [y]) (h ++ [x]) w' where
  base := Nat.le_trans hr.base g.size
  glob := hr.globBelow (g.below hr.base)
  len := by simp [hr.len]
  cells := fun i cs2 st2 hi hd => by
    rcases getElem?_push_cases hi with ⟨c, hi⟩ | ⟨rfl, e⟩
    · obtain ⟨b, vs, ty, k1, k2, k3, k4, k5, k6⟩ := hr.cells i cs2 st2 hi hd
      exact ⟨b, vs, ty, by rw [getElem?_push_lt σ y (by rw [hr.len]; exact c)]; exact k1, k2, by rw [g.block b (Array.getElem?_eq_some_iff.1 k3).1]; exact k3, k4, k5,
        fun k c v hc hv => (k6 k c v hc hv).step (.push hr g x y hy)⟩
    · obtain ⟨b, vs, ty, k1, k2, k3, k4, k5⟩ := hcells
      rw [hx] at e
      simp only [VObj.cells.injEq] at e; obtain ⟨rfl, rfl⟩ := e
      exact ⟨b, vs, ty, by rw [← hr.len, getElem?_push_eq, k1], Nat.le_trans hr.base (hy b k1), k2, k3, k4, k5⟩
  tok := fun i u ty hi => by
    rcases getElem?_push_cases hi with ⟨c, hi⟩ | ⟨_, e⟩
    · rw [getElem?_push_lt σ y (by rw [hr.len]; exact c)]
      rcases hr.tok i u ty hi with k | ⟨b, vs, sz, cap, k1, k2, k3, k⟩
      · exact .inl k
      · exact .inr ⟨b, vs, sz, cap, k1, k2, by rw [g.block b (Array.getElem?_eq_some_iff.1 k3).1]; exact k3, k⟩
    · rw [hx] at e; cases e
  loop := fun i L st hi hd => by
    rcases getElem?_push_cases hi with ⟨c, hi⟩ | ⟨_, e⟩
    · obtain ⟨l, fn, tm, D, k1, k2, k3, k4, k5⟩ := hr.loop i L st hi hd
      exact ⟨l, fn, tm, D, by rw [getElem?_push_lt σ y (by rw [hr.len]; exact c)]; exact k1, k2, by rw [g.block l (Array.getElem?_eq_some_iff.1 k3).1]; exact k3, k4, fun t => (k5 t).step (.push hr g x y hy)⟩
    · rw [hx] at e; cases e
  map := fun i es hi => by
    rcases getElem?_push_cases hi with ⟨c, hi⟩ | ⟨_, e⟩
    · obtain ⟨b, mes, clock, k1, k2, k3, k4, k5⟩ := hr.map i es hi
      exact ⟨b, mes, clock, by rw [getElem?_push_lt σ y (by rw [hr.len]; exact c)]; exact k1, k2, by rw [g.block b (Array.getElem?_eq_some_iff.1 k3).1]; exact k3, k4, fun k e m he hm => let q := k5 k e m he hm; ⟨q.1, q.2.1, q.2.2.step (.push hr g x y hy)⟩⟩
    · rw [hx] at e; cases e
  uniq := fun i j b p q hi hj si sj di dj => by
    rcases getElem?_push_cases hi with ⟨ci, hi⟩ | ⟨rfl, _⟩ <;> rcases getElem?_push_cases hj with ⟨cj, hj⟩ | ⟨rfl, _⟩
    · rw [getElem?_push_lt σ y (by rw [hr.len]; exact ci)] at si
      rw [getElem?_push_lt σ y (by rw [hr.len]; exact cj)] at sj
      exact hr.uniq i j b p q hi hj si sj di dj
    · rw [getElem?_push_lt σ y (by rw [hr.len]; exact ci)] at si
      rw [← hr.len, getElem?_push_eq] at sj
      simp only [Option.some.injEq] at sj
      have := hr.lt hi di si; have := hy b sj; omega
    · rw [getElem?_push_lt σ y (by rw [hr.len]; exact cj)] at sj
      rw [← hr.len, getElem?_push_eq] at si
      simp only [Option.some.injEq] at si
      have := hr.lt hj dj sj; have := hy b si; omega
    · rfl

/-- Laid still. -/
theorem getElem?_freeze1 (h : H) (i j : Nat) : (freeze1 h i)[j]? =
    (match h[j]? with | some (.cells cs .live) => some (if j = i then .cells cs .frozen else .cells cs .live) | x => x) := by
  unfold freeze1
  by_cases hij : j = i
  · subst hij
    split
    · rename_i cs hcs
      have : j < h.length := (List.getElem?_eq_some_iff.1 hcs).1
      rw [List.getElem?_set_self this, hcs]
      simp
    · rename_i hno
      cases hj : h[j]? with
      | none => rfl
      | some x => cases x with
        | tok u ty => rfl
        | loop L st => rfl
        | map es => rfl
        | void => rfl
        | cells cs st => cases st <;> first | rfl | exact absurd hj (hno cs)
  · have hne : i ≠ j := fun e => hij e.symm
    split
    · rw [List.getElem?_set_ne hne]
      split
      · rename_i hcs; simp [hcs, hij]
      · rfl
    · split
      · rename_i hcs; simp [hcs, hij]
      · rfl

theorem freeze_spec : ∀ (l : List Nat) (h : H) (j : Nat), (freeze h l)[j]? = (match h[j]? with | some (.cells cs .live) => some (if j ∈ l then .cells cs .frozen else .cells cs .live) | x => x) := by
  intro l
  induction l with
  | nil => intro h j; simp only [freeze]; split <;> simp_all
  | cons i l ih =>
    intro h j
    simp only [freeze]
    rw [ih, getElem?_freeze1]
    by_cases hij : j = i
    · subst hij
      cases hj : h[j]? with
      | none => rfl
      | some x => cases x with
        | tok u ty => rfl
        | loop L st => rfl
        | map es => rfl
        | void => rfl
        | cells cs st => cases st <;> simp
    · cases hj : h[j]? with
      | none => rfl
      | some x => cases x with
        | tok u ty => rfl
        | loop L st => rfl
        | map es => rfl
        | void => rfl
        | cells cs st => cases st <;> simp [hij]

/-- Some live objects are laid still; all else stays. -/
structure Stiller (h h' : H) : Prop where
  len : h'.length = h.length
  at_ : ∀ j : Nat, h'[j]? = h[j]? ∨ ∃ cs, h[j]? = some (.cells cs .live) ∧ h'[j]? = some (.cells cs .frozen)

theorem freeze_length : ∀ (l : List Nat) (h : H), (freeze h l).length = h.length := by
  intro l
  induction l with
  | nil => intro h; rfl
  | cons i l ih => intro h; simp only [freeze]; rw [ih]; unfold freeze1; split <;> simp
theorem freeze_stiller (h : H) (l : List Nat) : Stiller h (freeze h l) := ⟨freeze_length l h, fun j => by
  rw [freeze_spec]
  cases hj : h[j]? with
  | none => exact .inl rfl
  | some x => cases x with
    | tok u ty => exact .inl rfl
    | loop L st => exact .inl rfl
    | map es => exact .inl rfl
    | void => exact .inl rfl
    | cells cs st =>
      cases st
      · by_cases hm : j ∈ l
        · exact .inr ⟨cs, rfl, by simp [hm]⟩
        · exact .inl (by simp [hm])
      · exact .inl rfl
      · exact .inl rfl⟩
theorem freezeAll_stiller : ∀ (h : H), Stiller h (freezeAll h) := by
  intro h
  induction h with
  | nil => exact ⟨rfl, fun j => .inl rfl⟩
  | cons x h ih =>
    cases x with
    | tok u ty =>
      refine ⟨by simp [freezeAll, ih.len], fun j => ?_⟩
      cases j with
      | zero => exact .inl rfl
      | succ j => simpa [freezeAll] using ih.at_ j
    | loop L st =>
      refine ⟨by simp [freezeAll, ih.len], fun j => ?_⟩
      cases j with
      | zero => exact .inl rfl
      | succ j => simpa [freezeAll] using ih.at_ j
    | map es =>
      refine ⟨by simp [freezeAll, ih.len], fun j => ?_⟩
      cases j with
      | zero => exact .inl rfl
      | succ j => simpa [freezeAll] using ih.at_ j
    | void =>
      refine ⟨by simp [freezeAll, ih.len], fun j => ?_⟩
      cases j with
      | zero => exact .inl rfl
      | succ j => simpa [freezeAll] using ih.at_ j
    | cells cs st =>
      cases st
      · refine ⟨by simp [freezeAll, ih.len], fun j => ?_⟩
        cases j with
        | zero => exact .inr ⟨cs, rfl, rfl⟩
        | succ j => simpa [freezeAll] using ih.at_ j
      all_goals
        refine ⟨by simp [freezeAll, ih.len], fun j => ?_⟩
        cases j with
        | zero => exact .inl rfl
        | succ j => simpa [freezeAll] using ih.at_ j

theorem Stiller.alw {h' : H} (s : Stiller h h') {b o : Nat} (ha : Alw P B A0 σ h b o) : Alw P B A0 σ h' b o := by
  unfold Alw at *
  split
  · rename_i hB; simpa [hB] using ha
  · rename_i hB
    rw [if_neg hB] at ha
    refine ⟨fun i cs hi => ?_, fun i u ty hi => ?_⟩
    · rcases s.at_ i with e | ⟨cs', _, e⟩
      · exact ha.1 i cs (e ▸ hi)
      · rw [e] at hi; cases hi
    · rcases s.at_ i with e | ⟨cs', _, e⟩
      · exact ha.2 i u ty (e ▸ hi)
      · rw [e] at hi; cases hi
theorem Step.stiller [DFlag] (_ : HRel P B A0 σ h w) {h' : H} (s : Stiller h h') : Step P B A0 σ h w σ h' w where
  below := .refl _ _
  shapes := .refl _
  kept := fun b o v ha hc => ⟨s.alw ha, hc⟩
  cells := fun i cs st hi => ⟨rfl, by
    rcases s.at_ i with e | ⟨cs', _, e⟩
    · exact ⟨cs, st, e.trans hi⟩
    · exact ⟨cs', _, e⟩⟩
  toks := fun i u ty hi => by
    refine ⟨u, ?_, Nat.le_refl _, fun _ => rfl⟩
    rcases s.at_ i with e | ⟨cs', e', e⟩
    · exact e.trans hi
    · rw [hi] at e'; cases e'
  loops := fun i L st hi => by
    refine ⟨rfl, st, ?_⟩
    rcases s.at_ i with e | ⟨cs', e', e⟩
    · exact e.trans hi
    · rw [hi] at e'; cases e'
  maps := fun i es hi => by
    refine ⟨rfl, es, ?_⟩
    rcases s.at_ i with e | ⟨cs', e', e⟩
    · exact e.trans hi
    · rw [hi] at e'; cases e'
  marks := fun _ hk => hk
  drawn := fun _ => Nat.le_refl _
theorem HRel.stiller (hr : HRel P B A0 σ h w) {h' : H} (s : Stiller h h') : HRel P B A0 σ h' w where
  base := hr.base
  glob := hr.glob
  len := hr.len.trans s.len.symm
  cells := fun i cs st hi hd => by
    have : ∃ st', h[i]? = some (.cells cs st') ∧ st' ≠ .dead := by
      rcases s.at_ i with e | ⟨cs', e', e⟩
      · exact ⟨st, e ▸ hi, hd⟩
      · rw [e] at hi; simp only [Option.some.injEq, VObj.cells.injEq] at hi; obtain ⟨rfl, rfl⟩ := hi; exact ⟨_, e', by simp⟩
    obtain ⟨st', hi', hd'⟩ := this
    obtain ⟨b, vs, ty, k1, k2, k3, k4, k5, k6⟩ := hr.cells i cs st' hi' hd'
    exact ⟨b, vs, ty, k1, k2, k3, k4, k5, fun k c v hc hv => (k6 k c v hc hv).step (.stiller hr s)⟩
  tok := fun i u ty hi => by
    rcases s.at_ i with e | ⟨cs', _, e⟩
    · exact hr.tok i u ty (e ▸ hi)
    · rw [e] at hi; cases hi
  loop := fun i L st hi hd => by
    rcases s.at_ i with e | ⟨cs', _, e⟩
    · obtain ⟨l, fn, tm, D, k1, k2, k3, k4, k5⟩ := hr.loop i L st (e ▸ hi) hd
      exact ⟨l, fn, tm, D, k1, k2, k3, k4, fun t => (k5 t).step (.stiller hr s)⟩
    · rw [e] at hi; cases hi
  map := fun i es hi => by
    rcases s.at_ i with e | ⟨cs', _, e⟩
    · obtain ⟨b, mes, clock, k1, k2, k3, k4, k5⟩ := hr.map i es (e ▸ hi)
      exact ⟨b, mes, clock, k1, k2, k3, k4, fun k e m he hm => let q := k5 k e m he hm; ⟨q.1, q.2.1, q.2.2.step (.stiller hr s)⟩⟩
    · rw [e] at hi; cases hi
  uniq := fun i j b p q hi hj si sj di dj => by
    have key : ∀ (i : Nat) p, h'[i]? = some p → p.gone = false → ∃ p', h[i]? = some p' ∧ p'.gone = false := fun i p hi di => by
      rcases s.at_ i with e | ⟨cs', e', e⟩
      · exact ⟨p, e ▸ hi, di⟩
      · exact ⟨_, e', rfl⟩
    obtain ⟨p', hi', di'⟩ := key i p hi di
    obtain ⟨q', hj', dj'⟩ := key j q hj dj
    exact hr.uniq i j b p' q' hi' hj' si sj di' dj'

/-- A block of an object that is laid still may be led to. -/
theorem HRel.frozen_alw (hr : HRel P B A0 σ h w) {id b : Nat} {cs : List AV} (hi : h[id]? = some (.cells cs .frozen)) (hs : σ[id]? = some (some b)) (o : Nat) : Alw P B A0 σ h b o := by
  obtain ⟨b', vs, ty, k1, k2, _⟩ := hr.cells id cs _ hi (by simp)
  rw [hs] at k1; simp only [Option.some.injEq] at k1; subst k1
  unfold Alw
  rw [if_neg (by omega)]
  refine ⟨fun i cs' hi' hs' => ?_, fun i u ty hi' hs' => ?_⟩
  · have := hr.uniq i id b _ _ hi' hi hs' hs rfl rfl
    subst this; rw [hi] at hi'; cases hi'
  · have := hr.uniq i id b _ _ hi' hi hs' hs rfl rfl
    subst this; rw [hi] at hi'; cases hi'

theorem chunk_get (sz : Nat) : ∀ (n : Nat) (cs : List AV) (i : Nat), i < n → (chunk sz n cs)[i]? = some (match sz, cs.drop (i * sz) with | 1, c :: _ => c | _, r => .agg (r.take sz)) := by
  intro n
  induction n with
  | zero => intro cs i hi; omega
  | succ n ih =>
    intro cs i hi
    cases i with
    | zero => simp only [chunk, Nat.zero_mul, List.drop_zero, List.getElem?_cons_zero, Option.some.injEq]; split <;> (split <;> simp_all)
    | succ i =>
      simp only [chunk, List.getElem?_cons_succ]
      rw [ih _ i (by omega)]
      simp only [List.drop_drop]
      rw [show sz + i * sz = (i + 1) * sz by rw [Nat.add_mul]; omega]
theorem chunk_length (sz : Nat) : ∀ (n : Nat) (cs : List AV), (chunk sz n cs).length = n := by
  intro n
  induction n with
  | zero => intro cs; rfl
  | succ n ih => intro cs; simp [chunk, ih]
/-- One of the parts: its cells. -/
theorem chunk_cells {sz n : Nat} {cs : List AV} (hl : n * sz ≤ cs.length) (h0 : 0 < sz) (h1 : ∀ c ∈ cs, c.one = true) {i : Nat} {e : AV} (he : (chunk sz n cs)[i]? = some e) :
    e.cells = (cs.drop (i * sz)).take sz ∧ e.cells.length = sz ∧ notTuple e = true := by
  have hi : i < n := by have := (List.getElem?_eq_some_iff.1 he).1; rwa [chunk_length] at this
  have hle : i * sz + sz ≤ cs.length := Nat.le_trans (by rw [← Nat.succ_mul]; exact Nat.mul_le_mul_right _ hi) hl
  rw [chunk_get sz n cs i hi] at he
  simp only [Option.some.injEq] at he
  split at he
  · rename_i c r hd
    subst he
    have hc : c.one = true := h1 c (List.mem_of_mem_drop (i := i * 1) (by rw [hd]; simp))
    have hcc : c.cells = [c] := by cases c <;> simp_all [AV.cells, AV.one]
    refine ⟨by rw [hcc, hd]; rfl, by rw [hcc]; rfl, by cases c <;> simp_all [notTuple, AV.one]⟩
  · subst he
    exact ⟨rfl, by simp only [AV.cells, List.length_take, List.length_drop]; omega, rfl⟩

theorem snap_notTuple {n : Nat} {a a' : AV} (hh : snap h n a = some a') (hn : notTuple a = true) : notTuple a' = true := by
  cases n with
  | zero => simp [snap] at hh
  | succ n =>
    cases a <;> simp only [snap] at hh <;> first | (cases hn; done) | (simp only [Option.some.injEq] at hh; subst hh; rfl) | skip
    all_goals
      repeat' split at hh
      all_goals first | (cases hh; done) | (simp only [Option.some.injEq] at hh; subst hh; rfl)
theorem snap_one {n : Nat} {a a' : AV} (hh : snap h n a = some a') (hn : a.one = true) : a'.one = true := by
  cases n with
  | zero => simp [snap] at hh
  | succ n =>
    cases a <;> simp only [snap] at hh <;> first | (cases hn; done) | (simp only [Option.some.injEq] at hh; subst hh; rfl) | skip
    all_goals
      repeat' split at hh
      all_goals first | (cases hh; done) | (simp only [Option.some.injEq] at hh; subst hh; rfl)

set_option maxHeartbeats 400000 in
mutual
theorem snap_sound (hr : HRel P B A0 σ h w) : ∀ (n : Nat) (a a' : AV) (v : Value), snap h n a = some a' → Rel P (Alw P B A0 σ h) σ h w a v → IRel (Alw P B A0 σ h) w a' v
  | 0, a, a', v, hh, _ => by simp [snap] at hh
  | n + 1, a, a', v, hh, r => by
    simp only [snap] at hh
    split at hh
    · simp only [Option.some.injEq] at hh; subst hh; exact rel_isl r
    · rename_i id off
      split at hh <;> first | (cases hh; done) | skip
      rename_i cs hid
      split at hh <;> first | (cases hh; done) | skip
      rename_i l hl
      simp only [Option.some.injEq] at hh; subst hh
      obtain ⟨b, rfl, g1, _⟩ := rel_ptr r
      obtain ⟨b', vs, ty, k1, k2, k3, k4, k5, k6⟩ := hr.cells id cs _ hid (by simp)
      rw [g1] at k1; simp only [Option.some.injEq] at k1; subst k1
      obtain ⟨m1, m2, m3⟩ := snaps_sound hr n cs l hl
      have := IRel.iptr (A := Alw P B A0 σ h) (w := w) (e := .agg l) (off := off) (b := b) (o := 0) (fun j => vs.getD j undef) (fun c hc => m3 c hc k5)
        (fun j c hc => by
          have hj : j < l.length := (List.getElem?_eq_some_iff.1 hc).1
          refine ⟨hr.frozen_alw hid g1 _, ?_⟩
          rw [Nat.zero_add, cell_of_row w b j vs ty _ k3]
          simp [Array.getD, show j < vs.size by omega])
        (fun j c hc => by
          have hj : j < l.length := (List.getElem?_eq_some_iff.1 hc).1
          have hv : vs[j]? = some (vs[j]'(by omega)) := Array.getElem?_eq_getElem _
          have hcs : cs[j]? = some (cs[j]'(by omega)) := List.getElem?_eq_getElem _
          have := m2 j _ c _ hcs hc (k6 j _ _ hcs hv)
          simpa [Array.getD, show j < vs.size by omega] using this)
      simpa using this
    · rename_i id off sz len cap
      split at hh <;> first | (cases hh; done) | skip
      rename_i cs hid
      split at hh <;> first | (cases hh; done) | skip
      rename_i l hl
      split at hh <;> first | (cases hh; done) | skip
      rename_i hb
      simp only [Option.some.injEq] at hh; subst hh
      obtain ⟨b, c, rfl, g1, g2, g3, g4, g5, g6, g7⟩ := rel_msl r
      obtain ⟨b', vs, ty, k1, k2, k3, k4, k5, k6⟩ := hr.cells id cs _ hid (by simp)
      rw [g1] at k1; simp only [Option.some.injEq] at k1; subst k1
      obtain ⟨m1, m2, m3⟩ := snaps_sound hr n cs l hl
      have hone : ∀ c ∈ l.drop off, c.one = true := fun c hc => m3 c (List.mem_of_mem_drop hc) k5
      have hlen : len * sz ≤ (l.drop off).length := by simp; omega
      have hcl : (chunk sz len (l.drop off)).length = len := chunk_length _ _ _
      have cell : ∀ (i j : Nat) e c, (chunk sz len (l.drop off))[i]? = some e → e.cells[j]? = some c → l[off + i * sz + j]? = some c ∧ i < len ∧ j < sz := fun i j e c he hc => by
        obtain ⟨q1, q2, q3⟩ := chunk_cells hlen g3 hone he
        have hi : i < len := by have := (List.getElem?_eq_some_iff.1 he).1; rwa [hcl] at this
        have hj : j < sz := by have := (List.getElem?_eq_some_iff.1 hc).1; rwa [q2] at this
        rw [q1, getElem?_drop_take, if_pos hj, List.getElem?_drop] at hc
        exact ⟨by rw [Nat.add_assoc]; exact hc, hi, hj⟩
      have := IRel.isl (A := Alw P B A0 σ h) (w := w) (es := chunk sz len (l.drop off)) (sz := sz) (b := b) (o := off) (cap := c) (fun i j => vs.getD (off + i * sz + j) undef) g3 (by rw [hcl]; exact g4) g5
        (fun e he => by obtain ⟨i, hi, rfl⟩ := List.getElem_of_mem he; exact (chunk_cells hlen g3 hone (List.getElem?_eq_getElem hi)).2)
        (fun e he c' hc' => by
          obtain ⟨i, hi, rfl⟩ := List.getElem_of_mem he
          rw [(chunk_cells hlen g3 hone (List.getElem?_eq_getElem hi)).1] at hc'
          exact hone c' (List.mem_of_mem_drop (List.mem_of_mem_take hc')))
        (fun i j e c' he hc' => by
          obtain ⟨q1, q2, q3⟩ := cell i j e c' he hc'
          have hj : off + i * sz + j < l.length := (List.getElem?_eq_some_iff.1 q1).1
          refine ⟨hr.frozen_alw hid g1 _, ?_⟩
          rw [cell_of_row w b _ vs ty _ k3]
          simp [Array.getD, show off + i * sz + j < vs.size by omega])
        (fun i j e c' he hc' => by
          obtain ⟨q1, q2, q3⟩ := cell i j e c' he hc'
          have hj : off + i * sz + j < l.length := (List.getElem?_eq_some_iff.1 q1).1
          have hv : vs[off + i * sz + j]? = some (vs[off + i * sz + j]'(by omega)) := Array.getElem?_eq_getElem _
          have hcs : cs[off + i * sz + j]? = some (cs[off + i * sz + j]'(by omega)) := List.getElem?_eq_getElem _
          have := m2 _ _ c' _ hcs q1 (k6 _ _ _ hcs hv)
          simpa [Array.getD, show off + i * sz + j < vs.size by omega] using this)
      rw [hcl] at this
      exact this
    · split at hh <;> first | (cases hh; done) | skip
      rename_i l hl
      simp only [Option.some.injEq] at hh; subst hh
      obtain ⟨m1, m2, m3⟩ := snaps_sound hr n _ l hl
      cases r with
      | data r =>
        cases r with
        | func q1 q2 => exact .func (by omega) (fun i c u hc hu => by
            have hcs := List.getElem?_eq_getElem (l := _) (i := i) (show i < _ by have := (List.getElem?_eq_some_iff.1 hc).1; rw [m1] at this; exact this)
            exact m2 i _ c u hcs hc (.data (q2 i _ u hcs hu)))
      | func q1 q2 => exact .func (by omega) (fun i c u hc hu => by
            have hcs := List.getElem?_eq_getElem (l := _) (i := i) (show i < _ by have := (List.getElem?_eq_some_iff.1 hc).1; rw [m1] at this; exact this)
            exact m2 i _ c u hcs hc (q2 i _ u hcs hu))
    · split at hh <;> first | (cases hh; done) | skip
      rename_i t u x hx
      simp only [Option.some.injEq] at hh; subst hh
      cases r with
      | data r => cases r with
        | iface hn q => exact .iface (snap_notTuple hx hn) (snap_sound hr n _ _ _ hx (.data q))
      | iface hn q => exact .iface (snap_notTuple hx hn) (snap_sound hr n _ _ _ hx q)
    · split at hh <;> first | (cases hh; done) | skip
      rename_i l hl
      simp only [Option.some.injEq] at hh; subst hh
      obtain ⟨m1, m2, m3⟩ := snaps_sound hr n _ l hl
      obtain ⟨vs, rfl, q1, q2, q3⟩ := rel_agg r
      exact .agg (fun c hc => m3 c hc q2) (by omega) (fun i c u hc hu => by
            have hcs := List.getElem?_eq_getElem (l := _) (i := i) (show i < _ by have := (List.getElem?_eq_some_iff.1 hc).1; rw [m1] at this; exact this)
            exact m2 i _ c u hcs hc (q3 i _ u hcs hu))
    · split at hh <;> first | (cases hh; done) | skip
      rename_i l hl
      simp only [Option.some.injEq] at hh; subst hh
      obtain ⟨m1, m2, m3⟩ := snaps_sound hr n _ l hl
      obtain ⟨vs, rfl, q1, q3⟩ := rel_tuple r
      exact .tuple (by omega) (fun i c u hc hu => by
            have hcs := List.getElem?_eq_getElem (l := _) (i := i) (show i < _ by have := (List.getElem?_eq_some_iff.1 hc).1; rw [m1] at this; exact this)
            exact m2 i _ c u hcs hc (q3 i _ u hcs hu))
    · cases hh
    · cases hh
    · simp only [Option.some.injEq] at hh; subst hh
      cases r with
      | data r => exact r
      | msl => exact (‹∀ (id off sz len : Nat) (cap : Option Nat), AV.msl _ _ _ _ _ = AV.msl id off sz len cap → False› _ _ _ _ _ rfl).elim
      | _ => simp_all
theorem snaps_sound (hr : HRel P B A0 σ h w) : ∀ (n : Nat) (l l' : List AV), snaps h n l = some l' → l'.length = l.length ∧
    (∀ (i : Nat) a a' v, l[i]? = some a → l'[i]? = some a' → Rel P (Alw P B A0 σ h) σ h w a v → IRel (Alw P B A0 σ h) w a' v) ∧ (∀ c ∈ l', (∀ c ∈ l, c.one = true) → c.one = true)
  | 0, l, l', hh => by simp [snaps] at hh
  | n + 1, [], l', hh => by simp only [snaps, Option.some.injEq] at hh; subst hh; simp
  | n + 1, a :: l, l', hh => by
    simp only [snaps] at hh
    split at hh <;> first | (cases hh; done) | skip
    rename_i a' l2 h1 h2
    simp only [Option.some.injEq] at hh; subst hh
    obtain ⟨m1, m2, m3⟩ := snaps_sound hr n l l2 h2
    refine ⟨by simp [m1], fun i c c' v hc hc' r => ?_, fun c hc ho => ?_⟩
    · cases i with
      | zero => simp at hc hc'; subst hc hc'; exact snap_sound hr n _ _ _ h1 r
      | succ i => simp at hc hc'; exact m2 i _ _ _ hc hc' r
    · simp only [List.mem_cons] at hc
      rcases hc with rfl | hc
      · exact snap_one h1 (ho a (by simp))
      · exact m3 c hc (fun c hc => ho c (by simp [hc]))
end
end
end Go.V
