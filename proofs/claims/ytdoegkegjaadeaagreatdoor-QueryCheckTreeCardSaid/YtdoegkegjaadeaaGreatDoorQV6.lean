/- Composite values, and all operations that look at their operands alone. -/
import Derived.Test.YtdoegkegjaadeaaGreatDoorQV5
import Derived.Laws.Tables
namespace Go.V
open Go

section
variable {P : Program} {A : Nat → Nat → Prop} {σ : List (Option Nat)} {h : H} {w : World}

theorem places_known : ∀ (fs : List Field), fieldsKnown P fs = true → ∃ pl : List (Nat × Nat), fs.mapM (fun f => (P.info? f.type).map fun i => (f.offset, i.size)) = some pl ∧
    ∀ (i : Nat), pl[i]? = (match fs[i]? with | some f => (match sizeV P f.type with | some n => some (f.offset, n) | none => none) | none => none) := by
  intro fs
  induction fs with
  | nil => intro _; exact ⟨[], by simp, fun i => by simp⟩
  | cons f fs ih =>
    intro hk
    simp only [fieldsKnown, Bool.and_eq_true] at hk
    obtain ⟨pl, h1, h2⟩ := ih hk.2
    obtain ⟨i, hi⟩ := Option.isSome_iff_exists.1 hk.1
    refine ⟨(f.offset, i.size) :: pl, by simp [List.mapM_cons, hi, h1], fun j => ?_⟩
    cases j with
    | zero => simp [sizeV, hi]
    | succ j => simp [h2]

/-- The cells of a zero value, with parts laid into them. -/
theorem fillV_sound {pl : Nat → Option (Nat × Nat)} : ∀ (parts : List (Nat × AV)) (z r : List AV) (us : List (Nat × Value)) (vs : Array Value), fillV pl z parts = some r →
    us.length = parts.length → (∀ (k i : Nat) a j u, parts[k]? = some (i, a) → us[k]? = some (j, u) → i = j ∧ Rel P A σ h w a u ∧ notTuple a = true) →
    vs.size = z.length → (∀ c ∈ z, c.one = true) → (∀ (i : Nat) a v, z[i]? = some a → vs[i]? = some v → Rel P A σ h w a v) →
    ∃ vs' : Array Value, Instr.fill pl vs us = some vs' ∧ vs'.size = r.length ∧ (∀ c ∈ r, c.one = true) ∧ ∀ (i : Nat) a v, r[i]? = some a → vs'[i]? = some v → Rel P A σ h w a v := by
  intro parts
  induction parts with
  | nil =>
    intro z r us vs hf hl _ hs h1 hr
    simp only [fillV, Option.some.injEq] at hf; subst hf
    have : us = [] := List.eq_nil_of_length_eq_zero (by simpa using hl)
    subst this
    exact ⟨vs, rfl, hs, h1, hr⟩
  | cons p parts ih =>
    intro z r us vs hf hl hp hs h1 hr
    obtain ⟨i, a⟩ := p
    cases us with
    | nil => simp at hl
    | cons q us =>
      obtain ⟨j, u⟩ := q
      obtain ⟨rfl, ra, hn⟩ := hp 0 i a j u rfl rfl
      simp only [fillV] at hf
      split at hf <;> first | (cases hf; done) | skip
      rename_i off size hpl
      split at hf <;> first | (cases hf; done) | skip
      rename_i hb
      obtain ⟨e1, e2, e3⟩ := one_cells ra hn
      have fold : ∀ (l : List Value) (k : Nat) (cs : Array Value), off + k + l.length ≤ cs.size →
          ((l.zipIdx k).foldl (fun cs (c, j) => cs.setIfInBounds (off + j) c) cs).size = cs.size ∧
          ∀ m : Nat, ((l.zipIdx k).foldl (fun cs (c, j) => cs.setIfInBounds (off + j) c) cs)[m]? = if off + k ≤ m ∧ m < off + k + l.length then l[m - (off + k)]? else cs[m]? := by
        intro l
        induction l with
        | nil => intro k cs _; simp; intro m h1 h2; omega
        | cons c l ihl =>
          intro k cs hk
          simp only [List.length_cons] at hk
          simp only [List.zipIdx_cons, List.foldl_cons]
          obtain ⟨g1, g2⟩ := ihl (k + 1) (cs.setIfInBounds (off + k) c) (by simp; omega)
          refine ⟨by simp [g1], fun m => ?_⟩
          rw [g2]
          by_cases hm : m = off + k
          · subst hm
            rw [if_neg (by omega), if_pos (by simp only [List.length_cons]; omega), Array.getElem?_setIfInBounds_self_of_lt (by omega)]
            simp
          · by_cases hm2 : off + (k + 1) ≤ m ∧ m < off + (k + 1) + l.length
            · rw [if_pos hm2, if_pos (by simp only [List.length_cons]; omega)]
              rw [show m - (off + k) = (m - (off + (k + 1))) + 1 by omega]
              rfl
            · rw [if_neg hm2, if_neg (by simp only [List.length_cons]; omega)]
              rw [Array.getElem?_setIfInBounds_ne (by omega)]
      obtain ⟨g1, g2⟩ := fold u.cells.toList 0 vs (by simp; omega)
      simp only [Nat.add_zero, Array.length_toList] at g1 g2
      have hfold : (u.cells.zipIdx.foldl (fun cs (c, j) => cs.setIfInBounds (off + j) c) vs) = ((u.cells.toList.zipIdx 0).foldl (fun cs (c, j) => cs.setIfInBounds (off + j) c) vs) := by
        rw [← Array.foldl_toList]; simp
      have hlen : (z.take off ++ a.cells ++ z.drop (off + size)).length = z.length := by simp; omega
      have hget : ∀ m : Nat, (z.take off ++ a.cells ++ z.drop (off + size))[m]? = if off ≤ m ∧ m < off + a.cells.length then a.cells[m - off]? else z[m]? := by
        intro m
        by_cases c1 : m < off
        · rw [if_neg (by omega), List.append_assoc, List.getElem?_append_left (by simp; omega), List.getElem?_take, if_pos c1]
        · by_cases c2 : m < off + a.cells.length
          · rw [if_pos ⟨by omega, c2⟩, List.getElem?_append_left (by simp; omega), List.getElem?_append_right (by simp; omega)]
            simp; congr 1; omega
          · rw [if_neg (by omega), List.getElem?_append_right (by simp; omega), List.getElem?_drop]
            congr 1; simp; omega
      obtain ⟨vs', k1, k2, k3, k4⟩ := ih (z.take off ++ a.cells ++ z.drop (off + size)) r us (u.cells.zipIdx.foldl (fun cs (c, j) => cs.setIfInBounds (off + j) c) vs) hf (by simpa using hl)
        (fun k i' a' j' u' hx hy => hp (k + 1) i' a' j' u' (by simpa using hx) (by simpa using hy)) (by rw [hfold, g1, hlen, hs])
        (fun c hc => by
          simp only [List.mem_append] at hc
          rcases hc with (hc | hc) | hc
          · exact h1 c (List.mem_of_mem_take hc)
          · exact e2 c hc
          · exact h1 c (List.mem_of_mem_drop hc))
        (fun m x v hx hv => by
          rw [hget] at hx
          rw [hfold, g2] at hv
          rw [e1] at hv
          split at hx
          · rename_i hm
            rw [if_pos hm] at hv
            exact e3 (m - off) x v hx (by simpa using hv)
          · rename_i hm
            rw [if_neg hm] at hv
            exact hr m x v hx hv)
      refine ⟨vs', ?_, k2, k3, k4⟩
      simp only [Instr.fill, hpl]
      rw [if_neg (by simp; omega)]
      exact k1

theorem zeroV_spec {t : TypeId} {a : AV} (hh : zeroV P t = some a) : ∃ v, (zeroValue t).run P w = .ok v w ∧ Rel P A σ h w a v ∧ ∃ i, P.info? t = some i ∧ a.cells.length = i.size := by
  unfold zeroV at hh
  split at hh <;> first | (cases hh; done) | skip
  rename_i i hi
  split at hh <;> first | (cases hh; done) | skip
  rename_i v hv
  split at hh <;> first | (cases hh; done) | skip
  rename_i a' ha
  split at hh <;> first | (cases hh; done) | skip
  rename_i hl
  simp only [Option.some.injEq] at hh; subst hh
  exact ⟨v, by simp [zeroValue, typeInfo, hi, hv], ofConst_Rel ha, i, hi, hl⟩

variable {n : Nat} {s : PT} {a : Act}

theorem partsV_sound (hg : GlobR A w) (hs : SRel P A σ h w n s a.tmps) : ∀ (l : List (Nat × Operand)) (r : List (Nat × AV)), partsV s l = some r →
    r.length = l.length ∧ ∀ (k i : Nat) c j x, r[k]? = some (i, c) → l[k]? = some (j, x) → i = j ∧ Rel P A σ h w c (a.eval x) ∧ notTuple c = true := by
  intro l
  induction l with
  | nil => intro r hh; simp [partsV] at hh; subst hh; simp
  | cons p l ih =>
    intro r hh
    obtain ⟨i, x⟩ := p
    simp only [partsV] at hh
    split at hh <;> first | (cases hh; done) | skip
    rename_i c r' h1 h2
    split at hh <;> first | (cases hh; done) | skip
    rename_i hn
    simp only [Option.some.injEq] at hh; subst hh
    obtain ⟨h3, h4⟩ := ih _ h2
    refine ⟨by simp [h3], fun k i' c' j' x' hc hx => ?_⟩
    cases k with
    | zero => simp at hc hx; obtain ⟨rfl, rfl⟩ := hc; obtain ⟨rfl, rfl⟩ := hx; exact ⟨rfl, ev_sound hg hs h1, hn⟩
    | succ k => simp at hc hx; exact h4 k _ _ _ _ hc hx

theorem buildV_sound {t : TypeId} {parts : List (Nat × AV)} {us : Array (Nat × Value)} {r : AV} (hh : buildV P t parts = some r) (hl : us.size = parts.length)
    (hp : ∀ (k i : Nat) c j u, parts[k]? = some (i, c) → us[k]? = some (j, u) → i = j ∧ Rel P A σ h w c u ∧ notTuple c = true) :
    ∃ z, (Instr.build t us).run P w = .ok z w ∧ Rel P A σ h w r z := by
  unfold buildV at hh
  split at hh <;> first | (cases hh; done) | skip
  · rename_i fields hu
    split at hh <;> first | (cases hh; done) | skip
    rename_i hk
    split at hh <;> first | (cases hh; done) | skip
    rename_i z hz
    split at hh <;> first | (cases hh; done) | skip
    rename_i cs hf
    simp only [Option.some.injEq] at hh; subst hh
    obtain ⟨v, e1, e2, i, e3, e4⟩ := zeroV_spec (A := A) (σ := σ) (h := h) (w := w) hz
    obtain ⟨vs, rfl, g1, g2, g3⟩ := rel_agg e2
    obtain ⟨pl, p1, p2⟩ := places_known _ hk
    have hpl : fieldPlaceV P t = fun i => (pl.toArray)[i]? := by
      funext i
      simp only [fieldPlaceV, hu, List.getElem?_toArray, p2, Array.getElem?_toList]
      cases fields[i]? with
      | none => rfl
      | some f => cases sizeV P f.type <;> rfl
    rw [hpl] at hf
    obtain ⟨vs', k1, k2, k3, k4⟩ := fillV_sound parts z cs us.toList vs hf (by simpa using hl) (fun k i c j u hc hu => hp k i c j u hc (by simpa using hu)) g1 g2 g3
    refine ⟨.agg vs', ?_, .agg k3 k2 k4⟩
    simp only [Instr.build, Sem.run_bind, e1, Result.andThen_ok, Value.cells, run_under hu, Array.mapM_eq_mapM_toList]
    have k1' : Instr.fill (fun x => pl[x]?) vs us.toList = some vs' := by simpa using k1
    simp [run_places w _ _ p1, k1']
  · rename_i len elem hu
    split at hh <;> first | (cases hh; done) | skip
    rename_i z sz hz hsz
    split at hh <;> first | (cases hh; done) | skip
    rename_i cs hf
    simp only [Option.some.injEq] at hh; subst hh
    obtain ⟨v, e1, e2, i, e3, e4⟩ := zeroV_spec (A := A) (σ := σ) (h := h) (w := w) hz
    obtain ⟨vs, rfl, g1, g2, g3⟩ := rel_agg e2
    obtain ⟨vs', k1, k2, k3, k4⟩ := fillV_sound parts z cs us.toList vs hf (by simpa using hl) (fun k i c j u hc hu => hp k i c j u hc (by simpa using hu)) g1 g2 g3
    refine ⟨.agg vs', ?_, .agg k3 k2 k4⟩
    simp only [Instr.build, Sem.run_bind, e1, Result.andThen_ok, Value.cells, run_under hu, run_sizeOf hsz, k1, Sem.run_pure]

theorem minmaxV_sound {mx : Bool} {l : List AV} {us : Array Value} {r : AV} {at_ : Array TypeId} {ty : TypeId} (hh : minmaxV P mx l = some r) (hl : us.size = l.length)
    (hr : ∀ (i : Nat) c u, l[i]? = some c → us[i]? = some u → Rel P A σ h w c u) :
    ∃ z, (if mx then Builtin.max_ at_ ty us else Builtin.min_ at_ ty us).run P w = .ok z w ∧ Rel P A σ h w r z := by
  unfold minmaxV at hh
  split at hh <;> first | (cases hh; done) | skip
  rename_i vs hv
  split at hh <;> first | (cases hh; done) | skip
  rename_i z hz
  have e : us = vs.toArray := array_of_toList hv hl (fun i a v ha hv u hu => toScalar_rel hu (hr i a v ha hv))
  subst e
  refine ⟨z, ?_, ofConst_Rel hh⟩
  have := pureVal_run (w := w) _ _ hz
  cases mx <;> exact this

theorem opt_eval (hg : GlobR A w) (hs : SRel P A σ h w n s a.tmps) {x : Option Operand} (hx : x.map (ev s) ≠ some none) : ORel P A σ h w ((x.map (ev s)).bind id) (x.map a.eval) := by
  cases x with
  | none => trivial
  | some x =>
    simp only [Option.map_some] at hx ⊢
    cases hc : ev s x with
    | none => simp [hc] at hx
    | some c => exact ev_sound hg hs hc
end
end Go.V
