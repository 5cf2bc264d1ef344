/- The operations that look at their operands alone: the model does what the value machine says. -/
import Derived.Test.YtdoegkegjaadeaaGreatDoorQV2
namespace Go.V
open Go

section
variable {P : Program} {A : Nat → Nat → Prop} {σ : List (Option Nat)} {h : H} {w : World}

theorem pureVal_run {α : Type} : ∀ (e : Sem α) (r : α), pureVal P e = some r → e.run P w = .ok r w := by
  intro e
  induction e with
  | pure a => intro r h; simp [pureVal] at h; simp [Sem.run, h]
  | program k ih => intro r h; simp only [pureVal] at h; simp only [Sem.run]; exact ih _ _ h
  | _ => intro r h; simp [pureVal] at h

theorem ofScalar_rel {v : Value} {a : AV} (h : ofScalar v = some a) : (∃ n, a = .isl [] .full ∧ v = .slice none n n ∧ n = 0) ∨ IRel A w a v := by
  unfold ofScalar at h
  split at h <;> first | (cases h; done) | skip
  all_goals (simp only [Option.some.injEq] at h; subst h)
  all_goals first | (left; exact ⟨0, rfl, rfl, rfl⟩) | (right; constructor)

theorem ofScalar_Rel {v : Value} {a : AV} (hh : ofScalar v = some a) : Rel P A σ h w a v := by
  rcases ofScalar_rel (A := A) (w := w) hh with ⟨n, rfl, rfl, rfl⟩ | hr
  · exact .full .islNil
  · exact .data hr

theorem ofScalar_one {v : Value} {a : AV} (hh : ofScalar v = some a) : a.one = true := by
  unfold ofScalar at hh
  split at hh <;> first | (cases hh; done) | (simp only [Option.some.injEq] at hh; subst hh; rfl)

theorem ofList_spec : ∀ (l : List Value) (r : List AV), ofList l = some r → r.length = l.length ∧ ∀ (i : Nat) a v, r[i]? = some a → l[i]? = some v → ofScalar v = some a := by
  intro l
  induction l with
  | nil => intro r h; simp [ofList] at h; subst h; simp
  | cons v l ih =>
    intro r h
    simp only [ofList] at h
    split at h <;> first | (cases h; done) | skip
    rename_i a r' h1 h2
    simp only [Option.some.injEq] at h; subst h
    obtain ⟨h3, h4⟩ := ih _ h2
    refine ⟨by simp [h3], fun i a' v' ha hv => ?_⟩
    cases i with
    | zero => simp at ha hv; subst ha hv; exact h1
    | succ i => simp at ha hv; exact h4 i _ _ ha hv

theorem ofConst_Rel {v : Value} {a : AV} (hh : ofConst v = some a) : Rel P A σ h w a v := by
  unfold ofConst at hh
  split at hh
  · rename_i cs
    split at hh <;> first | (cases hh; done) | skip
    rename_i l hl
    simp only [Option.some.injEq] at hh; subst hh
    obtain ⟨h3, h4⟩ := ofList_spec _ _ hl
    refine .agg (fun c hc => ?_) (by simpa using h3.symm) (fun i a v ha hv => ?_)
    · obtain ⟨i, hi, rfl⟩ := List.getElem_of_mem hc
      exact ofScalar_one (h4 i l[i] (cs.toList[i]'(by omega)) (by simp [hi]) (by rw [List.getElem?_eq_getElem]))
    · exact ofScalar_Rel (h4 i a v ha (by simpa using hv))
  · exact ofScalar_Rel hh

theorem toScalar_irel {a : AV} {u v : Value} (hh : toScalar a = some u) (r : IRel A w a v) : v = u := by
  cases r <;> simp_all [toScalar]
theorem toScalar_rel {a : AV} {u v : Value} (hh : toScalar a = some u) (r : Rel P A σ h w a v) : v = u := by
  cases r <;> first | exact toScalar_irel hh ‹_› | simp_all [toScalar]

theorem toList_spec : ∀ (l : List AV) (r : List Value), toList l = some r → r.length = l.length ∧ ∀ (i : Nat) a v, l[i]? = some a → r[i]? = some v → toScalar a = some v := by
  intro l
  induction l with
  | nil => intro r h; simp [toList] at h; subst h; simp
  | cons v l ih =>
    intro r h
    simp only [toList] at h
    split at h <;> first | (cases h; done) | skip
    rename_i a r' h1 h2
    simp only [Option.some.injEq] at h; subst h
    obtain ⟨h3, h4⟩ := ih _ h2
    refine ⟨by simp [h3], fun i a' v' ha hv => ?_⟩
    cases i with
    | zero => simp at ha hv; subst ha hv; exact h1
    | succ i => simp at ha hv; exact h4 i _ _ ha hv

theorem array_of_toList {l : List AV} {r : List Value} {vs : Array Value} (hl : toList l = some r) (hs : vs.size = l.length)
    (hv : ∀ (i : Nat) a v, l[i]? = some a → vs[i]? = some v → ∀ u, toScalar a = some u → v = u) : vs = r.toArray := by
  obtain ⟨h1, h2⟩ := toList_spec _ _ hl
  apply Array.ext (by simp [hs, h1])
  intro i hi hi'
  have ha : l[i]? = some (l[i]'(by omega)) := List.getElem?_eq_getElem _
  have hr : r[i]? = some (r[i]'(by omega)) := List.getElem?_eq_getElem _
  have := hv i _ _ ha (Array.getElem?_eq_getElem hi) _ (h2 i _ _ ha hr)
  simpa using this

theorem toVal_rel {a : AV} {u v : Value} (hh : toVal a = some u) (r : Rel P A σ h w a v) : v = u := by
  unfold toVal at hh
  split at hh
  · rename_i cs
    split at hh <;> first | (cases hh; done) | skip
    rename_i l hl
    simp only [Option.some.injEq] at hh; subst hh
    cases r with
    | data r => cases r with | agg h1 h2 h3 => rw [array_of_toList hl h2 (fun i a v ha hv u hu => toScalar_irel hu (h3 i a v ha hv))]
    | agg h1 h2 h3 => rw [array_of_toList hl h2 (fun i a v ha hv u hu => toScalar_rel hu (h3 i a v ha hv))]
  · exact toScalar_rel hh r

variable {n : Nat} {s : PT} {a : Act}

theorem ev_sound (hg : GlobR A w) (hs : SRel P A σ h w n s a.tmps) {x : Operand} {c : AV} (hx : ev s x = some c) : Rel P A σ h w c (a.eval x) := by
  cases x with
  | tmp t => simp only [ev, Option.some.injEq] at hx; subst hx; exact hs.2 t
  | const v => exact ofConst_Rel hx
  | global g =>
    obtain ⟨d, hd, rfl⟩ := Option.map_eq_some_iff.1 hx
    exact .data (hg g d hd)
  | func f =>
    simp only [ev, Option.some.injEq] at hx; subst hx
    exact .func (by simp) (by simp)

theorem evs_sound (hg : GlobR A w) (hs : SRel P A σ h w n s a.tmps) : ∀ (l : List Operand) (cs : List AV), evs s l = some cs →
    cs.length = l.length ∧ ∀ (i : Nat) c x, cs[i]? = some c → l[i]? = some x → Rel P A σ h w c (a.eval x) := by
  intro l
  induction l with
  | nil => intro cs h; simp [evs] at h; subst h; simp
  | cons x l ih =>
    intro cs h
    simp only [evs] at h
    split at h <;> first | (cases h; done) | skip
    rename_i c r h1 h2
    simp only [Option.some.injEq] at h; subst h
    obtain ⟨h3, h4⟩ := ih _ h2
    refine ⟨by simp [h3], fun i c' x' hc hx => ?_⟩
    cases i with
    | zero => simp at hc hx; subst hc hx; exact ev_sound hg hs h1
    | succ i => simp at hc hx; exact h4 i _ _ hc hx

/-- Cells that a value leads to, as the model has them. -/
theorem rel_agg {cs : List AV} {v : Value} (r : Rel P A σ h w (.agg cs) v) : ∃ vs : Array Value, v = .agg vs ∧ vs.size = cs.length ∧ (∀ c ∈ cs, c.one = true) ∧
    ∀ (i : Nat) a v, cs[i]? = some a → vs[i]? = some v → Rel P A σ h w a v := by
  cases r with
  | data r => cases r with | agg h1 h2 h3 => exact ⟨_, rfl, h2, h1, fun i a v ha hv => .data (h3 i a v ha hv)⟩
  | agg h1 h2 h3 => exact ⟨_, rfl, h2, h1, h3⟩
theorem rel_tuple {cs : List AV} {v : Value} (r : Rel P A σ h w (.tuple cs) v) : ∃ vs : Array Value, v = .tuple vs ∧ vs.size = cs.length ∧
    ∀ (i : Nat) a v, cs[i]? = some a → vs[i]? = some v → Rel P A σ h w a v := by
  cases r with
  | data r => cases r with | tuple h2 h3 => exact ⟨_, rfl, h2, fun i a v ha hv => .data (h3 i a v ha hv)⟩
  | tuple h2 h3 => exact ⟨_, rfl, h2, h3⟩
theorem rel_int {k : IntKind} {m : Int} {v : Value} (r : Rel P A σ h w (.int k m) v) : v = .int k m := toScalar_rel rfl r
theorem rel_bool {b : Bool} {v : Value} (r : Rel P A σ h w (.bool b) v) : v = .bool b := toScalar_rel rfl r
theorem rel_str {b : ByteArray} {v : Value} (r : Rel P A σ h w (.str b) v) : v = .string b := toScalar_rel rfl r

theorem one_cells {c : AV} {v : Value} (r : Rel P A σ h w c v) (hn : notTuple c = true) : v.cells.size = c.cells.length ∧ (∀ x ∈ c.cells, x.one = true) ∧
    ∀ (i : Nat) x u, c.cells[i]? = some x → v.cells[i]? = some u → Rel P A σ h w x u := by
  by_cases hc : ∃ cs, c = .agg cs
  · obtain ⟨cs, rfl⟩ := hc
    obtain ⟨vs, rfl, h1, h2, h3⟩ := rel_agg r
    exact ⟨h1, h2, h3⟩
  · have hone : c.one = true := by cases c <;> simp_all [AV.one, notTuple]
    have hcells : c.cells = [c] := by cases c <;> simp_all [AV.cells, AV.one]
    have hv : v.cells = #[v] := by
      cases r with
      | data r => cases r <;> simp_all [Value.cells, AV.one]
      | agg => simp_all
      | tuple => simp_all [AV.one]
      | tok hd ht => cases hd <;> rfl
      | _ => rfl
    rw [hcells, hv]
    refine ⟨rfl, fun x hx => by simp at hx; subst hx; exact hone, fun i x u hx hu => ?_⟩
    cases i with
    | zero => simp at hx hu; subst hx hu; exact r
    | succ i => simp at hx
end
end Go.V
