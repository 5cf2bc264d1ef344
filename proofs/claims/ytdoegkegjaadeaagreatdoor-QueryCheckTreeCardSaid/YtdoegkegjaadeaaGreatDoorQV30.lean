/- What an operation's outcome hangs on, and what it leaves alone; a new object laid in a place of its own. -/
import Derived.Test.YtdoegkegjaadeaaGreatDoorQV29
namespace Go.V
open Go

theorem fin_get (p : Nat) (T : List Nat) (h h' : H) (id : Nat) : (fin p T h h')[id]? = (h[id]?).map fun x => if id = p then (match h'[h.length]? with
    | some y => y.mv h.length p
    | none => x)
  else if T.contains id then (match h'[id]? with
    | some y => y.mv h.length p
    | none => x)
  else x := by unfold fin; rw [List.getElem?_mapIdx]; rfl
theorem fin_length (p : Nat) (T : List Nat) (h h' : H) : (fin p T h h').length = h.length := by simp [fin]

/-- What is left alone. -/
structure Fr (T : List Nat) (h h' : H) : Prop where
  ge : h.length ≤ h'.length
  fr : ∀ id, id < h.length → id ∉ T → h'[id]? = h[id]?
  loop : ∀ (j : Nat) L st, h'[j]? = some (.loop L st) → h[j]? = some (.loop L st)

section
variable {P : Program} {B : Nat} {A0 : Nat → Nat → Prop} {σ : List (Option Nat)} {h h' : H} {w w' : World}
theorem mv_obj (hr : HRel P B A0 σ h w) {j : Nat} {x : VObj} (hj : h[j]? = some x) (k : Nat) : x.mv h.length k = x := by
  have hn : h[h.length]? = none ∨ h[h.length]? = some .void := .inl (List.getElem?_eq_none (Nat.le_refl _))
  cases x with
  | cells cs st =>
    by_cases hd : st = .dead
    · subst hd; rfl
    · obtain ⟨b, vs, ty, k1, k2, k3, k4, k5, k6⟩ := hr.cells j cs st hj hd
      have : AV.mvs h.length k cs = cs := mvs_id fun q a ha => by
        have hq : q < vs.size := Nat.lt_of_lt_of_le (List.getElem?_eq_some_iff.1 ha).1 k4
        exact mv_rel hn k (k6 q a _ ha (Array.getElem?_eq_getElem hq))
      cases st <;> first | exact absurd rfl hd | simp only [VObj.mv, this]
  | map es =>
    obtain ⟨b, mes, clock, k1, k2, k3, k4, k5⟩ := hr.map j es hj
    simp only [VObj.mv, VObj.map.injEq]
    apply List.ext_getElem?
    intro q
    rw [List.getElem?_map]
    cases hq : es[q]? with
    | none => rfl
    | some e =>
      have hlt : q < mes.size := by rw [k4]; exact (List.getElem?_eq_some_iff.1 hq).1
      obtain ⟨_, _, z⟩ := k5 q e _ hq (Array.getElem?_eq_getElem hlt)
      simp [mv_rel hn k z]
  | _ => rfl

theorem place [DFlag] (hr : HRel P B A0 σ h w) {p : Nat} {T : List Nat} {r : AV} {v : Value} (hp : h[p]? = some .void) (hT : p ∉ T) (hlen : h'.length ≤ h.length + 1) (hf : Fr T h h') (L : Leaves P B A0 σ h w r h' v w') :
    Leaves P B A0 σ h w (r.mv h.length p) (fin p T h h') v w' := by
  obtain ⟨σ', k1, k2, k3⟩ := L
  have hge := hf.ge
  have hpl : p < h.length := (List.getElem?_eq_some_iff.1 hp).1
  have hpv : h'[p]? = some .void := (hf.fr p hpl hT).trans hp
  have hσl : σ'.length = h'.length := k1.len
  have hgone : ∀ j : Nat, j ≠ h.length → (if j = h.length then p else j) = j := fun j hj => if_neg hj
  have nm : Named σ' h' ((σ'.take h.length).set p ((σ'[h.length]?).getD none)) (fin p T h h') h.length p := by
    refine ⟨fun j x hj hx => ?_, fun j y hj hy => ?_, by rw [List.length_set, List.length_take, fin_length]; omega⟩
    · have hjl := (List.getElem?_eq_some_iff.1 hj).1
      by_cases e : j = h.length
      · subst e
        rw [if_pos rfl]
        refine ⟨?_, ?_⟩
        · rw [List.getElem?_set_self (by rw [List.length_take]; omega)]
          rw [List.getElem?_eq_getElem (show h.length < σ'.length by omega)]; rfl
        · rw [fin_get, hp]; simp [hj]
      · rw [hgone j e]
        have hne : j ≠ p := fun e => by subst e; rw [hpv] at hj; simp only [Option.some.injEq] at hj; exact hx hj.symm
        have hjM : j < h.length := by omega
        refine ⟨by rw [List.getElem?_set_ne (fun k => hne k.symm), List.getElem?_take, if_pos hjM], ?_⟩
        rw [fin_get, List.getElem?_eq_getElem hjM, Option.map_some, if_neg hne]
        by_cases ht : T.contains j = true
        · rw [if_pos ht, hj]
        · rw [if_neg ht]
          have := hf.fr j hjM (by simpa using ht)
          rw [List.getElem?_eq_getElem hjM] at this
          rw [hj] at this
          simp only [Option.some.injEq] at this
          rw [← this, mv_obj hr (by rw [List.getElem?_eq_getElem hjM, ← this]) p]
    · rw [fin_get] at hj
      obtain ⟨x0, h0, e⟩ := Option.map_eq_some_iff.1 hj
      have hjM := (List.getElem?_eq_some_iff.1 h0).1
      by_cases hjp : j = p
      · subst hjp
        rw [if_pos rfl] at e
        rw [hp] at h0; simp only [Option.some.injEq] at h0; subst h0
        split at e
        · rename_i y' hy'
          subst e
          exact ⟨h.length, y', hy', mv_void.1 hy, (if_pos rfl).symm, rfl⟩
        · exact absurd e.symm hy
      · rw [if_neg hjp] at e
        have hjM' : j ≠ h.length := by omega
        have hj' : h'[j]? = some (h'[j]'(by omega)) := List.getElem?_eq_getElem _
        by_cases ht : T.contains j = true
        · rw [if_pos ht, hj'] at e
          dsimp only at e
          subst e
          exact ⟨j, _, hj', mv_void.1 hy, (hgone j hjM').symm, rfl⟩
        · rw [if_neg ht] at e
          subst e
          have := hf.fr j hjM (by simpa using ht)
          rw [h0] at this
          exact ⟨j, x0, this, hy, (hgone j hjM').symm, (mv_obj hr h0 p).symm⟩
  have hR := nm.hrel k1 (fun j L st hj hd t => by
    obtain ⟨l, fn, tm, D, z1, z2, z3, z4, z5⟩ := hr.loop j L st (hf.loop j L st hj) hd
    exact mv_rel (.inl (List.getElem?_eq_none (Nat.le_refl _))) p (z5 t))
  have up : ∀ {j : Nat} {x : VObj}, j < h.length → h'[j]? = some x → x ≠ .void → ((σ'.take h.length).set p ((σ'[h.length]?).getD none))[j]? = σ'[j]? ∧ (fin p T h h')[j]? = some (x.mv h.length p) := fun {j x} hjl hj hx => by
    have := nm.to j x hj hx
    rwa [hgone j (by omega)] at this
  refine ⟨_, hR, ⟨k2.below, k2.shapes, fun b o x ha hc => let z := k2.kept b o x ha hc; ⟨nm.alw z.1, z.2⟩, fun j cs st hj => ?_, fun j u ty hj => ?_, fun j L st hj => ?_, fun j es hj => ?_, k2.marks, k2.drawn⟩, nm.rel k3⟩
  · obtain ⟨e1, cs', st', e2⟩ := k2.cells j cs st hj
    obtain ⟨z1, z2⟩ := up (List.getElem?_eq_some_iff.1 hj).1 e2 (by simp)
    exact ⟨z1.trans e1, by cases st' <;> exact ⟨_, _, z2⟩⟩
  · obtain ⟨u', e1, e2, e3⟩ := k2.toks j u ty hj
    obtain ⟨z1, z2⟩ := up (List.getElem?_eq_some_iff.1 hj).1 e1 (by simp)
    exact ⟨u', z2, e2, fun e => z1.trans (e3 e)⟩
  · obtain ⟨e1, st', e2⟩ := k2.loops j L st hj
    obtain ⟨z1, z2⟩ := up (List.getElem?_eq_some_iff.1 hj).1 e2 (by simp)
    exact ⟨z1.trans e1, st', z2⟩
  · obtain ⟨e1, es', e2⟩ := k2.maps j es hj
    obtain ⟨z1, z2⟩ := up (List.getElem?_eq_some_iff.1 hj).1 e2 (by simp)
    exact ⟨z1.trans e1, _, z2⟩
end

/- What the outcome hangs on. -/
/-- Two runs from memories that agree on T. -/
structure Loc2 (T : List Nat) (h h' h2 h2' : H) : Prop where
  len : h2'.length = h'.length
  new : ∀ id, h.length ≤ id → h2'[id]? = h'[id]?
  same : ∀ id ∈ T, h2'[id]? = h'[id]?
section
variable {T : List Nat} {h h1 h2 h21 : H}
theorem Fr.refl (h : H) : Fr T h h := ⟨Nat.le_refl _, fun _ _ _ => rfl, fun _ _ _ hj => hj⟩
theorem Fr.push (f : Fr T h h1) {x : VObj} (hx : ∀ L st, x ≠ .loop L st) : Fr T h (h1 ++ [x]) := by
  refine ⟨by simp; have := f.ge; omega, fun id hl ht => ?_, fun j L st hj => ?_⟩
  · rw [List.getElem?_append_left (by have := f.ge; omega)]; exact f.fr id hl ht
  · rcases getElem?_push_cases hj with ⟨_, hj⟩ | ⟨_, e⟩
    · exact f.loop j L st hj
    · exact absurd e.symm (hx L st)
theorem Fr.set (f : Fr T h h1) {id : Nat} (hid : id ∈ T) {x : VObj} (hx : ∀ L st, x ≠ .loop L st) : Fr T h (h1.set id x) := by
  refine ⟨by simpa using f.ge, fun j hl ht => ?_, fun j L st hj => ?_⟩
  · rw [List.getElem?_set_ne (fun e : id = j => ht (e ▸ hid))]; exact f.fr j hl ht
  · rcases getElem?_set_cases hj with ⟨_, e, _⟩ | ⟨_, hj⟩
    · exact absurd e.symm (hx L st)
    · exact f.loop j L st hj
theorem Fr.freeze (f : Fr T h h1) : ∀ (l : List Nat), (∀ i ∈ l, i ∈ T) → Fr T h (Go.V.freeze h1 l) := by
  intro l
  induction l generalizing h1 with
  | nil => intro _; exact f
  | cons i l ih =>
    intro hl
    simp only [Go.V.freeze]
    refine ih ?_ (fun j hj => hl j (by simp [hj]))
    unfold freeze1
    split
    · exact f.set (hl i (by simp)) (by simp)
    · exact f
theorem Loc2.refl (hl : h2.length = h.length) (ha : ∀ id ∈ T, h2[id]? = h[id]?) : Loc2 T h h h2 h2 :=
  ⟨hl, fun id hi => by rw [List.getElem?_eq_none (by omega), List.getElem?_eq_none (by omega)], ha⟩
theorem Loc2.push (l : Loc2 T h h1 h2 h21) (x : VObj) : Loc2 T h (h1 ++ [x]) h2 (h21 ++ [x]) := by
  refine ⟨by simp [l.len], fun id hi => ?_, fun id hi => ?_⟩
  · rw [List.getElem?_append, List.getElem?_append, l.len, l.new id hi]
  · rw [List.getElem?_append, List.getElem?_append, l.len, l.same id hi]
theorem Loc2.set (l : Loc2 T h h1 h2 h21) (id : Nat) (x : VObj) : Loc2 T h (h1.set id x) h2 (h21.set id x) := by
  refine ⟨by simp [l.len], fun j hj => ?_, fun j hj => ?_⟩
  · rw [List.getElem?_set, List.getElem?_set, l.len, l.new j hj]
  · rw [List.getElem?_set, List.getElem?_set, l.len, l.same j hj]
theorem Loc2.freeze (l : Loc2 T h h1 h2 h21) : ∀ (l' : List Nat), (∀ i ∈ l', i ∈ T) → Loc2 T h (Go.V.freeze h1 l') h2 (Go.V.freeze h21 l') := by
  intro l'
  induction l' generalizing h1 h21 with
  | nil => intro _; exact l
  | cons i l' ih =>
    intro hl
    simp only [Go.V.freeze]
    refine ih ?_ (fun j hj => hl j (by simp [hj]))
    unfold freeze1
    rw [l.same i (hl i (by simp))]
    split
    · exact l.set _ _
    · exact l
end

/- Reach and snap. -/
mutual
theorem reach_loc {h h2 : H} : ∀ (n : Nat) (v : AV), (∀ id ∈ reach h n v, h2[id]? = h[id]?) → reach h2 n v = reach h n v
  | 0, _ => fun _ => by simp [reach]
  | n + 1, v => fun hh => by
    cases v with
    | ptr id off =>
      simp only [reach] at hh ⊢
      rw [hh id (by simp)]
      cases hx : h[id]? with
      | none => rfl
      | some x => cases x with
        | cells cs st => simp only [hx] at hh; dsimp only; rw [reachs_loc n cs fun i hi => hh i (by simp [hi])]
        | _ => rfl
    | msl id off sz len cap =>
      simp only [reach] at hh ⊢
      rw [hh id (by simp)]
      cases hx : h[id]? with
      | none => rfl
      | some x => cases x with
        | cells cs st => simp only [hx] at hh; dsimp only; rw [reachs_loc n cs fun i hi => hh i (by simp [hi])]
        | _ => rfl
    | func f c => simp only [reach] at hh ⊢; exact reachs_loc n c hh
    | iface t u => simp only [reach] at hh ⊢; exact reach_loc n u hh
    | agg cs => simp only [reach] at hh ⊢; exact reachs_loc n cs hh
    | tuple vs => simp only [reach] at hh ⊢; exact reachs_loc n vs hh
    | _ => simp [reach]
theorem reachs_loc {h h2 : H} : ∀ (n : Nat) (l : List AV), (∀ id ∈ reachs h n l, h2[id]? = h[id]?) → reachs h2 n l = reachs h n l
  | 0, _ => fun _ => by simp [reachs]
  | _ + 1, [] => fun _ => by simp [reachs]
  | n + 1, v :: r => fun hh => by
    simp only [reachs] at hh ⊢
    rw [reach_loc n v fun i hi => hh i (by simp [hi]), reachs_loc n r fun i hi => hh i (by simp [hi])]
end
mutual
theorem snap_loc {h k k2 : H} : ∀ (n : Nat) (v : AV), (∀ id ∈ reach h n v, k2[id]? = k[id]? ∧ ∀ cs, k[id]? = some (.cells cs .frozen) → ∃ st, h[id]? = some (.cells cs st)) → snap k2 n v = snap k n v
  | 0, _ => fun _ => by simp [snap]
  | n + 1, v => fun hh => by
    cases v with
    | ptr id off =>
      simp only [reach] at hh
      simp only [snap]
      obtain ⟨e1, e2⟩ := hh id (by simp)
      rw [e1]
      split
      · rename_i cs hx
        obtain ⟨st, e3⟩ := e2 cs hx
        simp only [e3] at hh
        rw [snaps_loc n cs fun i hi => hh i (by simp [hi])]
      · rfl
    | msl id off sz len cap =>
      simp only [reach] at hh
      simp only [snap]
      obtain ⟨e1, e2⟩ := hh id (by simp)
      rw [e1]
      split
      · rename_i cs hx
        obtain ⟨st, e3⟩ := e2 cs hx
        simp only [e3] at hh
        rw [snaps_loc n cs fun i hi => hh i (by simp [hi])]
      · rfl
    | func f c => simp only [reach] at hh; simp only [snap]; rw [snaps_loc n c hh]
    | iface t u => simp only [reach] at hh; simp only [snap]; rw [snap_loc n u hh]
    | agg cs => simp only [reach] at hh; simp only [snap]; rw [snaps_loc n cs hh]
    | tuple vs => simp only [reach] at hh; simp only [snap]; rw [snaps_loc n vs hh]
    | _ => simp [snap]
theorem snaps_loc {h k k2 : H} : ∀ (n : Nat) (l : List AV), (∀ id ∈ reachs h n l, k2[id]? = k[id]? ∧ ∀ cs, k[id]? = some (.cells cs .frozen) → ∃ st, h[id]? = some (.cells cs st)) → snaps k2 n l = snaps k n l
  | 0, _ => fun _ => by simp [snaps]
  | _ + 1, [] => fun _ => by simp [snaps]
  | n + 1, v :: r => fun hh => by
    simp only [reachs] at hh
    simp only [snaps]
    rw [snap_loc n v fun i hi => hh i (by simp [hi]), snaps_loc n r fun i hi => hh i (by simp [hi])]
end
/-- What a freeze lays still holds what it held. -/
theorem freeze_back {h : H} {l : List Nat} {id : Nat} {cs : List AV} (hx : (freeze h l)[id]? = some (.cells cs .frozen)) : ∃ st, h[id]? = some (.cells cs st) := by
  rcases (freeze_stiller h l).at_ id with e | ⟨cs', e1, e2⟩
  · exact ⟨_, e.symm.trans hx⟩
  · rw [hx] at e2; simp only [Option.some.injEq, VObj.cells.injEq] at e2
    obtain ⟨rfl, _⟩ := e2
    exact ⟨_, e1⟩
/-- Values as a callee sees them. -/
theorem sent_loc {h h2 : H} {l : List AV} (hl : h2.length = h.length) (ha : ∀ id ∈ reachs h deep l, h2[id]? = h[id]?) :
    reachs h2 deep l = reachs h deep l ∧ snaps (freeze h2 (reachs h2 deep l)) deep l = snaps (freeze h (reachs h deep l)) deep l ∧ Fr (reachs h deep l) h (freeze h (reachs h deep l)) ∧ Loc2 (reachs h deep l) h (freeze h (reachs h deep l)) h2 (freeze h2 (reachs h deep l)) := by
  have e := reachs_loc deep l ha
  have lc := (Loc2.refl (T := reachs h deep l) hl ha).freeze (reachs h deep l) (fun _ h => h)
  refine ⟨e, ?_, (Fr.refl h).freeze _ (fun _ h => h), lc⟩
  rw [e]
  exact snaps_loc (h := h) deep l fun id hid => ⟨lc.same id hid, fun cs hx => freeze_back hx⟩
end Go.V
