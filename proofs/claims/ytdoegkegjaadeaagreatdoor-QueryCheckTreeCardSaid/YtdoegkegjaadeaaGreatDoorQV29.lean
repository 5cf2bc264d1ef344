/- Drawn regions in which each new object has a place of its own: renaming; what an operation's outcome hangs on. -/
import Derived.Test.YtdoegkegjaadeaaGreatDoorQV15
namespace Go.V
open Go

/- Renaming. -/
theorem mvs_get (i k : Nat) : ∀ (l : List AV) (j : Nat), (AV.mvs i k l)[j]? = (l[j]?).map (AV.mv i k) := by
  intro l
  induction l with
  | nil => intro j; simp [AV.mvs]
  | cons v l ih => intro j; cases j with
    | zero => simp [AV.mvs]
    | succ j => simp [AV.mvs, ih]
theorem mvs_length (i k : Nat) : ∀ (l : List AV), (AV.mvs i k l).length = l.length := by
  intro l
  induction l with
  | nil => rfl
  | cons v l ih => simp [AV.mvs, ih]
theorem mvs_id {i k : Nat} : ∀ {l : List AV}, (∀ (j : Nat) a, l[j]? = some a → a.mv i k = a) → AV.mvs i k l = l := by
  intro l h
  apply List.ext_getElem?
  intro j
  rw [mvs_get]
  cases hj : l[j]? with
  | none => rfl
  | some a => simp [h j a hj]
theorem mv_one (i k : Nat) (a : AV) : (a.mv i k).one = a.one := by
  cases a with
  | isl es x => cases x <;> simp [AV.mv, AV.one]
  | _ => simp [AV.mv, AV.one]
theorem mv_notTuple (i k : Nat) (a : AV) : notTuple (a.mv i k) = notTuple a := by
  cases a with
  | isl es x => cases x <;> simp [AV.mv, notTuple]
  | _ => simp [AV.mv, notTuple]
theorem mv_scalar {i k : Nat} {a : AV} {u : Value} (h : toScalar a = some u) : a.mv i k = a := by cases a <;> simp [toScalar] at h <;> rfl
theorem mv_irel {A : Nat → Nat → Prop} {w : World} {a : AV} {v : Value} (i k : Nat) (r : IRel A w a v) : a.mv i k = a := by
  induction r with
  | func hl _ ih => rw [AV.mv, mvs_id (fun j a ha => ih j a _ ha (Array.getElem?_eq_getElem (i := j) (by rw [hl]; exact (List.getElem?_eq_some_iff.1 ha).1)))]
  | iface hn _ ih => rw [AV.mv, ih]
  | agg h1 hl _ ih => rw [AV.mv, mvs_id (fun j a ha => ih j a _ ha (Array.getElem?_eq_getElem (i := j) (by rw [hl]; exact (List.getElem?_eq_some_iff.1 ha).1)))]
  | tuple hl _ ih => rw [AV.mv, mvs_id (fun j a ha => ih j a _ ha (Array.getElem?_eq_getElem (i := j) (by rw [hl]; exact (List.getElem?_eq_some_iff.1 ha).1)))]
  | _ => simp [AV.mv]
/-- A value that stands for something does not name what is not there. -/
theorem mv_rel {P : Program} {A : Nat → Nat → Prop} {σ : List (Option Nat)} {h : H} {w : World} {a : AV} {v : Value} {i : Nat} (hi : h[i]? = none ∨ h[i]? = some .void) (k : Nat) (r : Rel P A σ h w a v) : a.mv i k = a := by
  have ne : ∀ (j : Nat) x, h[j]? = some x → x ≠ .void → (if j = i then k else j) = j := fun j x hj hx => by
    split
    · rename_i e; subst e
      rcases hi with e | e <;> rw [hj] at e
      · cases e
      · simp only [Option.some.injEq] at e; exact absurd e hx
    · rfl
  induction r with
  | data hd => exact mv_irel i k hd
  | yield hs hk => obtain ⟨L, st, hj⟩ := hk; rw [AV.mv, ne _ _ hj (by simp)]
  | mp hs hk => obtain ⟨es, hj⟩ := hk; rw [AV.mv, ne _ _ hj (by simp)]
  | ptr hs hk => obtain ⟨cs, st, hj⟩ := hk; rw [AV.mv, ne _ _ hj (by simp)]
  | msl hs hk => obtain ⟨cs, st, hj⟩ := hk; rw [AV.mv, ne _ _ hj (by simp)]
  | full hd => simp [AV.mv]
  | tok hd ht => obtain ⟨u, ty, hj, _⟩ := ht; rw [AV.mv, ne _ _ hj (by simp)]
  | func hl _ ih => rw [AV.mv, mvs_id (fun j a ha => ih j a _ ha (Array.getElem?_eq_getElem (i := j) (by rw [hl]; exact (List.getElem?_eq_some_iff.1 ha).1)))]
  | iface hn _ ih => rw [AV.mv, ih]
  | agg h1 hl _ ih => rw [AV.mv, mvs_id (fun j a ha => ih j a _ ha (Array.getElem?_eq_getElem (i := j) (by rw [hl]; exact (List.getElem?_eq_some_iff.1 ha).1)))]
  | tuple hl _ ih => rw [AV.mv, mvs_id (fun j a ha => ih j a _ ha (Array.getElem?_eq_getElem (i := j) (by rw [hl]; exact (List.getElem?_eq_some_iff.1 ha).1)))]

/-- Own memory under other names. -/
structure Named (σ : List (Option Nat)) (h : H) (σ2 : List (Option Nat)) (h2 : H) (i k : Nat) : Prop where
  to : ∀ (j : Nat) x, h[j]? = some x → x ≠ .void → σ2[if j = i then k else j]? = σ[j]? ∧ h2[if j = i then k else j]? = some (x.mv i k)
  back : ∀ (j : Nat) y, h2[j]? = some y → y ≠ .void → ∃ m x, h[m]? = some x ∧ x ≠ .void ∧ j = (if m = i then k else m) ∧ y = x.mv i k
  len : σ2.length = h2.length
theorem mv_void {i k : Nat} {x : VObj} : x.mv i k ≠ .void ↔ x ≠ .void := by
  cases x with
  | cells cs st => cases st <;> simp [VObj.mv]
  | _ => simp [VObj.mv]
theorem mv_cells {i k : Nat} {x : VObj} {cs : List AV} {st : OSt} (h : x.mv i k = .cells cs st) : ∃ cs0, x = .cells cs0 st ∧ (st ≠ .dead → cs = AV.mvs i k cs0) := by
  cases x with
  | cells c0 s0 => cases s0 <;> simp only [VObj.mv, VObj.cells.injEq] at h <;> obtain ⟨rfl, rfl⟩ := h <;> exact ⟨_, rfl, fun e => by first | rfl | exact absurd rfl e⟩
  | _ => simp [VObj.mv] at h
theorem mv_tok {i k : Nat} {x : VObj} {u : Nat} {ty : TypeId} (h : x.mv i k = .tok u ty) : x = .tok u ty := by
  cases x with
  | cells c0 s0 => cases s0 <;> simp [VObj.mv] at h
  | _ => simp [VObj.mv] at h ⊢ <;> exact h
theorem mv_loop {i k : Nat} {x : VObj} {L : LoopV} {st : LSt} (h : x.mv i k = .loop L st) : x = .loop L st := by
  cases x with
  | cells c0 s0 => cases s0 <;> simp [VObj.mv] at h
  | _ => simp [VObj.mv] at h ⊢ <;> exact h
theorem mv_map {i k : Nat} {x : VObj} {es : List (AV × AV)} (h : x.mv i k = .map es) : ∃ es0, x = .map es0 ∧ es = es0.map fun e => (e.1, e.2.mv i k) := by
  cases x with
  | cells c0 s0 => cases s0 <;> simp [VObj.mv] at h
  | map e0 => simp only [VObj.mv, VObj.map.injEq] at h; exact ⟨_, rfl, h.symm⟩
  | _ => simp [VObj.mv] at h
theorem mv_gone {i k : Nat} {x : VObj} : (x.mv i k).gone = x.gone := by
  cases x with
  | cells c0 s0 => cases s0 <;> rfl
  | _ => rfl

section
variable {P : Program} {B : Nat} {A0 : Nat → Nat → Prop} {σ σ2 : List (Option Nat)} {h h2 : H} {w : World} {i k : Nat}
theorem Named.alw (nm : Named σ h σ2 h2 i k) {b o : Nat} (ha : Alw P B A0 σ h b o) : Alw P B A0 σ2 h2 b o := by
  unfold Alw at *
  split
  · rename_i hB; simpa [hB] using ha
  · rename_i hB
    rw [if_neg hB] at ha
    refine ⟨fun j cs hj hs => ?_, fun j u t hj hs => ?_⟩
    · obtain ⟨m, x, hm, hv, rfl, e⟩ := nm.back j _ hj (by simp)
      obtain ⟨cs0, rfl, _⟩ := mv_cells e.symm
      exact ha.1 m cs0 hm (by rw [← (nm.to m _ hm hv).1]; exact hs)
    · obtain ⟨m, x, hm, hv, rfl, e⟩ := nm.back j _ hj (by simp)
      have := mv_tok e.symm; subst this
      exact ha.2 m u t hm (by rw [← (nm.to m _ hm hv).1]; exact hs)
theorem Named.rel (nm : Named σ h σ2 h2 i k) {a : AV} {v : Value} (r : Rel P (Alw P B A0 σ h) σ h w a v) : Rel P (Alw P B A0 σ2 h2) σ2 h2 w (a.mv i k) v := by
  have mono : ∀ {a v}, IRel (Alw P B A0 σ h) w a v → IRel (Alw P B A0 σ2 h2) w a v := fun hd => hd.mono fun b o x ha hc => ⟨nm.alw ha, hc⟩
  induction r with
  | data hd => rw [mv_irel i k hd]; exact .data (mono hd)
  | yield hs hk =>
    obtain ⟨L, st, hj⟩ := hk
    obtain ⟨e1, e2⟩ := nm.to _ _ hj (by simp)
    rw [AV.mv]; exact .yield (e1.trans hs) ⟨L, st, e2⟩
  | mp hs hk =>
    obtain ⟨es, hj⟩ := hk
    obtain ⟨e1, e2⟩ := nm.to _ _ hj (by simp)
    rw [AV.mv]; exact .mp (e1.trans hs) ⟨_, e2⟩
  | ptr hs hk =>
    obtain ⟨cs, st, hj⟩ := hk
    obtain ⟨e1, e2⟩ := nm.to _ _ hj (by simp)
    rw [AV.mv]; exact .ptr (e1.trans hs) (by cases st <;> exact ⟨_, _, e2⟩)
  | msl hs hk h0 hc hm hcap hw =>
    obtain ⟨cs, st, hj⟩ := hk
    obtain ⟨e1, e2⟩ := nm.to _ _ hj (by simp)
    rw [AV.mv]; exact .msl (e1.trans hs) (by cases st <;> exact ⟨_, _, e2⟩) h0 hc hm hcap hw
  | full hd => rw [AV.mv]; exact .full (mono hd); all_goals simp
  | tok hd ht =>
    obtain ⟨u, ty, hj, h2', h3⟩ := ht
    obtain ⟨e1, e2⟩ := nm.to _ _ hj (by simp)
    rw [AV.mv]
    refine .tok (mono hd) ⟨u, ty, e2, h2', fun e => ?_⟩
    rcases h3 e with ⟨k1, k2, k3⟩ | ⟨b, cap, vs, sz, k1, k2⟩
    · exact .inl ⟨k1, e1.trans k2, k3⟩
    · exact .inr ⟨b, cap, vs, sz, e1.trans k1, k2⟩
  | func hl _ ih =>
    rw [AV.mv]
    refine .func (by rw [mvs_length]; exact hl) fun j a v ha hv => ?_
    rw [mvs_get] at ha
    obtain ⟨a0, h0, rfl⟩ := Option.map_eq_some_iff.1 ha
    exact ih j a0 v h0 hv
  | iface hn _ ih => rw [AV.mv]; exact .iface (by rw [mv_notTuple]; exact hn) ih
  | agg h1 hl _ ih =>
    rw [AV.mv]
    refine .agg (fun c hc => ?_) (by rw [mvs_length]; exact hl) fun j a v ha hv => ?_
    · obtain ⟨j, hj, rfl⟩ := List.getElem_of_mem hc
      have := List.getElem?_eq_getElem hj
      rw [mvs_get] at this
      obtain ⟨a0, h0, e⟩ := Option.map_eq_some_iff.1 this
      rw [← e, mv_one]; exact h1 a0 (List.mem_of_getElem? h0)
    · rw [mvs_get] at ha
      obtain ⟨a0, h0, rfl⟩ := Option.map_eq_some_iff.1 ha
      exact ih j a0 v h0 hv
  | tuple hl _ ih =>
    rw [AV.mv]
    refine .tuple (by rw [mvs_length]; exact hl) fun j a v ha hv => ?_
    rw [mvs_get] at ha
    obtain ⟨a0, h0, rfl⟩ := Option.map_eq_some_iff.1 ha
    exact ih j a0 v h0 hv
theorem Named.hrel (nm : Named σ h σ2 h2 i k) (hr : HRel P B A0 σ h w) (hl : ∀ (j : Nat) L st, h[j]? = some (.loop L st) → st ≠ .over → ∀ t, (L.s.get t).mv i k = L.s.get t) : HRel P B A0 σ2 h2 w := by
  refine ⟨hr.base, nm.len, fun j cs st hj hd => ?_, fun j u t hj => ?_, fun j L st hj hd => ?_, fun j es hj => ?_, fun j1 j2 b x y h1 h2' s1 s2 d1 d2 => ?_, hr.glob⟩
  · obtain ⟨m, x, hm, hv, rfl, e⟩ := nm.back j _ hj (by simp)
    obtain ⟨cs0, rfl, e2⟩ := mv_cells e.symm
    have e2 := e2 hd; subst e2
    obtain ⟨b, vs, ty, k1, k2, k3, k4, k5, k6⟩ := hr.cells m cs0 st hm hd
    refine ⟨b, vs, ty, (nm.to m _ hm hv).1.trans k1, k2, k3, by rw [mvs_length]; exact k4, fun c hc => ?_, fun q c v hc hv' => ?_⟩
    · obtain ⟨q, hq, rfl⟩ := List.getElem_of_mem hc
      have := List.getElem?_eq_getElem hq
      rw [mvs_get] at this
      obtain ⟨a0, h0, e⟩ := Option.map_eq_some_iff.1 this
      rw [← e, mv_one]; exact k5 a0 (List.mem_of_getElem? h0)
    · rw [mvs_get] at hc
      obtain ⟨a0, h0, rfl⟩ := Option.map_eq_some_iff.1 hc
      exact nm.rel (k6 q a0 v h0 hv')
  · obtain ⟨m, x, hm, hv, rfl, e⟩ := nm.back j _ hj (by simp)
    have := mv_tok e.symm; subst this
    rw [(nm.to m _ hm hv).1]
    exact hr.tok m u t hm
  · obtain ⟨m, x, hm, hv, rfl, e⟩ := nm.back j _ hj (by simp)
    have := mv_loop e.symm; subst this
    obtain ⟨l, fn, tm, D, k1, k2, k3, k4, k5⟩ := hr.loop m L st hm hd
    exact ⟨l, fn, tm, D, (nm.to m _ hm hv).1.trans k1, k2, k3, k4, fun t => by rw [← hl m L st hm hd t]; exact nm.rel (k5 t)⟩
  · obtain ⟨m, x, hm, hv, rfl, e⟩ := nm.back j _ hj (by simp)
    obtain ⟨es0, rfl, rfl⟩ := mv_map e.symm
    obtain ⟨b, mes, clock, k1, k2, k3, k4, k5⟩ := hr.map m es0 hm
    refine ⟨b, mes, clock, (nm.to m _ hm hv).1.trans k1, k2, k3, by simpa using k4, fun q e me he hme => ?_⟩
    rw [List.getElem?_map] at he
    obtain ⟨e0, h0, rfl⟩ := Option.map_eq_some_iff.1 he
    obtain ⟨z1, z2, z3⟩ := k5 q e0 me h0 hme
    exact ⟨z1, by rw [mv_notTuple]; exact z2, nm.rel z3⟩
  · obtain ⟨m1, x1, hm1, hv1, rfl, e1⟩ := nm.back j1 _ h1 (fun e => by subst e; cases d1)
    obtain ⟨m2, x2, hm2, hv2, rfl, e2⟩ := nm.back j2 _ h2' (fun e => by subst e; cases d2)
    rw [(nm.to m1 _ hm1 hv1).1] at s1
    rw [(nm.to m2 _ hm2 hv2).1] at s2
    rw [hr.uniq m1 m2 b x1 x2 hm1 hm2 s1 s2 (by rw [← mv_gone (i := i) (k := k), ← e1]; exact d1) (by rw [← mv_gone (i := i) (k := k), ← e2]; exact d2)]
end
end Go.V
