/- Each operation's outcome hangs on its footprint alone. -/
import Derived.Test.YtdoegkegjaadeaaGreatDoorQV30
namespace Go.V
open Go

/-- An outcome, and the same from memory that agrees on T. -/
def Same (T : List Nat) (h : H) (F : H → Option (AV × H)) (r : AV) (h' : H) : Prop :=
  Fr T h h' ∧ ∀ h2, h2.length = h.length → (∀ id ∈ T, h2[id]? = h[id]?) → ∃ h2', F h2 = some (r, h2') ∧ Loc2 T h h' h2 h2'
theorem Same.here {T : List Nat} {h : H} {F : H → Option (AV × H)} {r : AV} (hF : ∀ h2, h2.length = h.length → (∀ id ∈ T, h2[id]? = h[id]?) → F h2 = some (r, h2)) : Same T h F r h :=
  ⟨.refl h, fun h2 hl ha => ⟨h2, hF h2 hl ha, .refl hl ha⟩⟩
theorem Same.push {T : List Nat} {h : H} {F : H → Option (AV × H)} {r : AV} {x : VObj} (hx : ∀ L st, x ≠ .loop L st) (hF : ∀ h2, h2.length = h.length → (∀ id ∈ T, h2[id]? = h[id]?) → F h2 = some (r, h2 ++ [x])) : Same T h F r (h ++ [x]) :=
  ⟨(Fr.refl h).push hx, fun h2 hl ha => ⟨_, hF h2 hl ha, (Loc2.refl hl ha).push x⟩⟩
theorem Same.set {T : List Nat} {h : H} {F : H → Option (AV × H)} {r : AV} {id : Nat} {x : VObj} (hid : id ∈ T) (hx : ∀ L st, x ≠ .loop L st) (hF : ∀ h2, h2.length = h.length → (∀ id ∈ T, h2[id]? = h[id]?) → F h2 = some (r, h2.set id x)) : Same T h F r (h.set id x) :=
  ⟨(Fr.refl h).set hid hx, fun h2 hl ha => ⟨_, hF h2 hl ha, (Loc2.refl hl ha).set id x⟩⟩
theorem Same.setPush {T : List Nat} {h : H} {F : H → Option (AV × H)} {r : AV} {id : Nat} {x y : VObj} (hid : id ∈ T) (hx : ∀ L st, x ≠ .loop L st) (hy : ∀ L st, y ≠ .loop L st) (hF : ∀ h2, h2.length = h.length → (∀ id ∈ T, h2[id]? = h[id]?) → F h2 = some (r, h2.set id x ++ [y])) : Same T h F r (h.set id x ++ [y]) :=
  ⟨((Fr.refl h).set hid hx).push hy, fun h2 hl ha => ⟨_, hF h2 hl ha, ((Loc2.refl hl ha).set id x).push y⟩⟩

theorem elemsV_loc {T : List Nat} {h h2 : H} {x : AV} (ha : ∀ id ∈ T, h2[id]? = h[id]?) (hx : ∀ i ∈ mslId x, i ∈ T) : elemsV h2 x = elemsV h x := by
  cases x with
  | msl id off sz len cap => simp only [elemsV]; rw [ha id (hx id (by simp [mslId]))]
  | _ => rfl
theorem srcV_loc {T : List Nat} {h h2 : H} {x : AV} {sz : Nat} (ha : ∀ id ∈ T, h2[id]? = h[id]?) (hx : ∀ i ∈ mslId x, i ∈ T) : srcV h2 sz x = srcV h sz x := by
  cases x with
  | msl id off sz' len cap => simp only [srcV]; rw [ha id (hx id (by simp [mslId]))]
  | _ => rfl
theorem appendV_loc {P : Program} {T : List Nat} {h h' : H} {t : TypeId} {s x r : AV} (hs : ∀ i ∈ mslId s ++ tokId s ++ mslId x, i ∈ T) (hh : appendV P h t s x = some (r, h')) : Same T h (fun h => appendV P h t s x) r h' := by
  have hx : ∀ i ∈ mslId x, i ∈ T := fun i hi => hs i (by simp [hi])
  unfold appendV at hh
  split at hh <;> first | (cases hh; done) | skip
  rename_i e ht
  split at hh <;> first | (cases hh; done) | skip
  rename_i sz by_ ys hsz hby hys
  split at hh <;> first | (cases hh; done) | skip
  rename_i hg
  have F : ∀ h2 : H, (∀ id ∈ T, h2[id]? = h[id]?) → elemsV h2 x = some ys := fun h2 ha => (elemsV_loc ha hx).trans hys
  split at hh <;> first | (cases hh; done) | skip
  · rename_i xs ext
    split at hh <;> first | (cases hh; done) | skip
    rename_i hzx
    split at hh <;> first | (cases hh; done) | skip
    rename_i hfit
    split at hh
    · split at hh
      · simp only [Option.some.injEq, Prod.mk.injEq] at hh; obtain ⟨rfl, rfl⟩ := hh
        exact .here fun h2 hl ha => by simp only [appendV, ht, hsz, hby, F h2 ha]; rw [if_neg hg, if_neg hzx, if_neg hfit]
      · rename_i hne
        simp only [Option.some.injEq, Prod.mk.injEq] at hh; obtain ⟨rfl, rfl⟩ := hh
        refine .push (by simp) fun h2 hl ha => ?_
        simp only [appendV, ht, hsz, hby, F h2 ha]; rw [if_neg hg, if_neg hzx, if_neg hfit, hl]
    · rename_i tk
      split at hh <;> first | (cases hh; done) | skip
      rename_i used ty htk
      split at hh <;> first | (cases hh; done) | skip
      rename_i hc
      simp only [Option.some.injEq, Prod.mk.injEq] at hh; obtain ⟨rfl, rfl⟩ := hh
      have hin : tk ∈ T := hs tk (by simp [tokId])
      refine .set hin (by simp) fun h2 hl ha => ?_
      simp only [appendV, ht, hsz, hby, F h2 ha, ha tk hin, htk]; rw [if_neg hg, if_neg hzx, if_neg hfit, if_pos hc]
    · split at hh <;> first | (cases hh; done) | skip
      simp only [Option.some.injEq, Prod.mk.injEq] at hh; obtain ⟨rfl, rfl⟩ := hh
      exact .here fun h2 hl ha => by simp only [appendV, ht, hsz, hby, F h2 ha]; rw [if_neg hg, if_neg hzx, if_neg hfit]
  · rename_i id off sz' len c
    split at hh <;> first | (cases hh; done) | skip
    rename_i cs hid
    split at hh <;> first | (cases hh; done) | skip
    rename_i hc
    simp only [Option.some.injEq, Prod.mk.injEq] at hh; obtain ⟨rfl, rfl⟩ := hh
    have hin : id ∈ T := hs id (by simp [mslId])
    refine .set hin (by simp) fun h2 hl ha => ?_
    simp only [appendV, ht, hsz, hby, F h2 ha, ha id hin, hid]; rw [if_neg hg, if_pos hc]
theorem appendN_loc {P : Program} {T : List Nat} {h h' : H} {t : TypeId} {s x r : AV} (hs : ∀ i ∈ mslId s ++ tokId s ++ mslId x, i ∈ T) (hh : appendN P h t s x = some (r, h')) : Same T h (fun h => appendN P h t s x) r h' := by
  have hx : ∀ i ∈ mslId x, i ∈ T := fun i hi => hs i (by simp [hi])
  unfold appendN at hh
  split at hh <;> first | (cases hh; done) | skip
  rename_i e ht
  split at hh <;> first | (cases hh; done) | skip
  rename_i sz by_ hsz hby
  split at hh <;> first | (cases hh; done) | skip
  rename_i hg
  split at hh <;> first | (cases hh; done) | skip
  rename_i ys m hys
  have F : ∀ h2 : H, (∀ id ∈ T, h2[id]? = h[id]?) → srcV h2 sz x = some (ys, m) := fun h2 ha => (srcV_loc ha hx).trans hys
  split at hh <;> first | (cases hh; done) | skip
  · rename_i xs
    split at hh
    · rename_i hm
      simp only [Option.some.injEq, Prod.mk.injEq] at hh; obtain ⟨rfl, rfl⟩ := hh
      exact .here fun h2 hl ha => by simp only [appendN, ht, hsz, hby, F h2 ha]; rw [if_neg hg, if_pos hm]
    · rename_i hm
      split at hh <;> first | (cases hh; done) | skip
      rename_i hc
      simp only [Option.some.injEq, Prod.mk.injEq] at hh; obtain ⟨rfl, rfl⟩ := hh
      refine .push (by simp) fun h2 hl ha => ?_
      simp only [appendN, ht, hsz, hby, F h2 ha]; rw [if_neg hg, if_neg hm, if_pos hc, hl]
  · rename_i id off sz' n c
    split at hh
    · rename_i hm
      simp only [Option.some.injEq, Prod.mk.injEq] at hh; obtain ⟨rfl, rfl⟩ := hh
      exact .here fun h2 hl ha => by simp only [appendN, ht, hsz, hby, F h2 ha]; rw [if_neg hg, if_pos hm]
    · rename_i hm
      split at hh <;> first | (cases hh; done) | skip
      rename_i cs hid
      split at hh <;> first | (cases hh; done) | skip
      rename_i hc
      simp only [Option.some.injEq, Prod.mk.injEq] at hh; obtain ⟨rfl, rfl⟩ := hh
      have hin : id ∈ T := hs id (by simp [mslId])
      refine .setPush hin (by simp) (by simp) fun h2 hl ha => ?_
      simp only [appendN, ht, hsz, hby, F h2 ha, ha id hin, hid]; rw [if_neg hg, if_neg hm, if_pos hc, hl]
theorem appendN_none {P : Program} {T : List Nat} {h h2 : H} {t : TypeId} {s x : AV} (hs : ∀ i ∈ mslId s ++ tokId s ++ mslId x, i ∈ T) (hl : h2.length = h.length) (ha : ∀ id ∈ T, h2[id]? = h[id]?) (hh : appendN P h t s x = none) : appendN P h2 t s x = none := by
  cases hx : appendN P h2 t s x with
  | none => rfl
  | some z =>
    obtain ⟨r, h'⟩ := z
    obtain ⟨h3, e, _⟩ := (appendN_loc hs hx).2 h hl.symm (fun id hid => (ha id hid).symm)
    dsimp only at e
    rw [hh] at e; cases e
theorem appendV_none {P : Program} {T : List Nat} {h h2 : H} {t : TypeId} {s x : AV} (hs : ∀ i ∈ mslId s ++ tokId s ++ mslId x, i ∈ T) (hl : h2.length = h.length) (ha : ∀ id ∈ T, h2[id]? = h[id]?) (hh : appendV P h t s x = none) : appendV P h2 t s x = none := by
  cases hx : appendV P h2 t s x with
  | none => rfl
  | some z =>
    obtain ⟨r, h'⟩ := z
    obtain ⟨h3, e, _⟩ := (appendV_loc hs hx).2 h hl.symm (fun id hid => (ha id hid).symm)
    dsimp only at e
    rw [hh] at e; cases e
theorem appendW_loc {P : Program} {T : List Nat} {wr : Bool} {h h' : H} {t : TypeId} {s x r : AV} (hs : ∀ i ∈ mslId s ++ tokId s ++ mslId x, i ∈ T) (hh : appendW P wr h t s x = some (r, h')) : Same T h (fun h => appendW P wr h t s x) r h' := by
  unfold appendW at hh
  split at hh
  · rename_i hw
    obtain ⟨f, k⟩ := appendV_loc hs hh
    exact ⟨f, fun h2 hl ha => let ⟨h3, e, l⟩ := k h2 hl ha; ⟨h3, by simp only [appendW]; rw [if_pos hw]; exact e, l⟩⟩
  · rename_i hw
    split at hh
    · rename_i hk
      split at hh
      · rename_i z hz
        simp only [Option.some.injEq] at hh; subst hh
        obtain ⟨f, k⟩ := appendV_loc hs hz
        exact ⟨f, fun h2 hl ha => let ⟨h3, e, l⟩ := k h2 hl ha; ⟨h3, by dsimp only at e; simp only [appendW]; rw [if_neg hw, if_pos hk, e], l⟩⟩
      · rename_i hn
        obtain ⟨f, k⟩ := appendN_loc hs hh
        exact ⟨f, fun h2 hl ha => let ⟨h3, e, l⟩ := k h2 hl ha; ⟨h3, by dsimp only at e; simp only [appendW]; rw [if_neg hw, if_pos hk, appendV_none hs hl ha hn]; exact e, l⟩⟩
    · rename_i hk
      split at hh
      · rename_i z hz
        simp only [Option.some.injEq] at hh; subst hh
        obtain ⟨f, k⟩ := appendN_loc hs hz
        exact ⟨f, fun h2 hl ha => let ⟨h3, e, l⟩ := k h2 hl ha; ⟨h3, by dsimp only at e; simp only [appendW]; rw [if_neg hw, if_neg hk, e], l⟩⟩
      · rename_i hn
        obtain ⟨f, k⟩ := appendV_loc hs hh
        exact ⟨f, fun h2 hl ha => let ⟨h3, e, l⟩ := k h2 hl ha; ⟨h3, by dsimp only at e; simp only [appendW]; rw [if_neg hw, if_neg hk, appendN_none hs hl ha hn]; exact e, l⟩⟩

/-- What is said of two memories that went the same way so far. -/
def Both (T : List Nat) (h : H) (hz : H) (h2 hz2 : H) : Prop := Fr T h hz ∧ Loc2 T h hz h2 hz2
theorem Both.push {T : List Nat} {h hz h2 hz2 : H} (b : Both T h hz h2 hz2) {x : VObj} (hx : ∀ L st, x ≠ .loop L st) : Both T h (hz ++ [x]) h2 (hz2 ++ [x]) := ⟨b.1.push hx, b.2.push x⟩
theorem adopt_loc {P : Program} {m : Mode} {T : List Nat} {h1 h h' h2 : H} {r r' : AV} (b : Both T h h h2 h2) (hl : h2.length = h.length) (hh : adopt P m h1 h r = some (r', h')) : ∃ h2', adopt P m h1 h2 r = some (r', h2') ∧ Both T h h' h2 h2' := by
  unfold adopt at hh
  split at hh
  · split at hh <;> first | (cases hh; done) | skip
    rename_i used ty ht
    split at hh <;> first | (cases hh; done) | skip
    rename_i hc
    split at hh <;> first | (cases hh; done) | skip
    · simp only [Option.some.injEq, Prod.mk.injEq] at hh; obtain ⟨rfl, rfl⟩ := hh
      exact ⟨_, by simp only [adopt, ht]; rw [if_pos hc, hl], b.push (by simp)⟩
    · split at hh
      · simp only [Option.some.injEq, Prod.mk.injEq] at hh; obtain ⟨rfl, rfl⟩ := hh
        exact ⟨_, by simp only [adopt, ht]; rw [if_pos hc], b⟩
      · rename_i hne
        simp only [Option.some.injEq, Prod.mk.injEq] at hh; obtain ⟨rfl, rfl⟩ := hh
        refine ⟨_, ?_, b.push (by simp)⟩
        simp only [adopt, ht]; rw [if_pos hc, hl]
  · simp only [Option.some.injEq, Prod.mk.injEq] at hh; obtain ⟨rfl, rfl⟩ := hh
    exact ⟨_, rfl, b⟩
  · split at hh <;> first | (cases hh; done) | skip
    rename_i cs hid
    split at hh <;> first | (cases hh; done) | skip
    rename_i hc
    split at hh <;> first | (cases hh; done) | skip
    · simp only [Option.some.injEq, Prod.mk.injEq] at hh; obtain ⟨rfl, rfl⟩ := hh
      exact ⟨_, by simp only [adopt, hid]; rw [if_pos hc, hl], b.push (by simp)⟩
    · simp only [Option.some.injEq, Prod.mk.injEq] at hh; obtain ⟨rfl, rfl⟩ := hh
      exact ⟨_, by simp only [adopt, hid]; rw [if_pos hc], b⟩
  · cases hh
theorem adoptM_loc {T : List Nat} {h1 h hz h' h2 hz2 : H} {r r' : AV} (b : Both T h hz h2 hz2) (hh : adoptM h1 hz r = some (r', h')) : ∃ h2', adoptM h1 hz2 r = some (r', h2') ∧ Both T h h' h2 h2' := by
  unfold adoptM at hh
  split at hh <;> first | (cases hh; done) | skip
  split at hh <;> first | (cases hh; done) | skip
  rename_i cs hid
  split at hh <;> first | (cases hh; done) | skip
  rename_i cs' hs
  split at hh <;> first | (cases hh; done) | skip
  rename_i hc
  simp only [Option.some.injEq, Prod.mk.injEq] at hh; obtain ⟨rfl, rfl⟩ := hh
  exact ⟨_, by simp only [adoptM, hid, hs]; rw [if_pos hc, b.2.len], b.push (by simp)⟩
theorem adoptM_none {T : List Nat} {h1 h hz h2 hz2 : H} {r : AV} (_b : Both T h hz h2 hz2) (hh : adoptM h1 hz r = none) : adoptM h1 hz2 r = none := by
  unfold adoptM at hh ⊢
  split
  · dsimp only at hh ⊢
    split <;> first | rfl | skip
    rename_i cs hid
    rw [hid] at hh
    dsimp only at hh
    split <;> first | rfl | skip
    rename_i cs' hs
    rw [hs] at hh
    dsimp only at hh
    split
    · rename_i hc; rw [if_pos hc] at hh; cases hh
    · rfl
  · rfl
theorem adopt_none {P : Program} {m : Mode} {T : List Nat} {h1 h h2 : H} {r : AV} (b' : Both T h2 h2 h h) (hl : h2.length = h.length) (hh : adopt P m h1 h r = none) : adopt P m h1 h2 r = none := by
  cases hx : adopt P m h1 h2 r with
  | none => rfl
  | some z =>
    obtain ⟨r', h'⟩ := z
    obtain ⟨_, e, _⟩ := adopt_loc b' hl.symm hx
    rw [hh] at e; cases e
theorem adoptR_loc {P : Program} {m : Mode} {T : List Nat} {h1 h h' h2 : H} {r r' : AV} (b : Both T h h h2 h2) (hl : h2.length = h.length) (hh : adoptR P m h1 h r = some (r', h')) : ∃ h2', adoptR P m h1 h2 r = some (r', h2') ∧ Both T h h' h2 h2' := by
  unfold adoptR at hh
  split at hh
  · split at hh <;> first | (cases hh; done) | skip
    rename_i x' hx ha
    split at hh <;> first | (cases hh; done) | skip
    rename_i hc
    simp only [Option.some.injEq, Prod.mk.injEq] at hh; obtain ⟨rfl, rfl⟩ := hh
    obtain ⟨h3, e, l⟩ := adopt_loc b hl ha
    exact ⟨h3, by simp only [adoptR, e]; rw [if_pos hc], l⟩
  · rename_i hno
    obtain ⟨h3, e, l⟩ := adopt_loc b hl hh
    refine ⟨h3, ?_, l⟩
    unfold adoptR
    split
    · exact absurd rfl (hno _ _)
    · exact e
theorem adoptR_none {P : Program} {m : Mode} {T : List Nat} {h1 h h2 : H} {r : AV} (b' : Both T h2 h2 h h) (hl : h2.length = h.length) (hh : adoptR P m h1 h r = none) : adoptR P m h1 h2 r = none := by
  cases hx : adoptR P m h1 h2 r with
  | none => rfl
  | some z =>
    obtain ⟨r', h'⟩ := z
    obtain ⟨_, e, _⟩ := adoptR_loc b' hl.symm hx
    rw [hh] at e; cases e
theorem adoptD_ownM {h1 hz : H} {r : AV} (hno : ∀ x y, r = .tuple [x, y] → False) : adoptD .ownM h1 hz r = adoptM h1 hz r := by
  unfold adoptD
  split
  · exact (hno _ _ rfl).elim
  · rfl
  · simp_all
theorem adoptD_loc {m : Mode} {T : List Nat} {h1 h hz h' h2 hz2 : H} {r r' : AV} (b : Both T h hz h2 hz2) (hh : adoptD m h1 hz r = some (r', h')) : ∃ h2', adoptD m h1 hz2 r = some (r', h2') ∧ Both T h h' h2 h2' := by
  unfold adoptD at hh
  split at hh <;> first | (cases hh; done) | skip
  · split at hh <;> first | (cases hh; done) | skip
    rename_i hy
    split at hh <;> first | (cases hh; done) | skip
    rename_i x' h3 hx
    simp only [Option.some.injEq, Prod.mk.injEq] at hh; obtain ⟨rfl, rfl⟩ := hh
    obtain ⟨h4, e, l⟩ := adoptM_loc b hx
    exact ⟨h4, by simp only [adoptD, e]; rw [if_pos hy], l⟩
  · rename_i hno
    obtain ⟨h4, e, l⟩ := adoptM_loc b hh
    exact ⟨h4, by rw [adoptD_ownM hno]; exact e, l⟩
theorem adoptD_none {m : Mode} {T : List Nat} {h1 h hz h2 hz2 : H} {r : AV} (b : Both T h hz h2 hz2) (hh : adoptD m h1 hz r = none) : adoptD m h1 hz2 r = none := by
  cases m with
  | ownM =>
    by_cases hr : ∃ x y, r = .tuple [x, y]
    · obtain ⟨x, y, rfl⟩ := hr
      simp only [adoptD] at hh ⊢
      split
      · rename_i hy
        rw [if_pos hy] at hh
        cases ha : adoptM h1 hz x with
        | none => rw [adoptM_none b ha]
        | some z => rw [ha] at hh; cases hh
      · rfl
    · have hno : ∀ x y, r = .tuple [x, y] → False := fun x y e => hr ⟨x, y, e⟩
      rw [adoptD_ownM hno] at hh ⊢
      exact adoptM_none b hh
  | _ => simp only [adoptD]
theorem stripV_loc {T : List Nat} {h1 h hz h' h2 hz2 : H} {r r' : AV} (b0 : Both T h h h2 h2) (b : Both T h hz h2 hz2) (hh : stripV r h1 h hz = some (r', h')) : ∃ h2', stripV r h1 h2 hz2 = some (r', h2') ∧ Both T h h' h2 h2' := by
  unfold stripV at hh
  split at hh <;> first | (cases hh; done) | skip
  rename_i r2 hs
  simp only [Option.some.injEq, Prod.mk.injEq] at hh; obtain ⟨rfl, rfl⟩ := hh
  refine ⟨if scal r2 = true then h2 else hz2, by simp only [stripV, hs], ?_⟩
  split
  · exact b0
  · exact b
theorem finishV_loc {P : Program} {m : Mode} {T : List Nat} {h1 h hz h' h2 hz2 : H} {r r' : AV} (b0 : Both T h h h2 h2) (b0' : Both T h2 h2 h h) (hl : h2.length = h.length) (b : Both T h hz h2 hz2) (hh : finishV P m r h1 h hz = some (r', h')) :
    ∃ h2', finishV P m r h1 h2 hz2 = some (r', h2') ∧ Both T h h' h2 h2' := by
  have own : ∀ m, (match adoptR P m h1 h r with
      | some z => some z
      | none => match adoptD m h1 hz r with
        | some z => some z
        | none => stripV r h1 h hz) = some (r', h') → ∃ h2', (match adoptR P m h1 h2 r with
      | some z => some z
      | none => match adoptD m h1 hz2 r with
        | some z => some z
        | none => stripV r h1 h2 hz2) = some (r', h2') ∧ Both T h h' h2 h2' := fun m hh => by
    cases ha : adoptR P m h1 h r with
    | some z =>
      rw [ha] at hh
      simp only [Option.some.injEq] at hh; subst hh
      obtain ⟨h3, e, l⟩ := adoptR_loc b0 hl ha
      exact ⟨h3, by rw [e], l⟩
    | none =>
      rw [ha] at hh
      rw [adoptR_none b0' hl ha]
      dsimp only at hh ⊢
      cases hd : adoptD m h1 hz r with
      | some z =>
        rw [hd] at hh
        simp only [Option.some.injEq] at hh; subst hh
        obtain ⟨h3, e, l⟩ := adoptD_loc b hd
        exact ⟨h3, by rw [e], l⟩
      | none =>
        rw [hd] at hh
        rw [adoptD_none b hd]
        exact stripV_loc b0 b hh
  unfold finishV at hh ⊢
  split at hh
  · exact own _ hh
  · exact own _ hh
  · exact stripV_loc b0 b hh
theorem applyCall_loc {C : Cfg} {run : FuncId → List AV → H → Option (AV × H)} {f : FuncId} {args : List AV} {h h' : H} {r : AV} (hm : C.mode f ≠ .openH) (hq : C.mode f ≠ .openQ) (hf0 : C.mode f ≠ .openF) (hh : applyCall C run f args h = some (r, h')) : Same (reachs h deep args) h (fun h => applyCall C run f args h) r h' := by
  have key : ∀ h2 : H, h2.length = h.length → (∀ id ∈ reachs h deep args, h2[id]? = h[id]?) → ∃ h2', applyCall C run f args h2 = some (r, h2') ∧ Both (reachs h deep args) h h' h2 h2' := by
    intro h2 hl ha
    obtain ⟨e1, e2, fr, lc⟩ := sent_loc hl ha
    unfold applyCall at hh ⊢
    split at hh
    · exact absurd ‹_› hm
    · exact absurd ‹_› hq
    · exact absurd ‹_› hf0
    · rename_i m hmm
      split at hh <;> first | (cases hh; done) | skip
      rename_i as hsn
      split at hh <;> first | (cases hh; done) | skip
      rename_i r1 h1 hf
      · rw [e2, hsn]
        dsimp only
        rw [hf]
        dsimp only
        rw [e1]
        exact finishV_loc ⟨.refl h, .refl hl ha⟩ ⟨.refl h2, .refl hl.symm fun id hid => (ha id hid).symm⟩ hl ⟨fr, lc⟩ hh
  refine ⟨?_, fun h2 hl ha => let ⟨h3, e, b⟩ := key h2 hl ha; ⟨h3, e, b.2⟩⟩
  obtain ⟨_, _, b⟩ := key h rfl (fun _ _ => rfl)
  exact b.1
end Go.V
