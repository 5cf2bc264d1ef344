/- A region whose order is drawn, with a place of its own for each new object: whatever the order, it comes to what the text's order comes to. -/
import Derived.Test.YtdoegkegjaadeaaGreatDoorQV31
namespace Go.V
open Go

theorem foot_congr {C : Cfg} {s s' : PT} {h : H} {o : Oper} (hh : ∀ x ∈ o.op.operands.toList, ev s x = ev s' x) : foot C s h o = foot C s' h o := by
  unfold foot
  cases ho : o.op <;> rw [ho] at hh <;> simp only [Op.operands, Call.operands] at hh ⊢
  case call c =>
    obtain ⟨callee, args, argTypes⟩ := c
    cases callee with
    | builtin b =>
      have h' : ∀ x ∈ args.toList, ev s x = ev s' x := fun x hx => hh x (by simpa using hx)
      cases b <;> simp only
      split
      · split
        · rename_i x y hargs
          rw [h' x (by rw [hargs]; simp), h' y (by rw [hargs]; simp)]
        · rfl
      · rfl
    | value f =>
      have h1 : ev s f = ev s' f := hh f (by simp)
      have h2 : evs s args.toList = evs s' args.toList := evs_congr (fun x hx => hh x (by simp at hx ⊢; exact .inr hx))
      simp only [h1, h2]
    | _ => rfl
  case buildSlice t len parts => rw [partsV_congr (fun x hx => hh x (by simpa using hx))]
  all_goals first
    | rfl
    | (simp only [List.mem_cons, List.not_mem_nil, or_false, forall_eq_or_imp, forall_eq] at hh; first | rw [hh] | rw [hh.1, hh.2] | rw [hh.1, hh.2.1, hh.2.2] | rw [hh.1])
theorem foot_loc {C : Cfg} {s : PT} {h h2 : H} {o : Oper} {T : List Nat} {wr : Bool} (hf : foot C s h o = some (T, wr)) (ha : ∀ id ∈ T, h2[id]? = h[id]?) : foot C s h2 o = some (T, wr) := by
  unfold foot at hf
  split at hf
  · rename_i hact
    split at hf <;> rename_i ho
    case h_10 =>
      split at hf <;> first | (cases hf; done) | skip
      rename_i l hl
      simp only [Option.some.injEq, Prod.mk.injEq] at hf; obtain ⟨rfl, rfl⟩ := hf
      unfold foot
      rw [if_pos hact, ho]; dsimp only; rw [hl]; dsimp only; rw [reachs_loc _ _ ha]
    case h_12 =>
      split at hf <;> first | (cases hf; done) | skip
      rename_i g captured l hg hl
      split at hf
      · rename_i hb
        split at hf <;> first | (cases hf; done) | skip
        rename_i hm hmq hmf
        simp only [Option.some.injEq, Prod.mk.injEq] at hf; obtain ⟨rfl, rfl⟩ := hf
        unfold foot
        rw [if_pos hact, ho]; dsimp only; rw [hg, hl]; dsimp only; rw [if_pos hb]
        split
        · exact absurd ‹_› hm
        · exact absurd ‹_› hmq
        · exact absurd ‹_› hmf
        · rw [reachs_loc _ _ ha]
      · rename_i hb
        unfold foot
        rw [if_pos hact, ho]; dsimp only; rw [hg, hl]; dsimp only; rw [if_neg hb]; exact hf
    all_goals first
      | (cases hf; done)
      | (unfold foot; rw [if_pos hact, ho]; exact hf)
  · rename_i hact
    unfold foot
    rw [if_neg hact]
    exact hf

theorem mapUpdateV_loc {P : Program} {h h' : H} {t : TypeId} {m k v : AV} (hm : mapUpdateV P h t m k v = some h') : ∃ id, id ∈ mpId m ∧ ∃ es, h' = h.set id (.map es) ∧ ∀ h2 : H, (∀ i ∈ mpId m, h2[i]? = h[i]?) → mapUpdateV P h2 t m k v = some (h2.set id (.map es)) := by
  unfold mapUpdateV at hm
  split at hm <;> first | (cases hm; done) | skip
  rename_i kt et id hu
  split at hm <;> first | (cases hm; done) | skip
  rename_i es hid
  split at hm <;> first | (cases hm; done) | skip
  rename_i hn
  have hmem : id ∈ mpId (.mp id) := by simp [mpId]
  split at hm
  · rename_i i hf
    split at hm <;> first | (cases hm; done) | skip
    rename_i e kv he hk
    split at hm <;> first | (cases hm; done) | skip
    rename_i ov ho
    split at hm <;> first | (cases hm; done) | skip
    rename_i hc
    simp only [Option.some.injEq] at hm; subst hm
    exact ⟨id, hmem, _, rfl, fun h2 ha => by simp only [mapUpdateV, hu, ha id hmem, hid, hf, he, hk, ho]; rw [if_neg hn, if_pos hc]⟩
  · rename_i hf
    split at hm <;> first | (cases hm; done) | skip
    rename_i hc
    simp only [Option.some.injEq] at hm; subst hm
    exact ⟨id, hmem, _, rfl, fun h2 ha => by simp only [mapUpdateV, hu, ha id hmem, hid, hf]; rw [if_neg hn, if_pos hc]⟩
  · cases hm
theorem opA_loc {C : Cfg} {run : FuncId → List AV → H → Option (AV × H)} {cf : FuncId} {s : PT} {o : Oper} {h h' : H} {r : AV} {T : List Nat} {wr : Bool} (hact : active o = true) (hf : foot C s h o = some (T, wr)) (hv : opA C run cf s h o = some (r, h')) :
    wr = true ∧ Same T h (fun h => opA C run cf s h o) r h' := by
  unfold foot at hf
  rw [if_pos hact] at hf
  unfold opA at hv
  split at hv
  · rename_i x ho
    rw [ho] at hf
    simp only [Option.some.injEq, Prod.mk.injEq] at hf; obtain ⟨rfl, rfl⟩ := hf
    refine ⟨rfl, ?_⟩
    split at hv
    · rename_i hw
      simp only [Option.some.injEq, Prod.mk.injEq] at hv; obtain ⟨rfl, rfl⟩ := hv
      exact .here fun h2 hl ha => by simp only [opA, ho]; rw [if_pos hw]
    · rename_i hw
      split at hv <;> first | (cases hv; done) | skip
      rename_i e he
      simp only [Option.some.injEq, Prod.mk.injEq] at hv; obtain ⟨rfl, rfl⟩ := hv
      exact .push (by simp) fun h2 hl ha => by simp only [opA, ho]; rw [if_neg hw, he, hl]
  · rename_i t x ho
    rw [ho] at hf
    simp only [Option.some.injEq, Prod.mk.injEq] at hf; obtain ⟨rfl, rfl⟩ := hf
    refine ⟨rfl, ?_⟩
    split at hv <;> first | (cases hv; done) | skip
    rename_i c m hx hm
    split at hv <;> first | (cases hv; done) | skip
    rename_i hc
    simp only [Option.some.injEq, Prod.mk.injEq] at hv; obtain ⟨rfl, rfl⟩ := hv
    exact .push (by simp) fun h2 hl ha => by simp only [opA, ho, hx, hm]; rw [if_pos hc, hl]
  · rename_i t ho
    rw [ho] at hf
    simp only [Option.some.injEq, Prod.mk.injEq] at hf; obtain ⟨rfl, rfl⟩ := hf
    refine ⟨rfl, ?_⟩
    split at hv <;> first | (cases hv; done) | skip
    rename_i c hz
    simp only [Option.some.injEq, Prod.mk.injEq] at hv; obtain ⟨rfl, rfl⟩ := hv
    exact .push (by simp) fun h2 hl ha => by simp only [opA, ho, hz, hl]
  · rename_i t len parts ho
    rw [ho] at hf
    split at hv <;> first | (cases hv; done) | skip
    rename_i l hl0
    simp only [hl0, Option.some.injEq, Prod.mk.injEq] at hf; obtain ⟨rfl, rfl⟩ := hf
    refine ⟨rfl, ?_⟩
    have key : ∀ h2 : H, h2.length = h.length → (∀ id ∈ reachs h deep (l.map (·.2)), h2[id]? = h[id]?) → ∃ h2', opA C run cf s h2 o = some (r, h2') ∧ Both (reachs h deep (l.map (·.2))) h h' h2 h2' := by
      intro h2 hl ha
      obtain ⟨e1, e2, fr, lc⟩ := sent_loc hl ha
      unfold buildSliceV at hv
      split at hv <;> first | (cases hv; done) | skip
      rename_i elem ht
      split at hv <;> first | (cases hv; done) | skip
      rename_i sz hsz
      split at hv <;> first | (cases hv; done) | skip
      rename_i hc
      split at hv <;> first | (cases hv; done) | skip
      rename_i es hes
      split at hv <;> first | (cases hv; done) | skip
      rename_i hk
      simp only [Option.some.injEq, Prod.mk.injEq] at hv; obtain ⟨rfl, rfl⟩ := hv
      refine ⟨_, ?_, fr, lc⟩
      simp only [opA, ho, hl0, buildSliceV, ht, hsz]
      rw [if_neg hc, e2, hes]
      dsimp only
      rw [if_pos hk, e1]
    refine ⟨?_, fun h2 hl ha => let ⟨h3, e, b⟩ := key h2 hl ha; ⟨h3, e, b.2⟩⟩
    obtain ⟨_, _, b⟩ := key h rfl (fun _ _ => rfl)
    exact b.1
  · rename_i t x y ho
    rw [ho] at hf
    simp only [Option.some.injEq, Prod.mk.injEq] at hf; obtain ⟨rfl, rfl⟩ := hf
    refine ⟨rfl, ?_⟩
    split at hv <;> first | (cases hv; done) | skip
    rename_i a b hx hy
    unfold makeSliceV at hv
    split at hv <;> first | (cases hv; done) | skip
    rename_i elem l c ht
    split at hv <;> first | (cases hv; done) | skip
    rename_i sz by_ z hsz hby hz
    split at hv <;> first | (cases hv; done) | skip
    rename_i hc
    split at hv
    · rename_i hl0
      simp only [Option.some.injEq, Prod.mk.injEq] at hv; obtain ⟨rfl, rfl⟩ := hv
      exact .push (by simp) fun h2 hl ha => by simp only [opA, ho, hx, hy, makeSliceV, ht, hsz, hby, hz]; rw [if_neg hc, if_pos hl0, hl]
    · rename_i hl0
      simp only [Option.some.injEq, Prod.mk.injEq] at hv; obtain ⟨rfl, rfl⟩ := hv
      exact .push (by simp) fun h2 hl ha => by simp only [opA, ho, hx, hy, makeSliceV, ht, hsz, hby, hz]; rw [if_neg hc, if_neg hl0, hl]
  · rename_i t a x ho
    rw [ho] at hf
    split at hv <;> first | (cases hv; done) | skip
    rename_i p v hp hx
    split at hv <;> first | (cases hv; done) | skip
    rename_i h3 hst
    simp only [Option.some.injEq, Prod.mk.injEq] at hv; obtain ⟨rfl, rfl⟩ := hv
    have hst0 := hst
    unfold storeV at hst
    split at hst <;> first | (cases hst; done) | skip
    rename_i id off
    simp only [hp, Option.some.injEq, Prod.mk.injEq] at hf; obtain ⟨rfl, rfl⟩ := hf
    refine ⟨rfl, ?_⟩
    split at hst <;> first | (cases hst; done) | skip
    rename_i cs n hid hn
    split at hst <;> first | (cases hst; done) | skip
    · split at hst <;> first | (cases hst; done) | skip
      rename_i hc
      simp only [Option.some.injEq] at hst; subst hst
      exact .set (by simp) (by simp) fun h2 hl ha => by simp only [opA, ho, hp, hx, storeV, ha id (by simp), hid, hn]; rw [if_pos hc]
    · rename_i nt na
      split at hst <;> first | (cases hst; done) | skip
      rename_i hc
      simp only [Option.some.injEq] at hst; subst hst
      refine .set (by simp) (by simp) fun h2 hl ha => ?_
      have e : storeV C.P h2 t (.ptr id off) v = some (h2.set id (.cells (cs.set off v) .live)) := by
        cases v with
        | tuple vs => exact (nt _ rfl).elim
        | agg vs => exact (na _ rfl).elim
        | _ => simp only [storeV, ha id (by simp), hid, hn]; rw [if_pos hc]
      simp only [opA, ho, hp, hx, e]
  · rename_i args argTypes ho
    rw [ho] at hf
    split at hv <;> first | (cases hv; done) | skip
    rename_i x y t u hargs htypes
    simp only [hargs] at hf
    split at hv
    · rename_i htu
      split at hv <;> first | (cases hv; done) | skip
      rename_i c d hx hy
      simp only [hx, hy, Option.some.injEq, Prod.mk.injEq] at hf; obtain ⟨rfl, rfl⟩ := hf
      refine ⟨rfl, ?_⟩
      obtain ⟨f, k⟩ := appendW_loc (T := mslId c ++ tokId c ++ mslId d) (fun i hi => hi) hv
      exact ⟨f, fun h2 hl ha => let ⟨h3, e, l⟩ := k h2 hl ha; ⟨h3, by simp only [opA, ho, hargs, htypes, hx, hy]; rw [if_pos htu]; exact e, l⟩⟩
    · rename_i htu
      split at hv
      rotate_left 1
      · rename_i hns
        split at hv <;> first | (cases hv; done) | skip
        rename_i hint
        split at hv <;> first | (cases hv; done) | skip
        rename_i c n hx hy
        simp only [hx, hy, Option.some.injEq, Prod.mk.injEq] at hf; obtain ⟨rfl, rfl⟩ := hf
        refine ⟨rfl, ?_⟩
        have e : ∀ h2, opA C run cf s h2 o = appendZ C.P h2 t c n := fun h2 => by simp only [opA, ho, hargs, htypes, hx, hy]; rw [if_neg htu, if_neg hns, if_pos hint]
        simp only [e]
        unfold appendZ at hv
        split at hv <;> first | (cases hv; done) | skip
        rename_i elem xs ht
        split at hv <;> first | (cases hv; done) | skip
        rename_i sz by_ z hsz hby hz
        split at hv <;> first | (cases hv; done) | skip
        rename_i hc
        split at hv
        · rename_i hn0
          simp only [Option.some.injEq, Prod.mk.injEq] at hv; obtain ⟨rfl, rfl⟩ := hv
          exact .here fun h2 hl ha => by simp only [appendZ, ht, hsz, hby, hz]; rw [if_pos hc, if_pos hn0]
        · rename_i hn0
          simp only [Option.some.injEq, Prod.mk.injEq] at hv; obtain ⟨rfl, rfl⟩ := hv
          exact .push (by simp) fun h2 hl ha => by simp only [appendZ, ht, hsz, hby, hz]; rw [if_pos hc, if_neg hn0, hl]
      rename_i hstr
      split at hv <;> first | (cases hv; done) | skip
      rename_i c d hx hy
      simp only [hx, hy, Option.some.injEq, Prod.mk.injEq] at hf; obtain ⟨rfl, rfl⟩ := hf
      refine ⟨rfl, ?_⟩
      obtain ⟨f, k⟩ := appendN_loc (T := mslId c ++ tokId c ++ mslId d) (fun i hi => hi) hv
      exact ⟨f, fun h2 hl ha => let ⟨h3, e, l⟩ := k h2 hl ha; ⟨h3, by simp only [opA, ho, hargs, htypes, hx, hy]; rw [if_neg htu, if_pos hstr]; exact e, l⟩⟩
  · rename_i f args argTypes ho
    rw [ho] at hf
    split at hv <;> first | (cases hv; done) | skip
    · rename_i g captured l hx hl
      simp only [hx, hl] at hf
      split at hv
      · rename_i hb
        rw [if_pos hb] at hf
        split at hf <;> first | (cases hf; done) | skip
        rename_i hm hq hf0
        simp only [Option.some.injEq, Prod.mk.injEq] at hf; obtain ⟨rfl, rfl⟩ := hf
        refine ⟨rfl, ?_⟩
        obtain ⟨f', k⟩ := applyCall_loc (fun e => hm e) (fun e => hq e) (fun e => hf0 e) hv
        exact ⟨f', fun h2 hl2 ha => let ⟨h3, e, lc⟩ := k h2 hl2 ha; ⟨h3, by simp only [opA, ho, hx, hl]; rw [if_pos hb]; exact e, lc⟩⟩
      · rename_i hb
        rw [if_neg hb] at hf
        simp only [Option.some.injEq, Prod.mk.injEq] at hf; obtain ⟨rfl, rfl⟩ := hf
        refine ⟨rfl, ?_⟩
        unfold extV at hv
        split at hv <;> first | (cases hv; done) | skip
        rename_i vs hvs
        split at hv <;> first | (cases hv; done) | skip
        rename_i v hv2
        split at hv <;> first | (cases hv; done) | skip
        rename_i a ha2
        simp only [Option.some.injEq, Prod.mk.injEq] at hv; obtain ⟨rfl, rfl⟩ := hv
        exact .here fun h2 hl2 ha => by simp only [opA, ho, hx, hl]; rw [if_neg hb]; simp only [extV, hvs, hv2, ha2]
    · rename_i i l hx hl
      simp only [hx, hl] at hf
      cases hf
  · rename_i t ho
    rw [ho] at hf
    simp only [Option.some.injEq, Prod.mk.injEq] at hf; obtain ⟨rfl, rfl⟩ := hf
    refine ⟨rfl, ?_⟩
    simp only [Option.some.injEq, Prod.mk.injEq] at hv; obtain ⟨rfl, rfl⟩ := hv
    exact .push (by simp) fun h2 hl ha => by simp only [opA, ho, hl]
  · rename_i t x i ok ho
    rw [ho] at hf
    split at hv <;> first | (cases hv; done) | skip
    rename_i a b ha hb
    simp only [ha, Option.some.injEq, Prod.mk.injEq] at hf; obtain ⟨rfl, rfl⟩ := hf
    refine ⟨rfl, ?_⟩
    split at hv <;> first | (cases hv; done) | skip
    rename_i v hlv
    simp only [Option.some.injEq, Prod.mk.injEq] at hv; obtain ⟨rfl, rfl⟩ := hv
    refine .here fun h2 hl hag => ?_
    have : lookupV C.P h2 t a b ok = lookupV C.P h t a b ok := by
      cases a with
      | mp id => simp only [lookupV]; rw [hag id (by simp [mpId])]
      | _ => rfl
    simp only [opA, ho, ha, hb, this, hlv]
  · rename_i t m k x ho
    rw [ho] at hf
    split at hv <;> first | (cases hv; done) | skip
    rename_i a b c ha hb hc
    simp only [ha, Option.some.injEq, Prod.mk.injEq] at hf; obtain ⟨rfl, rfl⟩ := hf
    refine ⟨rfl, ?_⟩
    split at hv <;> first | (cases hv; done) | skip
    rename_i h3 hm
    simp only [Option.some.injEq, Prod.mk.injEq] at hv; obtain ⟨rfl, rfl⟩ := hv
    obtain ⟨id, hid, es, rfl, hF⟩ := mapUpdateV_loc hm
    exact .set hid (by intro L st e; cases e) fun h2 hl hag => by simp only [opA, ho, ha, hb, hc, hF h2 hag]
  · rename_i t m k x ho
    rw [ho] at hf
    split at hv <;> first | (cases hv; done) | skip
    rename_i a b c ha hb hc
    simp only [ha, Option.some.injEq, Prod.mk.injEq] at hf; obtain ⟨rfl, rfl⟩ := hf
    refine ⟨rfl, ?_⟩
    split at hv <;> first | (cases hv; done) | skip
    rename_i h3 hm
    simp only [Option.some.injEq, Prod.mk.injEq] at hv; obtain ⟨rfl, rfl⟩ := hv
    obtain ⟨id, hid, es, rfl, hF⟩ := mapUpdateV_loc hm
    exact .set hid (by intro L st e; cases e) fun h2 hl hag => by simp only [opA, ho, ha, hb, hc, hF h2 hag]
  · rename_i ho; rw [ho] at hf; cases hf
  · rename_i ho; rw [ho] at hf; cases hf
  · cases hv
theorem opV_loc {C : Cfg} {run : FuncId → List AV → H → Option (AV × H)} {cf : FuncId} {s : PT} {o : Oper} {h h' : H} {r : AV} {T : List Nat} {wr : Bool} (hf : foot C s h o = some (T, wr)) (hv : opV C run cf s h o = some (r, h')) :
    (wr = false → h' = h) ∧ Same T h (fun h => opV C run cf s h o) r h' := by
  cases hact : active o with
  | true =>
    have e : ∀ h, opV C run cf s h o = opA C run cf s h o := fun h => by unfold opV; rw [if_pos hact]
    rw [e] at hv
    obtain ⟨k1, k2⟩ := opA_loc hact hf hv
    exact ⟨fun e => (by rw [k1] at e; cases e), by simp only [e]; exact k2⟩
  | false =>
    have hidle := opV_idle hv hact
    subst hidle
    refine ⟨fun _ => rfl, .here fun h2 hl ha => ?_⟩
    unfold opV at hv ⊢
    rw [hact] at hv ⊢
    simp only [Bool.false_eq_true, if_false] at hv ⊢
    split at hv
    · rename_i t x ho
      unfold foot at hf
      rw [hact, ho] at hf
      simp only [Bool.false_eq_true, if_false] at hf
      split at hv <;> first | (cases hv; done) | skip
      rename_i a hx
      split at hv <;> first | (cases hv; done) | skip
      rename_i v hlv
      simp only [Option.some.injEq, Prod.mk.injEq] at hv
      have : loadV C.P h2 t a = loadV C.P h' t a := by
        cases a with
        | ptr id off =>
          simp only [hx, Option.some.injEq, Prod.mk.injEq] at hf; obtain ⟨rfl, rfl⟩ := hf
          simp only [loadV]; rw [ha id (by simp)]
        | _ => rfl
      rw [this, hlv]; dsimp only; rw [hv.1]
    · split at hv <;> first | (cases hv; done) | skip
      rename_i v hopn
      simp only [Option.some.injEq, Prod.mk.injEq] at hv
      rw [← hv.1]
end Go.V
