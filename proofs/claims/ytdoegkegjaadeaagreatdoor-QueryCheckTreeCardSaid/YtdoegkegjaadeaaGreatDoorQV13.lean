/- Slices written out; and every operation in one law. -/
import Derived.Test.YtdoegkegjaadeaaGreatDoorQV27
namespace Go.V
open Go

section
variable {P : Program} {B : Nat} {A0 : Nat → Nat → Prop} {σ : List (Option Nat)} {h : H} {w : World}

theorem irel_cells {A : Nat → Nat → Prop} {c : AV} {v : Value} (r : IRel A w c v) (hn : notTuple c = true) : v.cells.size = c.cells.length ∧ (∀ x ∈ c.cells, x.one = true) ∧
    ∀ (i : Nat) x u, c.cells[i]? = some x → v.cells[i]? = some u → IRel A w x u := by
  by_cases hc : ∃ cs, c = .agg cs
  · obtain ⟨cs, rfl⟩ := hc
    cases r with | agg h1 h2 h3 => exact ⟨h2, h1, h3⟩
  · have hone : c.one = true := by cases c <;> simp_all [AV.one, notTuple]
    have hcells : c.cells = [c] := by cases c <;> simp_all [AV.cells, AV.one]
    have hv : v.cells = #[v] := by cases r <;> simp_all [Value.cells, AV.one]
    rw [hcells, hv]
    refine ⟨rfl, fun x hx => by simp at hx; subst hx; exact hone, fun i x u hx hu => ?_⟩
    cases i with
    | zero => simp at hx hu; subst hx hu; exact r
    | succ i => simp at hx

theorem fold_set (off : Nat) : ∀ (l : List Value) (k : Nat) (cs : Array Value), off + k + l.length ≤ cs.size →
    ((l.zipIdx k).foldl (fun cs (c, j) => cs.setIfInBounds (off + j) c) cs).size = cs.size ∧
    ∀ m : Nat, ((l.zipIdx k).foldl (fun cs (c, j) => cs.setIfInBounds (off + j) c) cs)[m]? = if off + k ≤ m ∧ m < off + k + l.length then l[m - (off + k)]? else cs[m]? := by
  intro l
  induction l with
  | nil => intro k cs _; simp; intro m h1 h2; omega
  | cons c l ihl =>
    intro k cs hk
    simp only [List.length_cons] at hk
    simp only [List.zipIdx_cons, List.foldl_cons]
    obtain ⟨g1, g2⟩ := ihl (k + 1) (cs.setIfInBounds (off + k) c) (by simp; omega)
    refine ⟨by simp [g1], fun m => ?_⟩
    rw [g2]
    by_cases hm : m = off + k
    · subst hm
      rw [if_neg (by omega), if_pos (by simp only [List.length_cons]; omega), Array.getElem?_setIfInBounds_self_of_lt (by omega)]
      simp
    · by_cases hm2 : off + (k + 1) ≤ m ∧ m < off + (k + 1) + l.length
      · rw [if_pos hm2, if_pos (by simp only [List.length_cons]; omega)]
        rw [show m - (off + k) = (m - (off + (k + 1))) + 1 by omega]
        rfl
      · rw [if_neg hm2, if_neg (by simp only [List.length_cons]; omega)]
        rw [Array.getElem?_setIfInBounds_ne (by omega)]

/-- Parts of one size, laid one behind the other. -/
theorem fill_row (sz : Nat) : ∀ (us : List (Nat × Value)) (k : Nat) (vs : Array Value), us.map (·.1) = List.range' k us.length → (∀ p ∈ us, p.2.cells.size = sz) → (k + us.length) * sz ≤ vs.size →
    ∃ vs' : Array Value, Instr.fill (fun i => some (i * sz, sz)) vs us = some vs' ∧ vs'.size = vs.size ∧ (∀ (i : Nat) p, us[i]? = some p → ∀ j, j < sz → vs'[(k + i) * sz + j]? = p.2.cells[j]?) ∧ ∀ m, m < k * sz → vs'[m]? = vs[m]? := by
  intro us
  induction us with
  | nil => intro k vs _ _ _; exact ⟨vs, rfl, rfl, by simp, fun _ _ => rfl⟩
  | cons p us ih =>
    intro k vs hm hs hl
    obtain ⟨i, u⟩ := p
    simp only [List.map_cons, List.length_cons, List.range'_succ, List.cons.injEq] at hm
    obtain ⟨rfl, hm⟩ := hm
    simp only [List.length_cons] at hl
    have hu : u.cells.size = sz := hs (i, u) (by simp)
    have e1 : (i + (us.length + 1)) * sz = (i + 1 + us.length) * sz := by congr 1; omega
    have e2 : (i + 1) * sz = i * sz + sz := Nat.succ_mul i sz
    have e3 : (i + 1) * sz ≤ (i + 1 + us.length) * sz := Nat.mul_le_mul_right _ (by omega)
    obtain ⟨g1, g2⟩ := fold_set (i * sz) u.cells.toList 0 vs (by simp; omega)
    simp only [Nat.add_zero, Array.length_toList, hu] at g1 g2
    have hfold : (u.cells.zipIdx.foldl (fun cs (c, j) => cs.setIfInBounds (i * sz + j) c) vs) = ((u.cells.toList.zipIdx 0).foldl (fun cs (c, j) => cs.setIfInBounds (i * sz + j) c) vs) := by
      rw [← Array.foldl_toList]; simp
    obtain ⟨vs', k1, k2, k3, k4⟩ := ih (i + 1) (u.cells.zipIdx.foldl (fun cs (c, j) => cs.setIfInBounds (i * sz + j) c) vs) hm (fun p hp => hs p (by simp [hp])) (by rw [hfold, g1]; omega)
    refine ⟨vs', ?_, by rw [k2, hfold, g1], fun a q hq j hj => ?_, fun m hm => ?_⟩
    · simp only [Instr.fill]
      rw [if_neg (by simp; omega)]
      exact k1
    · cases a with
      | zero =>
        simp only [List.getElem?_cons_zero, Option.some.injEq] at hq; subst hq
        rw [k4 _ (by rw [Nat.add_zero]; omega), hfold, g2, if_pos (by rw [Nat.add_zero]; omega), Array.getElem?_toList]
        congr 1; rw [Nat.add_zero]; omega
      | succ a =>
        simp only [List.getElem?_cons_succ] at hq
        have := k3 a q hq j hj
        rw [← this, show i + (a + 1) = i + 1 + a by omega]
    · rw [k4 m (by omega), hfold, g2, if_neg (by omega)]

theorem elemOkV_spec {n : Nat} : ∀ (l : List AV), elemOkV n l = true → ∀ e ∈ l, e.cells.length = n ∧ notTuple e = true := by
  intro l
  induction l with
  | nil => intro _ e he; cases he
  | cons a l ih =>
    intro hh e he
    simp only [elemOkV, Bool.and_eq_true, beq_iff_eq] at hh
    rcases List.mem_cons.1 he with rfl | he
    · exact hh.1
    · exact ih hh.2 e he

theorem buildSliceV_sound [DFlag] (hr : HRel P B A0 σ h w) {t : TypeId} {len : Nat} {parts : List (Nat × AV)} {us : Array (Nat × Value)} {r : AV} {h' : H} (hh : buildSliceV P h t len parts = some (r, h')) (hl : us.size = parts.length)
    (hp : ∀ (k i : Nat) c j u, parts[k]? = some (i, c) → us[k]? = some (j, u) → i = j ∧ Rel P (Alw P B A0 σ h) σ h w c u ∧ notTuple c = true) :
    ∃ v w', (Instr.buildSlice t len us).run P w = .ok v w' ∧ Leaves P B A0 σ h w r h' v w' := by
  unfold buildSliceV at hh
  split at hh <;> first | (cases hh; done) | skip
  rename_i elem ht
  split at hh <;> first | (cases hh; done) | skip
  rename_i sz hsz
  split at hh <;> first | (cases hh; done) | skip
  rename_i hg
  simp only [Bool.or_eq_true, Bool.not_eq_true', beq_iff_eq, not_or, Bool.not_eq_false, decide_eq_false_iff_not, Decidable.not_not] at hg
  obtain ⟨⟨⟨hzo, hsz0⟩, hbig⟩, hrange⟩ := hg
  have hrange : parts.map (·.1) = List.range len := by simpa using hrange
  split at hh <;> first | (cases hh; done) | skip
  rename_i es hsn
  split at hh <;> first | (cases hh; done) | skip
  rename_i hel
  simp only [Option.some.injEq, Prod.mk.injEq] at hh; obtain ⟨rfl, rfl⟩ := hh
  have hst := freeze_stiller h (reachs h deep (parts.map (·.2)))
  generalize freeze h (reachs h deep (parts.map (·.2))) = h2 at *
  have hr2 := hr.stiller hst
  have st2 := Step.stiller hr hst
  obtain ⟨m1, m2, _⟩ := snaps_sound hr2 _ _ _ hsn
  have hplen : parts.length = len := by have := congrArg List.length hrange; simpa using this
  simp only [List.length_map] at m1
  have hes := elemOkV_spec _ hel
  obtain ⟨i, z, hi, hz, hzs⟩ := zeroOk_spec hzo
  have hisz : i.size = sz := by simpa [sizeV, hi] using hsz
  -- each element, as the model has it
  have hpart : ∀ (k : Nat) e, es[k]? = some e → ∃ u, us[k]? = some (k, u) ∧ IRel (Alw P B A0 σ h2) w e u := by
    intro k e he
    have hk : k < parts.length := by rw [← m1]; exact (List.getElem?_eq_some_iff.1 he).1
    have hc : parts[k]? = some parts[k] := List.getElem?_eq_getElem hk
    have hu : us[k]? = some (us[k]'(by omega)) := Array.getElem?_eq_getElem _
    obtain ⟨q1, q2, q3⟩ := hp k parts[k].1 parts[k].2 (us[k]'(by omega)).1 (us[k]'(by omega)).2 hc hu
    have hik : parts[k].1 = k := by
      have : (parts.map (·.1))[k]? = some parts[k].1 := by rw [List.getElem?_map, hc]; rfl
      rw [hrange, List.getElem?_range (by omega)] at this
      simpa using this.symm
    refine ⟨(us[k]'(by omega)).2, by rw [hu]; congr 1; ext1 <;> simp; omega, ?_⟩
    exact m2 k parts[k].2 e _ (by rw [List.getElem?_map, hc]; rfl) he (q2.step st2)
  have husz : ∀ p ∈ us.toList, p.2.cells.size = sz := by
    intro p hpm
    obtain ⟨k, hk, rfl⟩ := List.getElem_of_mem hpm
    have hk' : k < es.length := by rw [m1, ← hl]; simpa using hk
    obtain ⟨u, e1, e2⟩ := hpart k _ (List.getElem?_eq_getElem hk')
    obtain ⟨e3, e4⟩ := hes _ (List.getElem_mem hk')
    have := (irel_cells e2 e4).1
    have hu : us.toList[k] = (k, u) := by rw [← Array.getElem?_toList, List.getElem?_eq_getElem hk] at e1; simpa using e1
    rw [hu]; dsimp; omega
  have humap : us.toList.map (·.1) = List.range' 0 us.toList.length := by
    apply List.ext_getElem?
    intro k
    rw [← List.range_eq_range']
    by_cases hk : k < es.length
    · obtain ⟨u, e1, e2⟩ := hpart k _ (List.getElem?_eq_getElem hk)
      rw [List.getElem?_map, Array.getElem?_toList, e1, List.getElem?_range (by simp; omega)]; rfl
    · rw [List.getElem?_eq_none (by simp; omega), List.getElem?_eq_none (by simp; omega)]
  have hulen : us.toList.length = len := by simp; omega
  have run : ∀ vs0 : Array Value, vs0.size = len * sz → ((len * sz = 0 ∧ vs0 = #[]) ∨ (len * sz ≠ 0 ∧ vs0 = (Array.range (len * sz)).map (z.cells[· % z.cells.size]!))) →
      ∃ vs : Array Value, vs.size = len * sz ∧ (Instr.buildSlice t len us).run P w = .ok (.slice (some ⟨w.heap.size, 0, none⟩) len len) (w.alloc (.cells vs elem)) ∧ ∀ (k : Nat) u, us[k]? = some (k, u) → ∀ j, j < sz → vs[k * sz + j]? = u.cells[j]? := by
    intro vs0 hv0 hcase
    obtain ⟨vs, k1, k2, k3, _⟩ := fill_row sz us.toList 0 vs0 humap husz (by rw [hulen, Nat.zero_add]; omega)
    refine ⟨vs, by omega, ?_, fun k u hk j hj => by have := k3 k (k, u) (by simpa using hk) j hj; simpa using this⟩
    have hzr : (zeroValue elem).run P w = .ok z w := by simp [zeroValue, typeInfo, hi, hz]
    simp only [Instr.buildSlice, Sem.run_bind, run_under ht, Result.andThen_ok, run_sizeOf hsz]
    rw [if_neg (by omega)]
    rcases hcase with ⟨c1, rfl⟩ | ⟨c1, rfl⟩
    · simp only [c1, if_true, Sem.run_bind, Sem.run_pure, Result.andThen_ok]
      have e0 : (Array.range 0).map (fun x => (#[] : Array Value)[x % (#[] : Array Value).size]!) = #[] := by simp [show Array.range 0 = (#[] : Array Nat) from rfl]
      rw [e0, k1]
      simp only [newRow, Sem.run_bind, run_newObj, Result.andThen_ok, Sem.run_pure, World.alloc_eq]
    · simp only [if_neg c1, Sem.run_bind, hzr, Sem.run_pure, Result.andThen_ok]
      rw [k1]
      simp only [newRow, Sem.run_bind, run_newObj, Result.andThen_ok, Sem.run_pure, World.alloc_eq]
  have hv0 : ∃ vs0 : Array Value, vs0.size = len * sz ∧ ((len * sz = 0 ∧ vs0 = #[]) ∨ (len * sz ≠ 0 ∧ vs0 = (Array.range (len * sz)).map (z.cells[· % z.cells.size]!))) := by
    by_cases c : len * sz = 0
    · exact ⟨#[], by simp [c], .inl ⟨c, rfl⟩⟩
    · exact ⟨_, by simp, .inr ⟨c, rfl⟩⟩
  obtain ⟨vs0, hv0, hcase⟩ := hv0
  obtain ⟨vs, hvs, hrun, hval⟩ := run vs0 hv0 hcase
  have hg := Grows.alloc w (.cells vs elem)
  have st3 := Step.grows hr2 hg
  refine ⟨_, _, hrun, σ, hr2.grows hg, st2.trans st3, ?_⟩
  have hfl : Flat (Alw P B A0 σ h2) (w.alloc (.cells vs elem)) sz es vs.toList := by
    refine ⟨by simp; rw [hvs, m1, hplen], hes, fun e he => ?_, fun k j e c he hc => ?_⟩
    · obtain ⟨k, hk, rfl⟩ := List.getElem_of_mem he
      obtain ⟨u, e1, e2⟩ := hpart k _ (List.getElem?_eq_getElem hk)
      exact (irel_cells e2 (hes _ he).2).2.1
    · obtain ⟨u, e1, e2⟩ := hpart k e he
      have hm := hes e (List.mem_of_getElem? he)
      obtain ⟨q1, q2, q3⟩ := irel_cells e2 hm.2
      have hj : j < sz := by rw [← hm.1]; exact (List.getElem?_eq_some_iff.1 hc).1
      have hx : u.cells[j]? = some (u.cells[j]'(by omega)) := Array.getElem?_eq_getElem _
      refine ⟨_, by rw [Array.getElem?_toList, hval k u e1 j hj]; exact hx, (q3 j c _ hc hx).mono fun b o x ha hcx => ⟨ha, hg.cell hcx⟩⟩
  have hlen : es.length = len := by omega
  have hmax : len ≤ maxLen := by
    have : len * 1 ≤ len * sz := Nat.mul_le_mul_left _ (by omega)
    simp only [maxLen]; omega
  have := of_flat (b := w.heap.size) (o := 0) (cap := len) hfl (by omega) (by omega) hmax (fun k x hx => by
    rw [Nat.zero_add]
    refine ⟨?_, by rw [cell_of_row _ w.heap.size k vs elem _ (heap_alloc_new w _)]; simpa using hx⟩
    have := hr.base
    unfold Alw
    rw [if_neg (by omega)]
    refine ⟨fun i cs hi hs => ?_, fun i u ty hi hs => ?_⟩
    · have := hr2.lt hi rfl hs; omega
    · have := hr2.lt hi rfl hs; omega)
  rw [hlen] at this
  exact .full this

variable {n : Nat} {s : PT} {a : Act}

theorem evs_array (hg : GlobR (Alw P B A0 σ h) w) (hs : SRel P (Alw P B A0 σ h) σ h w n s a.tmps) {args : Array Operand} {l : List AV} (hl : evs s args.toList = some l) :
    (args.map a.eval).size = l.length ∧ ∀ (i : Nat) c u, l[i]? = some c → (args.map a.eval)[i]? = some u → Rel P (Alw P B A0 σ h) σ h w c u := by
  obtain ⟨e1, e2⟩ := evs_sound hg hs _ _ hl
  refine ⟨by simpa using e1.symm, fun i c u hc hu => ?_⟩
  rw [Array.getElem?_map] at hu
  cases hp : args[i]? with
  | none => simp [hp] at hu
  | some x => simp [hp] at hu; subst hu; exact e2 i c x hc (by simpa using hp)

theorem toList_array : ∀ {l : List AV} {us : List Value}, toList l = some us → ∀ {vs : Array Value}, vs.size = l.length → (∀ (i : Nat) c u, l[i]? = some c → vs[i]? = some u → Rel P (Alw P B A0 σ h) σ h w c u) → vs = us.toArray := by
  have key : ∀ (l : List AV) (us : List Value), toList l = some us → us.length = l.length ∧ ∀ (i : Nat) c u, l[i]? = some c → us[i]? = some u → toScalar c = some u := by
    intro l
    induction l with
    | nil => intro us h; simp only [toList, Option.some.injEq] at h; subst h; simp
    | cons c l ih =>
      intro us h
      simp only [toList] at h
      split at h <;> first | (cases h; done) | skip
      rename_i u us' h1 h2
      simp only [Option.some.injEq] at h; subst h
      obtain ⟨g1, g2⟩ := ih _ h2
      refine ⟨by simp [g1], fun i x y hx hy => ?_⟩
      cases i with
      | zero => simp at hx hy; subst hx hy; exact h1
      | succ i => simp at hx hy; exact g2 i x y hx hy
  intro l us hl vs hs hr
  obtain ⟨g1, g2⟩ := key l us hl
  apply Array.ext
  · simp [hs, g1]
  · intro i h1 h2
    have hi : i < l.length := by omega
    have e1 : vs[i]? = some vs[i] := Array.getElem?_eq_getElem h1
    have e2 : us[i]? = some (us[i]'(by omega)) := List.getElem?_eq_getElem (by omega)
    have e3 := g2 i l[i] _ (List.getElem?_eq_getElem hi) e2
    have e4 := hr i l[i] _ (List.getElem?_eq_getElem hi) e1
    have : toVal l[i] = some (us[i]'(by omega)) := by
      generalize l[i] = c at e3
      cases c <;> first | exact e3 | (simp [toScalar] at e3; done)
    rw [toVal_rel this e4]; simp
/-- The fence that lets everything in, within a round or not. -/
abbrev FR (ro : Option Nat) : Fence := { Fence.wide with round := ro }
variable {ro : Option Nat} {nd : Nat}
theorem wp_value {o : Oper} {next : Act → World → Prop} {Q : Exit → Act → World → Prop} {v : Value} {w' : World} (hd : ∀ c, o.op ≠ .defer c) (he : (execOp a.eval o).run P w = .ok (.value v) w') (hn : next (a.put o.dst v) w') : o.wpIn (FR ro) nd P a w next Q := by
  refine ⟨fun _ _ => trivial, ?_⟩
  rw [Oper.semAt_eq _ _ _ hd, he]; exact hn
theorem wp_skip' {o : Oper} {next : Act → World → Prop} {Q : Exit → Act → World → Prop} {w' : World} (hd : ∀ c, o.op ≠ .defer c) (he : (execOp a.eval o).run P w = .ok .skip w') (hn : next (a.put o.dst undef) w') : o.wpIn (FR ro) nd P a w next Q := by
  refine ⟨fun _ _ => trivial, ?_⟩
  rw [Oper.semAt_eq _ _ _ hd, he]; exact hn
theorem wp_enter {o : Oper} {next : Act → World → Prop} {Q : Exit → Act → World → Prop} {f : FuncId} {vs : Array Value} {R : Value → World → Prop} (hd : ∀ c, o.op ≠ .defer c) (he : (execOp a.eval o).run P w = .ok (.enter f vs) w)
    (hc : Calls P f vs w (fun e w' => ∃ v, e = .returned v ∧ R v w')) (hn : ∀ v w', R v w' → next (a.put o.dst v) w') : o.wpIn (FR ro) nd P a w next Q := by
  refine ⟨fun _ _ => trivial, ?_⟩
  rw [Oper.semAt_eq _ _ _ hd, he]
  refine ⟨fun h => (by cases h), ?_⟩
  have hc' : CallsIn (FR ro) (nd - 1) P f vs w (fun e w' => ∃ v, e = .returned v ∧ R v w') := (callsIn_wide (n := nd - 1)).2 hc
  exact hc'.mono fun e w' ⟨v, he, hR⟩ => by subst he; exact hn v w' hR
theorem wp_round {o : Oper} {next : Act → World → Prop} {Q : Exit → Act → World → Prop} {l : Nat} {f : FuncId} {tmps : Array Value} {assign body : Code} {R : Value → World → Prop} (hd : ∀ c, o.op ≠ .defer c)
    (he : (execOp a.eval o).run P w = .ok (.round l f tmps assign body) w)
    (hc : ∀ k, RoundIn Fence.wide k P l f tmps assign body w (fun e w' => ∃ v, e = .returned v ∧ R v w')) (hn : ∀ v w', R v w' → next (a.put o.dst v) w') : o.wpIn (FR ro) nd P a w next Q := by
  refine ⟨fun _ _ => trivial, ?_⟩
  rw [Oper.semAt_eq _ _ _ hd, he]
  refine ⟨fun h => (by cases h), ?_⟩
  have hc' : RoundIn (FR ro) (nd - 1) P l f tmps assign body w (fun e w' => ∃ v, e = .returned v ∧ R v w') := hc (nd - 1)
  exact hc'.mono fun e w' ⟨v, he, hR⟩ => by subst he; exact hn v w' hR
theorem opN_nd {s : PT} {o : Oper} {v : AV} (hv : opN P s o = some v) : ∀ c, o.op ≠ .defer c := fun c e => by simp [opN, e] at hv

theorem run_callFunc (hP : Good P) {f : FuncId} {vs : Array Value} (hb : hasBody P f = true) : (callFunc f vs).run P w = .ok (.enter f vs) w := by
  unfold hasBody at hb
  split at hb <;> first | (cases hb; done) | skip
  rename_i fn hf
  obtain ⟨c, hc⟩ := Option.isSome_iff_exists.1 hb
  simp only [callFunc, Sem.run_bind, run_program, Result.andThen_ok, hf]
  rw [hP.names f fn hf]
  simp [hc]

set_option maxHeartbeats 1000000 in
theorem opV_wp [DFlag] {C : Cfg} (hP : Good P) (hC : C.P = P) {run : FuncId → List AV → H → Option (AV × H)} (hrun : Ok P run) {cf : FuncId} (hr : HRel P B A0 σ h w) (hs : SRel P (Alw P B A0 σ h) σ h w n s a.tmps)
    {o : Oper} {r : AV} {h' : H} (hh : opV C run cf s h o = some (r, h')) {next : Act → World → Prop} {Q : Exit → Act → World → Prop}
    (hn : ∀ v w', Leaves P B A0 σ h w r h' v w' → next (a.put o.dst v) w') : o.wpIn (FR ro) nd P a w next Q := by
  subst hC
  unfold opV at hh
  split at hh
  · rename_i hact
    unfold opA at hh
    split at hh
    · rename_i x ho
      have hx : a.eval x = .slice none 0 0 := by
        simp only [active, ho, isNil] at hact
        split at hact <;> first | rfl | (cases hact; done)
      split at hh
      · simp only [Option.some.injEq, Prod.mk.injEq] at hh; obtain ⟨rfl, rfl⟩ := hh
        exact wp_value (by simp [ho]) (by simp only [execOp, ho, Sem.run_pure, hx]) (hn _ _ ⟨σ, hr, .refl _ _ _, .full .islNil⟩)
      split at hh <;> first | (cases hh; done) | skip
      rename_i e he
      simp only [Option.some.injEq, Prod.mk.injEq] at hh; obtain ⟨rfl, rfl⟩ := hh
      exact wp_value (by simp [ho]) (by simp only [execOp, ho, Sem.run_pure, hx]) (hn _ _ (nilTok_sound hr e))
    · rename_i t x ho
      split at hh <;> first | (cases hh; done) | skip
      rename_i c m hx hm
      split at hh <;> first | (cases hh; done) | skip
      rename_i hc
      simp only [Option.some.injEq, Prod.mk.injEq] at hh; obtain ⟨rfl, rfl⟩ := hh
      obtain ⟨v, w', e1, e2⟩ := box_sound (t := t) hr (ev_sound hr.gr hs hx) hc.2
      exact wp_value (by simp [ho]) (by simp only [execOp, ho]; simp only [Sem.run_bind, e1, Result.andThen_ok, Sem.run_pure]) (hn _ _ e2)
    · rename_i t ho
      split at hh <;> first | (cases hh; done) | skip
      rename_i c hz
      simp only [Option.some.injEq, Prod.mk.injEq] at hh; obtain ⟨rfl, rfl⟩ := hh
      obtain ⟨v, w', e1, e2⟩ := alloc_sound hr hz
      exact wp_value (by simp [ho]) (by simp only [execOp, ho]; simp only [Sem.run_bind, e1, Result.andThen_ok, Sem.run_pure]) (hn _ _ e2)
    · rename_i t len parts ho
      split at hh <;> first | (cases hh; done) | skip
      rename_i l hl
      obtain ⟨e1, e2⟩ := partsV_sound hr.gr hs _ _ hl
      obtain ⟨v, w', g1, g2⟩ := buildSliceV_sound (us := parts.map fun (i, x) => (i, a.eval x)) hr hh (by simpa using e1.symm) (fun k i c j u hc hu => by
        rw [Array.getElem?_map] at hu
        cases hp : parts[k]? with
        | none => simp [hp] at hu
        | some q => obtain ⟨j', x⟩ := q; simp [hp] at hu; obtain ⟨rfl, rfl⟩ := hu; exact e2 k i c _ x hc (by simpa using hp))
      exact wp_value (by simp [ho]) (by simp only [execOp, ho]; simp only [Sem.run_bind, g1, Result.andThen_ok, Sem.run_pure]) (hn _ _ g2)
    · rename_i t l c ho
      split at hh <;> first | (cases hh; done) | skip
      rename_i x y hx hy
      obtain ⟨v, w', g1, g2⟩ := makeSliceV_sound hr hh (ev_sound hr.gr hs hx) (ev_sound hr.gr hs hy)
      exact wp_value (by simp [ho]) (by simp only [execOp, ho]; simp only [Sem.run_bind, g1, Result.andThen_ok, Sem.run_pure]) (hn _ _ g2)
    · rename_i t p x ho
      split at hh <;> first | (cases hh; done) | skip
      rename_i c d hx hy
      split at hh <;> first | (cases hh; done) | skip
      rename_i h2 hst
      simp only [Option.some.injEq, Prod.mk.injEq] at hh; obtain ⟨rfl, rfl⟩ := hh
      obtain ⟨w', g1, g2, g3⟩ := storeV_sound hr hst (ev_sound hr.gr hs hx) (ev_sound hr.gr hs hy)
      refine wp_skip' (w' := w') (by simp [ho]) (by simp only [execOp, ho, Sem.run_bind, g1, Result.andThen_ok, Sem.run_pure]) (hn _ _ ⟨σ, g2, g3, .data (.tuple (vs := #[]) rfl (by simp))⟩)
    · rename_i args argTypes ho
      split at hh <;> first | (cases hh; done) | skip
      rename_i x y t u hargs htypes
      have e1 : args = #[x, y] := by apply Array.ext'; simpa using hargs
      have e2 : argTypes = #[t, u] := by apply Array.ext'; simpa using htypes
      subst e1 e2
      split at hh
      · rename_i htu
        subst htu
        split at hh <;> first | (cases hh; done) | skip
        rename_i c d hx hy
        obtain ⟨v, w', g1, g2⟩ := appendW_sound (ty := o.type) hr hh (ev_sound hr.gr hs hx) (ev_sound hr.gr hs hy)
        refine wp_value (w' := w') (v := v) (by simp [ho]) ?_ (hn _ _ g2)
        simp only [execOp, ho, resolve, invoke, builtin, Sem.run_bind, Sem.run_pure, Result.andThen_ok, List.map_toArray, List.map_cons, List.map_nil, g1]
      · split at hh
        rotate_left 1
        · split at hh <;> first | (cases hh; done) | skip
          rename_i hint
          split at hh <;> first | (cases hh; done) | skip
          rename_i c n hx hy
          have hu : C.P.underlying u = some (.int .i64) := by
            unfold isIntT at hint
            split at hint
            · assumption
            · cases hint
          obtain ⟨v, w', g1, g2⟩ := appendZ_sound (ty := o.type) hr hu hh (ev_sound hr.gr hs hx)
          refine wp_value (w' := w') (v := v) (by simp [ho]) ?_ (hn _ _ g2)
          have hyv := rel_int (ev_sound hr.gr hs hy)
          simp only [execOp, ho, resolve, invoke, builtin, Sem.run_bind, Sem.run_pure, Result.andThen_ok, List.map_toArray, List.map_cons, List.map_nil, hyv, g1]
        rename_i hstr
        split at hh <;> first | (cases hh; done) | skip
        rename_i c d hx hy
        obtain ⟨v, w', g1, g2⟩ := appendN_sound (ty := o.type) hr (.inr hstr) hh (ev_sound hr.gr hs hx) (ev_sound hr.gr hs hy)
        refine wp_value (w' := w') (v := v) (by simp [ho]) ?_ (hn _ _ g2)
        simp only [execOp, ho, resolve, invoke, builtin, Sem.run_bind, Sem.run_pure, Result.andThen_ok, List.map_toArray, List.map_cons, List.map_nil, g1]
    · rename_i f args argTypes ho
      split at hh <;> first | (cases hh; done) | skip
      · rename_i g captured l hx hl
        obtain ⟨k1, k2⟩ := evs_array hr.gr hs hl
        have hrx := ev_sound hr.gr hs hx
        obtain ⟨cs, hcs, hcl, hcr⟩ : ∃ cs : Array Value, a.eval f = .func (.func g) #[] cs ∧ cs.size = captured.length ∧ ∀ (i : Nat) c u, captured[i]? = some c → cs[i]? = some u → Rel C.P (Alw C.P B A0 σ h) σ h w c u := by
          generalize a.eval f = z at hrx
          cases hrx with
          | data hr => cases hr with | func h1 h2 => exact ⟨_, rfl, h1, fun i c u hc hu => .data (h2 i c u hc hu)⟩
          | func h1 h2 => exact ⟨_, rfl, h1, h2⟩
        have hlen : (args.map a.eval ++ cs).size = (l ++ captured).length := by rw [Array.size_append, List.length_append, k1, hcl]
        have hrel : ∀ (i : Nat) c u, (l ++ captured)[i]? = some c → (args.map a.eval ++ cs)[i]? = some u → Rel C.P (Alw C.P B A0 σ h) σ h w c u := (fun i c u hc hu => by
          by_cases hi : i < l.length
          · rw [List.getElem?_append_left hi] at hc
            rw [Array.getElem?_append_left (by omega)] at hu
            exact k2 i c u hc hu
          · rw [List.getElem?_append_right (by omega)] at hc
            rw [Array.getElem?_append_right (by omega), k1] at hu
            exact hcr _ c u hc hu)
        split at hh
        · rename_i hb
          have hcall := applyCall_sound rfl hrun hr hb (vs := args.map a.eval ++ cs) hh hlen hrel
          refine wp_enter (f := g) (vs := args.map a.eval ++ cs) (by simp [ho]) ?_ hcall hn
          simp only [execOp, ho, resolve, hcs, Deferred.ofValue, Sem.run_bind, Sem.run_pure, Result.andThen_ok, invoke, Array.empty_append]
          exact run_callFunc hP hb
        · unfold extV at hh
          split at hh <;> first | (cases hh; done) | skip
          rename_i us hus
          split at hh <;> first | (cases hh; done) | skip
          rename_i v hv
          split at hh <;> first | (cases hh; done) | skip
          rename_i r' hr'
          simp only [Option.some.injEq, Prod.mk.injEq] at hh; obtain ⟨rfl, rfl⟩ := hh
          have hvs : args.map a.eval ++ cs = us.toArray := toList_array hus hlen hrel
          have hex := C.extOk g us.toArray v w hv
          refine wp_value (w' := w) (v := v) (by simp [ho]) ?_ (hn _ _ ⟨σ, hr, .refl _ _ _, ofConst_Rel hr'⟩)
          simp only [execOp, ho, resolve, hcs, Deferred.ofValue, Sem.run_bind, Sem.run_pure, Result.andThen_ok, invoke, Array.empty_append]
          rw [hvs]; exact hex
      · rename_i i l hx hl
        obtain ⟨k1, k2⟩ := evs_array hr.gr hs hl
        have hrx := ev_sound hr.gr hs hx
        obtain ⟨b, hcs, hsi⟩ : ∃ b, a.eval f = .func (.yield b) #[] #[] ∧ σ[i]? = some (some b) := by
          generalize a.eval f = z at hrx
          cases hrx with
          | data hr => cases hr
          | yield h1 h2 => exact ⟨_, rfl, h1⟩
        obtain ⟨fn, tmps, assign, body, e1, e2⟩ := hrun.yl i l h r h' hh B A0 σ w (args.map a.eval) hr k1 (fun i c u hc hu => k2 i c u hc hu) b hsi
        refine wp_round (l := b) (by simp [ho]) ?_ e2 hn
        simp only [execOp, ho, resolve, hcs, Deferred.ofValue, Sem.run_bind, Sem.run_pure, Result.andThen_ok, invoke, Array.empty_append, e1]
    · rename_i t ho
      simp only [Option.some.injEq, Prod.mk.injEq] at hh; obtain ⟨rfl, rfl⟩ := hh
      obtain ⟨v, w', g1, g2⟩ := makeMap_sound hr t
      exact wp_value (by simp [ho]) (by simp only [execOp, ho]; simp only [Option.map_none, Sem.run_bind, g1, Result.andThen_ok, Sem.run_pure]) (hn _ _ g2)
    · rename_i t x i ok ho
      split at hh <;> first | (cases hh; done) | skip
      rename_i c d hx hy
      split at hh <;> first | (cases hh; done) | skip
      rename_i z hz
      simp only [Option.some.injEq, Prod.mk.injEq] at hh; obtain ⟨rfl, rfl⟩ := hh
      obtain ⟨v, g1, g2⟩ := lookupV_sound hr hz (ev_sound hr.gr hs hx) (ev_sound hr.gr hs hy)
      exact wp_value (by simp [ho]) (by simp only [execOp, ho]; simp only [Sem.run_bind, g1, Result.andThen_ok, Sem.run_pure]) (hn _ _ ⟨σ, hr, .refl _ _ _, g2⟩)
    · rename_i t m k x ho
      split at hh <;> first | (cases hh; done) | skip
      rename_i c d e hx hy hz
      split at hh <;> first | (cases hh; done) | skip
      rename_i h2 hst
      simp only [Option.some.injEq, Prod.mk.injEq] at hh; obtain ⟨rfl, rfl⟩ := hh
      obtain ⟨w', g1, g2, g3⟩ := mapUpdateV_sound hr hst (ev_sound hr.gr hs hx) (ev_sound hr.gr hs hy) (ev_sound hr.gr hs hz)
      exact wp_skip' (w' := w') (by simp [ho]) (by simp only [execOp, ho, Sem.run_bind, g1, Result.andThen_ok, Sem.run_pure]) (hn _ _ ⟨σ, g2, g3, .data (.tuple (vs := #[]) rfl (by simp))⟩)
    · rename_i t m k x ho
      split at hh <;> first | (cases hh; done) | skip
      rename_i c d e hx hy hz
      split at hh <;> first | (cases hh; done) | skip
      rename_i h2 hst
      simp only [Option.some.injEq, Prod.mk.injEq] at hh; obtain ⟨rfl, rfl⟩ := hh
      obtain ⟨w', g1, g2, g3⟩ := mapUpdateV_sound hr hst (ev_sound hr.gr hs hx) (ev_sound hr.gr hs hy) (ev_sound hr.gr hs hz)
      exact wp_skip' (w' := w') (by simp [ho]) (by simp only [execOp, ho, Sem.run_bind, g1, Result.andThen_ok, Sem.run_pure]) (hn _ _ ⟨σ, g2, g3, .data (.tuple (vs := #[]) rfl (by simp))⟩)
    · rename_i args argTypes ho
      split at hh <;> first | (cases hh; done) | skip
      rename_i x t hargs htypes
      have e1 : args = #[x] := by apply Array.ext'; simpa using hargs
      have e2 : argTypes = #[t] := by apply Array.ext'; simpa using htypes
      subst e1 e2
      split at hh <;> first | (cases hh; done) | skip
      rename_i c hx
      split at hh <;> first | (cases hh; done) | skip
      rename_i h2 hst
      simp only [Option.some.injEq, Prod.mk.injEq] at hh; obtain ⟨rfl, rfl⟩ := hh
      obtain ⟨w', g1, g2, g3⟩ := clearV_sound (ty := o.type) hr hst (ev_sound hr.gr hs hx)
      refine wp_value (w' := w') (v := .tuple #[]) (by simp [ho]) ?_ (hn _ _ ⟨σ, g2, g3, .data (.tuple (vs := #[]) rfl (by simp))⟩)
      simp only [execOp, ho, resolve, invoke, builtin, Sem.run_bind, Sem.run_pure, Result.andThen_ok, List.map_toArray, List.map_cons, List.map_nil, g1]
    · rename_i args argTypes ho
      split at hh <;> first | (cases hh; done) | skip
      rename_i x y t u hargs htypes
      have e1 : args = #[x, y] := by apply Array.ext'; simpa using hargs
      have e2 : argTypes = #[t, u] := by apply Array.ext'; simpa using htypes
      subst e1 e2
      split at hh <;> first | (cases hh; done) | skip
      rename_i htu
      split at hh <;> first | (cases hh; done) | skip
      rename_i c d hx hy
      have hut : (∃ e, C.P.underlying u = some (.slice e)) ∨ C.P.underlying u = some .string := by
        rcases htu with rfl | hu
        · left
          unfold copyV at hh
          split at hh <;> first | (cases hh; done) | skip
          exact ⟨_, ‹_›⟩
        · right
          unfold isStrT at hu
          split at hu
          · assumption
          · cases hu
      obtain ⟨v, w', g1, g2⟩ := copyV_sound (ty := o.type) hr hut hh (ev_sound hr.gr hs hx) (ev_sound hr.gr hs hy)
      refine wp_value (w' := w') (v := v) (by simp [ho]) ?_ (hn _ _ g2)
      simp only [execOp, ho, resolve, invoke, builtin, Sem.run_bind, Sem.run_pure, Result.andThen_ok, List.map_toArray, List.map_cons, List.map_nil, g1]
    · cases hh
  · split at hh
    · rename_i t x ho
      split at hh <;> first | (cases hh; done) | skip
      rename_i c hx
      split at hh <;> first | (cases hh; done) | skip
      rename_i v hv
      simp only [Option.some.injEq, Prod.mk.injEq] at hh; obtain ⟨rfl, rfl⟩ := hh
      obtain ⟨u, g1, g2⟩ := loadV_sound hr hv (ev_sound hr.gr hs hx)
      exact wp_value (by simp [ho]) (by simp only [execOp, ho]; simp only [Sem.run_bind, g1, Result.andThen_ok, Sem.run_pure]) (hn _ _ ⟨σ, hr, .refl _ _ _, g2⟩)
    · split at hh <;> first | (cases hh; done) | skip
      rename_i v hv
      simp only [Option.some.injEq, Prod.mk.injEq] at hh; obtain ⟨rfl, rfl⟩ := hh
      obtain ⟨u, g1, g2⟩ := opN_sound hP hr.gr hs hv
      exact wp_value (opN_nd hv) g1 (hn _ _ ⟨σ, hr, .refl _ _ _, g2⟩)
end
end Go.V
