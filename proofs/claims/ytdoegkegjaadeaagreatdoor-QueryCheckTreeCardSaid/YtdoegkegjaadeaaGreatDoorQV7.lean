/- All operations that look at their operands alone, in one law; loads. -/
import Derived.Test.YtdoegkegjaadeaaGreatDoorQV6
import Derived.Laws.BytesString
import Derived.Laws.Cells
namespace Go.V
open Go

/-- What is asked of a program, once. -/
structure Good (P : Program) : Prop where
  names : ∀ (f : Nat) fn, P.funcs[f]? = some fn → (fn.name == "runtime.NumGoroutine") = false
  mixed : P.follows .mixedOrders = true

section
variable {P : Program} {A : Nat → Nat → Prop} {σ : List (Option Nat)} {h : H} {w : World} {n : Nat} {s : PT} {a : Act}

theorem val_of {e : Sem Value} {v : Value} (he : e.run P w = .ok v w) : (do pure (.value (← e)) : Sem Next).run P w = .ok (.value v) w := by
  simp only [Sem.run_bind, he, Result.andThen_ok, Sem.run_pure]

set_option maxHeartbeats 1000000 in
theorem byteL_spec : ∀ {es : List AV} {ns : List Int}, byteL es = some ns → es = ns.map (AV.int .u8) := by
  intro es
  induction es with
  | nil => intro ns h; simp only [byteL, Option.some.injEq] at h; subst h; rfl
  | cons e es ih =>
    intro ns h
    unfold byteL at h
    split at h
    · rename_i e0; cases e0
    · rename_i n r e0
      simp only [List.cons.injEq] at e0; obtain ⟨rfl, rfl⟩ := e0
      split at h <;> first | (cases h; done) | skip
      rename_i l hl
      simp only [Option.some.injEq] at h; subst h
      rw [ih hl]; rfl
    · cases h
theorem convB_sound {P : Program} {A : Nat → Nat → Prop} {σ : List (Option Nat)} {h : H} {w : World} {src dst : TypeId} {es : List AV} {x : Ext} {r : AV} {u : Value} (hh : convB P src dst es = some r) (ra : Rel P A σ h w (.isl es x) u) : ∃ z, (convert src dst u).run P w = .ok z w ∧ Rel P A σ h w r z := by
  unfold convB at hh
  split at hh <;> first | (cases hh; done) | skip
  rename_i e hs hd
  split at hh <;> first | (cases hh; done) | skip
  rename_i ns he hb
  simp only [Option.some.injEq] at hh; subst hh
  have hes := byteL_spec hb
  subst hes
  rcases irel_isl (rel_isl ra) with ⟨hnil, base, cap, rfl, hm, hn⟩ | ⟨sz, b, o, cap, f, rfl, g1, g2, g3, g4, g5, g6, g7⟩
  · have : ns = [] := by simpa using hnil
    subst this
    refine ⟨.string ByteArray.empty, ?_, .data (.str _)⟩
    rw [run_convert_bytes_string w src dst e _ _ _ hs he hd]
    cases base with
    | none => simp [Conv.bytesToString]
    | some a => simp [Conv.bytesToString, loadCells, loadCellsFrom]
  · refine ⟨.string (strOf ns), ?_, .data (.str _)⟩
    rw [run_convert_bytes_string w src dst e _ _ _ hs he hd]
    have hl : (ns.map (Value.int .u8)).length = ns.length := by simp
    have := run_loadCells_list (P := P) w ⟨b, o, none⟩ (ns.map (Value.int .u8)) (fun j v hv => by
      rw [List.getElem?_map] at hv
      obtain ⟨n, hn, rfl⟩ := Option.map_eq_some_iff.1 hv
      have hj : (ns.map (AV.int .u8))[j]? = some (.int .u8 n) := by rw [List.getElem?_map, hn]; rfl
      have hsz : sz = 1 := by have := (g4 _ (List.mem_of_getElem? hj)).1; simpa [AV.cells] using this.symm
      subst hsz
      have h1 := (g6 j 0 _ _ hj rfl).2
      have h2 := g7 j 0 _ _ hj rfl
      generalize f j 0 = z at h1 h2
      cases h2
      rw [addr_add]; simpa using h1)
    rw [hl] at this
    rw [List.length_map]
    exact run_bytesToString w _ ns.length cap ns this
theorem opN_sound (_hP : Good P) (hg : GlobR A w) (hs : SRel P A σ h w n s a.tmps) {o : Oper} {r : AV} (hh : opN P s o = some r) : ∃ v, (execOp a.eval o).run P w = .ok (.value v) w ∧ Rel P A σ h w r v := by
  unfold opN at hh
  split at hh
  · rename_i x ho
    exact ⟨_, by simp only [execOp, ho, Sem.run_pure], ev_sound hg hs hh⟩
  · rename_i x ho
    exact ⟨_, by simp only [execOp, ho, Sem.run_pure], ev_sound hg hs hh⟩
  · rename_i c x y ho
    split at hh <;> first | (cases hh; done) | skip
    · rename_i hc
      exact ⟨_, by simp only [execOp, ho, Sem.run_bind, rel_bool (ev_sound hg hs hc), asBool, Sem.run_pure, Result.andThen_ok, if_true], ev_sound hg hs hh⟩
    · rename_i hc
      exact ⟨_, by simp only [execOp, ho, Sem.run_bind, rel_bool (ev_sound hg hs hc), asBool, Sem.run_pure, Result.andThen_ok, Bool.false_eq_true, if_false], ev_sound hg hs hh⟩
  · rename_i t parts ho
    split at hh <;> first | (cases hh; done) | skip
    rename_i l hl
    obtain ⟨e1, e2⟩ := partsV_sound hg hs _ _ hl
    obtain ⟨z, g1, g2⟩ := buildV_sound (us := parts.map fun (i, x) => (i, a.eval x)) hh (by simpa using e1.symm) (fun k i c j u hc hu => by
      rw [Array.getElem?_map] at hu
      cases hp : parts[k]? with
      | none => simp [hp] at hu
      | some q => obtain ⟨j', x⟩ := q; simp [hp] at hu; obtain ⟨rfl, rfl⟩ := hu; exact e2 k i c _ x hc (by simpa using hp))
    exact ⟨z, by simp only [execOp, ho]; exact val_of g1, g2⟩
  · rename_i x ho
    split at hh <;> first | (cases hh; done) | skip
    all_goals (rename_i hx; simp only [Option.some.injEq] at hh; subst hh; have hr := ev_sound hg hs hx)
    · obtain ⟨b, e1, e2, e3⟩ := rel_ptr hr
      exact ⟨a.eval x, by simp only [execOp, ho, e1, Sem.run_pure], hr⟩
    · obtain ⟨b, o', f, e1, _⟩ := rel_iptr hr
      exact ⟨a.eval x, by simp only [execOp, ho, e1, Sem.run_pure], hr⟩
    · have : ∃ g vs, a.eval x = .func (.func g) #[] vs := by
        generalize a.eval x = z at hr
        cases hr with
        | data hr => cases hr; exact ⟨_, _, rfl⟩
        | func => exact ⟨_, _, rfl⟩
      obtain ⟨g, vs, e1⟩ := this
      exact ⟨a.eval x, by simp only [execOp, ho, e1, Sem.run_pure], hr⟩
  · rename_i op t x y yt ho
    split at hh <;> first | (cases hh; done) | skip
    rename_i c d hx hy
    obtain ⟨z, g1, g2⟩ := binV_sound hh (ev_sound hg hs hx) (ev_sound hg hs hy) (fun e => by subst e; rfl)
    exact ⟨z, by simp only [execOp, ho]; exact val_of g1, g2⟩
  · rename_i op t x ho
    split at hh <;> first | (cases hh; done) | skip
    rename_i c hx
    obtain ⟨z, g1, g2⟩ := unV_sound hh (ev_sound hg hs hx)
    exact ⟨z, by simp only [execOp, ho]; exact val_of g1, g2⟩
  · rename_i src dst x ho
    split at hh <;> first | (cases hh; done) | skip
    · rename_i es ext hx
      obtain ⟨z, g1, g2⟩ := convB_sound hh (ev_sound hg hs hx)
      exact ⟨z, by simp only [execOp, ho]; exact val_of g1, g2⟩
    · rename_i c hx
      obtain ⟨z, g1, g2⟩ := convV_sound hh (ev_sound hg hs hx)
      exact ⟨z, by simp only [execOp, ho]; exact val_of g1, g2⟩
  · rename_i t x ho
    split at hh <;> first | (cases hh; done) | skip
    rename_i d c hni hu hx
    split at hh <;> first | (cases hh; done) | skip
    rename_i hn
    simp only [Option.some.injEq] at hh; subst hh
    refine ⟨_, ?_, .iface hn (ev_sound hg hs hx)⟩
    simp only [execOp, ho]
    refine val_of ?_
    simp only [Instr.makeInterface, Sem.run_bind, run_under hu, Result.andThen_ok]
    cases d <;> first | rfl | exact absurd rfl (hni _)
  · rename_i f first captured ho
    split at hh <;> first | (cases hh; done) | skip
    rename_i hf
    split at hh <;> first | (cases hh; done) | skip
    rename_i l hl
    simp only [Option.some.injEq] at hh; subst hh
    have hfe : first = #[] := by simpa using hf
    subst hfe
    obtain ⟨e1, e2⟩ := evs_sound hg hs _ _ hl
    refine ⟨_, by simp only [execOp, ho]; exact val_of (v := .func (.func f) #[] (captured.map a.eval)) (by simp [Instr.makeFunc]), .func (vs := captured.map a.eval) (by simpa using e1.symm) (fun i c v hc hv => ?_)⟩
    rw [Array.getElem?_map] at hv
    cases hp : captured[i]? with
    | none => simp [hp] at hv
    | some x => simp [hp] at hv; subst hv; exact e2 i c x hc (by simpa using hp)
  · rename_i t x lo hi mx ho
    split at hh <;> first | (cases hh; done) | skip
    rename_i c hx
    split at hh <;> first | (cases hh; done) | skip
    rename_i q1 q2 q3
    obtain ⟨z, g1, g2⟩ := sliceV_sound hh (ev_sound hg hs hx) (opt_eval hg hs (fun e => q1 e)) (opt_eval hg hs (fun e => q2 e)) (opt_eval hg hs (fun e => q3 e))
    exact ⟨z, by simp only [execOp, ho]; exact val_of g1, g2⟩
  · rename_i t x f ho
    split at hh <;> first | (cases hh; done) | skip
    rename_i c hx
    obtain ⟨z, g1, g2⟩ := fieldAddrV_sound hh (ev_sound hg hs hx)
    exact ⟨z, by simp only [execOp, ho]; exact val_of g1, g2⟩
  · rename_i t x f ho
    split at hh <;> first | (cases hh; done) | skip
    rename_i c hx
    obtain ⟨z, g1, g2⟩ := fieldV_sound hh (ev_sound hg hs hx)
    exact ⟨z, by simp only [execOp, ho]; exact val_of g1, g2⟩
  · rename_i t x i ho
    split at hh <;> first | (cases hh; done) | skip
    rename_i c d hx hy
    obtain ⟨z, g1, g2⟩ := indexAddrV_sound hh (ev_sound hg hs hx) (ev_sound hg hs hy)
    exact ⟨z, by simp only [execOp, ho]; exact val_of g1, g2⟩
  · rename_i t x i ho
    split at hh <;> first | (cases hh; done) | skip
    rename_i c d hx hy
    obtain ⟨z, g1, g2⟩ := indexV_sound hh (ev_sound hg hs hx) (ev_sound hg hs hy)
    exact ⟨z, by simp only [execOp, ho]; exact val_of g1, g2⟩
  · rename_i x i ho
    split at hh <;> first | (cases hh; done) | skip
    rename_i l hx
    obtain ⟨vs, e1, e2, e3⟩ := rel_tuple (ev_sound hg hs hx)
    have hi : i < l.length := by
      rcases Nat.lt_or_ge i l.length with hi | hi
      · exact hi
      · rw [List.getElem?_eq_none hi] at hh; cases hh
    have hv : vs[i]? = some (vs[i]'(by omega)) := Array.getElem?_eq_getElem _
    exact ⟨_, by simp only [execOp, ho, e1]; exact val_of (by simp only [Instr.extract, hv, Sem.run_pure]), e3 i r _ hh hv⟩
  · rename_i args argTypes ho
    split at hh <;> first | (cases hh; done) | skip
    rename_i x t hargs htypes
    split at hh <;> first | (cases hh; done) | skip
    rename_i c hx
    have e1 : args = #[x] := by apply Array.ext'; simpa using hargs
    have e2 : argTypes = #[t] := by apply Array.ext'; simpa using htypes
    subst e1 e2
    obtain ⟨z, g1, g2⟩ := lenV_sound (ty := o.type) hh (ev_sound hg hs hx)
    refine ⟨z, ?_, g2⟩
    simp only [execOp, ho, resolve, invoke, builtin, Sem.run_bind, Sem.run_pure, Result.andThen_ok, List.map_toArray, List.map_cons, List.map_nil, g1]
  · rename_i args argTypes ho
    split at hh <;> first | (cases hh; done) | skip
    rename_i x t hargs htypes
    split at hh <;> first | (cases hh; done) | skip
    rename_i c hx
    have e1 : args = #[x] := by apply Array.ext'; simpa using hargs
    have e2 : argTypes = #[t] := by apply Array.ext'; simpa using htypes
    subst e1 e2
    obtain ⟨z, g1, g2⟩ := capV_sound (ty := o.type) hh (ev_sound hg hs hx)
    refine ⟨z, ?_, g2⟩
    simp only [execOp, ho, resolve, invoke, builtin, Sem.run_bind, Sem.run_pure, Result.andThen_ok, List.map_toArray, List.map_cons, List.map_nil, g1]
  · rename_i args argTypes ho
    split at hh <;> first | (cases hh; done) | skip
    rename_i l hl
    obtain ⟨e1, e2⟩ := evs_sound hg hs _ _ hl
    obtain ⟨z, g1, g2⟩ := minmaxV_sound (us := args.map a.eval) (at_ := argTypes) (ty := o.type) hh (by simpa using e1.symm) (fun i c u hc hu => by
      rw [Array.getElem?_map] at hu
      cases hp : args[i]? with
      | none => simp [hp] at hu
      | some x => simp [hp] at hu; subst hu; exact e2 i c x hc (by simpa using hp))
    refine ⟨z, ?_, g2⟩
    simp only [Bool.false_eq_true, if_false] at g1
    simp only [execOp, ho, resolve, invoke, builtin, Sem.run_bind, Sem.run_pure, Result.andThen_ok, g1]
  · rename_i args argTypes ho
    split at hh <;> first | (cases hh; done) | skip
    rename_i l hl
    obtain ⟨e1, e2⟩ := evs_sound hg hs _ _ hl
    obtain ⟨z, g1, g2⟩ := minmaxV_sound (us := args.map a.eval) (at_ := argTypes) (ty := o.type) hh (by simpa using e1.symm) (fun i c u hc hu => by
      rw [Array.getElem?_map] at hu
      cases hp : args[i]? with
      | none => simp [hp] at hu
      | some x => simp [hp] at hu; subst hu; exact e2 i c x hc (by simpa using hp))
    refine ⟨z, ?_, g2⟩
    simp only [if_true] at g1
    simp only [execOp, ho, resolve, invoke, builtin, Sem.run_bind, Sem.run_pure, Result.andThen_ok, g1]
  · cases hh

/-- A row of cells, loaded. -/
theorem cellsAt_load {t : TypeId} {cs : List AV} {off : Nat} {r : AV} {b o : Nat} (hh : cellsAt P t cs off = some r) (h1 : ∀ c ∈ cs, c.one = true)
    (hr : ∀ (i : Nat) c, cs[i]? = some c → ∃ v, w.cell? ⟨b, o + i, none⟩ = some v ∧ Rel P A σ h w c v) : ∃ v, (loadVar t ⟨b, o + off, none⟩).run P w = .ok v w ∧ Rel P A σ h w r v := by
  unfold cellsAt at hh
  split at hh <;> first | (cases hh; done) | skip
  · rename_i n ha hn
    split at hh <;> first | (cases hh; done) | skip
    rename_i hb
    simp only [Option.some.injEq] at hh; subst hh
    have hx : ∀ j, j < n → ∃ v c, w.cell? ⟨b, o + off + j, none⟩ = some v ∧ cs[off + j]? = some c ∧ Rel P A σ h w c v := fun j hj => by
      have hc : cs[off + j]? = some (cs[off + j]'(by omega)) := List.getElem?_eq_getElem _
      obtain ⟨v, e1, e2⟩ := hr _ _ hc
      exact ⟨v, _, by rw [Nat.add_assoc]; exact e1, hc, e2⟩
    have hL : ∃ f : Nat → Value, ∀ j, j < n → w.cell? ((⟨b, o + off, none⟩ : Addr).add j) = some (f j) := ⟨fun j => (w.cell? ⟨b, o + off + j, none⟩).getD undef, fun j hj => by
      obtain ⟨v, c, e1, _⟩ := hx j hj
      rw [addr_add, e1]; simp [e1]⟩
    obtain ⟨f, hf⟩ := hL
    refine ⟨_, ?_, .agg (vs := ((List.range n).map f).toArray) (fun c hc => h1 c (List.mem_of_mem_drop (List.mem_of_mem_take hc))) (by simp; omega) (fun i c v hi hv => ?_)⟩
    · simp only [loadVar, Sem.run_bind, run_isAgg ha, Result.andThen_ok, if_true, run_sizeOf hn, run_loadCells w _ n f hf, Sem.run_pure]
    · rw [getElem?_drop_take] at hi
      split at hi <;> first | (cases hi; done) | skip
      rename_i hin
      obtain ⟨v', c', e1, e2, e3⟩ := hx i hin
      have := hf i hin
      rw [addr_add, e1] at this
      simp only [List.getElem?_toArray, List.getElem?_map, List.getElem?_range hin, Option.map_some, Option.some.injEq] at hv
      simp only [Option.some.injEq] at this
      rw [e2] at hi
      simp only [Option.some.injEq] at hi
      rw [← hi, ← hv, ← this]; exact e3
  · rename_i n ha hn
    obtain ⟨v, e1, e2⟩ := hr _ _ hh
    refine ⟨v, ?_, e2⟩
    simp only [loadVar, Sem.run_bind, run_isAgg ha, Result.andThen_ok, Bool.false_eq_true, if_false]
    simp [e1]
end
section
variable {P : Program} {B : Nat} {A0 : Nat → Nat → Prop} {σ : List (Option Nat)} {h : H} {w : World} {n : Nat} {s : PT} {a : Act}

theorem loadV_sound (hr : HRel P B A0 σ h w) {t : TypeId} {x r : AV} {u : Value} (hh : loadV P h t x = some r) (rx : Rel P (Alw P B A0 σ h) σ h w x u) :
    ∃ v, (Instr.loadAt t u).run P w = .ok v w ∧ Rel P (Alw P B A0 σ h) σ h w r v := by
  unfold loadV at hh
  have key : ∀ (id off : Nat) cs st, h[id]? = some (.cells cs st) → st ≠ .dead → x = .ptr id off → cellsAt P t cs off = some r → ∃ v, (Instr.loadAt t u).run P w = .ok v w ∧ Rel P (Alw P B A0 σ h) σ h w r v := by
    intro id off cs st hid hst hx hc
    subst hx
    obtain ⟨b, rfl, g1, _⟩ := rel_ptr rx
    obtain ⟨b', vs, ty, k1, k2, k3, k4, k5, k6⟩ := hr.cells id cs st hid hst
    rw [g1] at k1
    simp only [Option.some.injEq] at k1; subst k1
    obtain ⟨v, e1, e2⟩ := cellsAt_load (b := b) (o := 0) hc k5 (fun i c hi => by
      have hl : i < cs.length := (List.getElem?_eq_some_iff.1 hi).1
      have hv : vs[i]? = some (vs[i]'(by omega)) := Array.getElem?_eq_getElem _
      exact ⟨_, by rw [Nat.zero_add, cell_of_row w b i vs ty _ k3, hv], k6 i c _ hi hv⟩)
    rw [Nat.zero_add] at e1
    exact ⟨v, by simp only [Instr.loadAt, Instr.sureAddr, Sem.run_bind, Sem.run_pure, Result.andThen_ok, e1], e2⟩
  split at hh <;> first | (cases hh; done) | skip
  · rename_i id off
    split at hh <;> first | (cases hh; done) | skip
    · rename_i cs hid; exact key id off cs _ hid (by simp) rfl hh
    · rename_i cs hid; exact key id off cs _ hid (by simp) rfl hh
  · rename_i e off
    obtain ⟨b, o, f, rfl, g1, g2, g3⟩ := rel_iptr rx
    obtain ⟨v, e1, e2⟩ := cellsAt_load (A := Alw P B A0 σ h) (σ := σ) (h := h) (b := b) (o := o) hh g1 (fun i c hi => ⟨f i, (g2 i c hi).2, .data (g3 i c hi)⟩)
    exact ⟨v, by simp only [Instr.loadAt, Instr.sureAddr, Sem.run_bind, Sem.run_pure, Result.andThen_ok, e1], e2⟩
end
end Go.V
