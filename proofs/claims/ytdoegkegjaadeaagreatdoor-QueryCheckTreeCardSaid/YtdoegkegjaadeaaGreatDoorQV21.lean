/- Calls whose outcome keeps memory; calls that read a row of one's own. -/
import Derived.Test.YtdoegkegjaadeaaGreatDoorQV20
namespace Go.V
open Go
/-- A call's outcome with what it leaves, worked from its first row. -/
theorem Call_W {C : Cfg} {f : FuncId} {args : List AV} {fn : Func} {c : Code} {h h1 : H} {v : AV} (hp : C.prim f args h = none) (hf : C.P.funcs[f]? = some fn) (hb : fn.body = some c) (hok : codeOk C f fn.ntmps false c = true) (hn : args.length ≤ fn.ntmps)
    (hw : ∀ R : Ex → PT → H → Prop, (∀ e s h, (e = .normal ∨ e = .ret) → (∃ r, resultV C.P s h fn.results.toList = some r ∧ (r, h) = (v, h1)) → R e s h) → W C f R c [] (initS 0 args .leaf) h) : Call C f args h = some (v, h1) := by
  obtain ⟨e, s', h', hx, he, r, h1, h2⟩ := hw (fun e s h => (e = .normal ∨ e = .ret) ∧ ∃ r, resultV C.P s h fn.results.toList = some r ∧ (r, h) = (v, h1)) fun _ _ _ he hr => ⟨he, hr⟩
  rw [Call_eq hp hf hb hok hn, hx]
  rcases he with rfl | rfl <;> simp only [h1, h2]

/-- A row of one's own, of numbers: what a callee sees of it. -/
theorem snap_msl_n {h : H} {id len : Nat} {cap : Option Nat} {cs : List AV} (hid : h[id]? = some (.cells cs .live)) (hl : len ≤ cs.length) (hsc : dats1 cs = some cs) (m : Nat) (hm : cs.length < m) :
    reachs h (m + 3) [.msl id 0 1 len cap] = [id] ∧ snaps (freeze h [id]) (m + 3) [.msl id 0 1 len cap] = some [.isl (chunk 1 len cs) .unk] := by
  obtain ⟨e1, e2⟩ := dats1_snap (h := h) hsc m hm
  obtain ⟨e3, e4⟩ := dats1_snap (h := freeze h [id]) hsc m hm
  have hz : (freeze h [id])[id]? = some (.cells cs .frozen) := by
    rw [freeze_spec, hid]; simp
  constructor
  · simp only [reachs, reach, hid, e2, List.append_nil]
  · simp only [snaps, snap, hz, e3, List.drop_zero]
    rw [if_pos (by omega)]
theorem snap_msl {h : H} {id len : Nat} {cap : Option Nat} {cs : List AV} (hid : h[id]? = some (.cells cs .live)) (hl : len ≤ cs.length) (hsc : dats1 cs = some cs) (hc : cs.length < 900000) :
    reachs h deep [.msl id 0 1 len cap] = [id] ∧ snaps (freeze h [id]) deep [.msl id 0 1 len cap] = some [.isl (chunk 1 len cs) .unk] :=
  snap_msl_n hid hl hsc 999997 (by omega)
theorem chunk1 : ∀ (cs : List AV), chunk 1 cs.length cs = cs := by
  intro cs
  induction cs with
  | nil => rfl
  | cons c cs ih => simp only [List.length_cons, chunk, List.drop_succ_cons, List.drop_zero, ih]
/-- A slice of values that hold no memory of the call's own. -/
theorem buildSlice_dats {P : Program} {h : H} {t e : TypeId} {len sz : Nat} {parts : List (Nat × AV)} {es : List AV} (hu : P.underlying t = some (.slice e)) (hs : sizeV P e = some sz) (hz : zeroOk P e = true) (h0 : (sz == 0) = false)
    (hl : len * sz ≤ 16777216) (hi : (parts.map (·.1) == List.range len) = true) (hd : dats (parts.map (·.2)) = some es) (hsh : (parts.map (·.2)).all short = true) (hpl : parts.length < 90000) (he : elemOkV sz es = true) :
    buildSliceV P h t len parts = some (.isl es .full, h) := by
  obtain ⟨e1, e2⟩ := dats_snap (h := h) hd hsh deep (by simp only [List.length_map]; unfold deep; omega)
  have hcond : (!zeroOk P e || sz == 0 || !decide (len * sz ≤ 16777216) || !(parts.map (·.1) == List.range len)) = false := by
    rw [hz, h0, hi]; simp [hl]
  unfold buildSliceV
  rw [hu]
  simp only [hs]
  simp only [hcond, Bool.false_eq_true, if_false, e2, freeze, e1, he, if_true]
/-- Of one row of one's own. -/
theorem buildSlice_row {P : Program} {h : H} {t e : TypeId} {id len : Nat} {cap : Option Nat} {cs : List AV} (hu : P.underlying t = some (.slice e)) (hs : sizeV P e = some 1) (hz : zeroOk P e = true)
    (hid : h[id]? = some (.cells cs .live)) (hl : len ≤ cs.length) (hsc : dats1 cs = some cs) (hc : cs.length < 900000) :
    buildSliceV P h t 1 [(0, .msl id 0 1 len cap)] = some (.isl [.isl (chunk 1 len cs) .unk] .full, freeze h [id]) := by
  obtain ⟨e1, e2⟩ := snap_msl (cap := cap) hid hl hsc hc
  unfold buildSliceV
  rw [hu]
  simp only [hs]
  rw [if_neg (by simp [hz, List.range_succ])]
  simp only [List.map_cons, List.map_nil, e1, e2]
  simp [elemOkV, AV.cells, notTuple]
end Go.V
