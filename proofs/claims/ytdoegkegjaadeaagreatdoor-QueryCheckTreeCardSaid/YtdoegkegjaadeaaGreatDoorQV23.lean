/- Calls that read a row of one's own. -/
import Derived.Test.YtdoegkegjaadeaaGreatDoorQV22
namespace Go.V
open Go
theorem snap_msl_cons {h : H} {id len : Nat} {cap : Option Nat} {cs : List AV} (hid : h[id]? = some (.cells cs .live)) (hl : len ≤ cs.length) (hsc : dats1 cs = some cs) (hc : cs.length < 900000)
    {rest rest' : List AV} (hd : dats rest = some rest') (hs : rest.all short = true) (hr : rest.length < 90000) :
    reachs h deep (.msl id 0 1 len cap :: rest) = [id] ∧ snaps (freeze h [id]) deep (.msl id 0 1 len cap :: rest) = some (.isl (chunk 1 len cs) .unk :: rest') := by
  obtain ⟨m, hm⟩ : ∃ m, deep = m + 3 := ⟨999997, rfl⟩
  have hm' : m = 999997 := by unfold deep at hm; omega
  obtain ⟨a1, a2⟩ := dats_snap (h := h) hd hs (m + 2) (by omega)
  obtain ⟨b1, b2⟩ := dats_snap (h := freeze h [id]) hd hs (m + 2) (by omega)
  obtain ⟨e1, e2⟩ := dats1_snap (h := h) hsc m (by omega)
  obtain ⟨e3, e4⟩ := dats1_snap (h := freeze h [id]) hsc m (by omega)
  have hz : (freeze h [id])[id]? = some (.cells cs .frozen) := by
    rw [freeze_spec, hid]; simp
  rw [hm]
  constructor
  · simp only [reachs, reach, hid, e2, a2, List.append_nil]
  · simp only [snaps, snap, hz, e3, b1, List.drop_zero]
    rw [if_pos (by omega)]
/-- A call that reads a row of one's own, and answers with numbers alone. -/
theorem callV_row {C : Cfg} {f : FuncId} {h : H} {id len : Nat} {cap : Option Nat} {cs : List AV} {rest rest' : List AV} {v : AV} (hb : hasBody C.P f = true) (hm : C.mode f = .strip) (hid : h[id]? = some (.cells cs .live)) (hl : len ≤ cs.length) (hsc : dats1 cs = some cs) (hc : cs.length < 900000)
    (hd : dats rest = some rest') (hs : rest.all short = true) (hr : rest.length < 90000) (hv : CallP C f (.isl (chunk 1 len cs) .unk :: rest') = some v) (hsv : scal v = true) :
    callV C h (.func f []) (some (.msl id 0 1 len cap :: rest)) = some (v, h) := by
  obtain ⟨e1, e2⟩ := snap_msl_cons (cap := cap) hid hl hsc hc hd hs hr
  simp only [callV, hb, if_true, List.append_nil]
  unfold applyCall
  rw [hm]
  dsimp only
  rw [e1, e2]
  unfold CallP at hv
  dsimp only
  split at hv <;> first | (cases hv; done) | skip
  rename_i r h1 hx
  rw [hx]
  dsimp only
  unfold finishV stripV
  dsimp only
  rw [hv]
  dsimp only
  rw [if_pos hsv]
/-- A call that reads a row of one's own, and answers with a row of numbers. -/
theorem callV_rowT {C : Cfg} {f : FuncId} {h h1 : H} {id len j n : Nat} {cap c : Option Nat} {cs ds : List AV} {rest rest' : List AV} (hb : hasBody C.P f = true) (hm : C.mode f = .ownT) (hid : h[id]? = some (.cells cs .live)) (hl : len ≤ cs.length) (hsc : dats1 cs = some cs) (hc : cs.length < 900000)
    (hd : dats rest = some rest') (hs : rest.all short = true) (hr : rest.length < 90000) (hv : Call C f (.isl (chunk 1 len cs) .unk :: rest') [] = some (.msl j 0 1 n c, h1)) (hj : h1[j]? = some (.cells ds .live)) (hds : scalars ds = true) (hn : n ≤ ds.length) :
    callV C h (.func f []) (some (.msl id 0 1 len cap :: rest)) = some (.isl (ds.take n) .unk, h) := by
  obtain ⟨e1, e2⟩ := snap_msl_cons (cap := cap) hid hl hsc hc hd hs hr
  simp only [callV, hb, if_true, List.append_nil]
  unfold applyCall
  rw [hm]
  dsimp only
  rw [e1, e2]
  dsimp only
  rw [hv]
  dsimp only
  unfold finishV adoptR adopt
  dsimp only
  rw [hj]
  dsimp only
  rw [if_pos ⟨hds, rfl, by omega⟩]
  simp
end Go.V
