/- Copies of rows of moments and of numbers. -/
import Derived.Test.YtdoegkegjaadeaaGreatDoorESce
namespace Go.VZ
open Go Go.V Go.Proofs TL
def cellsM (l : List Mo) : List AV := l.flatMap fun m => (encM m).cells
theorem cellsM_cons (a : Mo) (l : List Mo) : cellsM (a :: l) = [.int .i64 a.kind, .int .i64 a.number, .int .i64 a.role, .isl a.ag .unk, .int .i64 a.goal, terms a.terms] ++ cellsM l := rfl
theorem cellsM_len (l : List Mo) : (cellsM l).length = 6 * l.length := by
  induction l with
  | nil => rfl
  | cons a l ih => rw [cellsM_cons, List.length_append, ih]; simp; omega
theorem dats_cellsM (l : List Mo) : dats (cellsM l) = some (cellsM l) := by
  induction l with
  | nil => rfl
  | cons a l ih => rw [cellsM_cons]; exact dats_append rfl ih
theorem short_cellsM (l : List Mo) : (cellsM l).all short = true := by
  induction l with
  | nil => rfl
  | cons a l ih => rw [cellsM_cons, List.all_append, ih]; rfl
theorem b54 : bytesV C.P 54 = some 80 := by kernel_rfl
theorem z54 : zeroOk C.P 54 = true := by kernel_rfl
theorem szOk_encM (l : List Mo) : szOk 6 (l.map encM) = true := by cases l <;> simp [szOk, encM_cells]
/-- A row of one's own of these moments. -/
def RowM (h : H) (v : AV) (l : List Mo) : Prop := (l = [] ∧ v = .isl [] .full) ∨ ∃ id, v = .msl id 0 6 l.length none ∧ h[id]? = some (.cells (cellsM l) .live)
set_option maxHeartbeats 1000000 in
theorem clone43 (a : Mo) (l : List Mo) (hl : (a :: l).length ≤ 10000) : Go.V.Call C 43 [moments (a :: l)] [] = some (.msl 0 0 6 (a :: l).length none, [.cells (cellsM (a :: l)) .live]) := by
  refine Call_W rfl Tryz.func43 rfl (by kernel_rfl) (by simp [Tryz.f43]) fun R hR => ?_
  have hsz := szOk_encM (a :: l)
  have e1 : binV C.P .eql 50 (.tmp 3) (.const (.slice none 0 0)) (moments (a :: l)) (.isl [] .full) = some (.bool false) := by
    simp [binV, moments, toVal, toScalar, nilCmpV, sureV, isNil, isSl, u50, eqSign]
  have e2 : buildSliceV C.P [] 50 0 [] = some (.isl [] .full, []) := buildSlice_dats u50 s54 z54 rfl (by omega) rfl rfl rfl (by simp) rfl
  have e3 : appendW C.P true [] 50 (.isl [] .full) (moments (a :: l)) = some (.msl 0 0 6 (a :: l).length none, [.cells (cellsM (a :: l)) .live]) := by
    have e4 : srcV [] 6 (.isl ((a :: l).map encM) .unk) = some (cellsM (a :: l), (a :: l).length) := by
      simp only [srcV, hsz, if_true, cellsM, List.flatMap_map, List.length_map]
    simp only [appendW, knownCap, Bool.not_true, if_false, Bool.false_eq_true, appendN, u50, s54, b54, z54, moments, e4]
    have h0 : 0 < (a :: l).length := by simp
    generalize (a :: l).length = m at hl h0
    have h1 : ¬ m = 0 := by omega
    have h2 : m * 81 ≤ 35184372088832 := by omega
    simp [szOk, h1, h2]
  simp [go_sem, initS, e1, e2, e3]
  refine hR _ _ _ (.inr rfl) ⟨.msl 0 0 6 (a :: l).length none, by simp [resultV, resV, Tryz.f43, go_sem], rfl⟩
theorem callV_ownM6 {f : FuncId} {h : H} {args args' : List AV} (hb : hasBody C.P f = true) (hm : C.mode f = .ownM) (hd : dats args = some args') (hs : args.all short = true) (hl : args.length < 90000)
    {id len : Nat} {h1 : H} {cs : List AV} (hc : Go.V.Call C f args' [] = some (.msl id 0 6 len none, h1)) (hid : h1[id]? = some (.cells cs .live)) (hcs : dats cs = some cs) (hsh : cs.all short = true) (hcl : cs.length ≤ 90000) (hlen : len * 6 ≤ cs.length) :
    callV C h (.func f []) (some args) = some (.msl h.length 0 6 len none, h ++ [.cells cs .live]) := by
  obtain ⟨e1, e2⟩ := dats_snap (h := h) hd hs deep (by unfold deep; omega)
  simp only [callV, hb, if_true, List.append_nil]
  unfold applyCall
  rw [hm]
  dsimp only
  rw [e2]
  simp only [Go.V.freeze, e1]
  rw [hc]
  dsimp only
  unfold finishV
  dsimp only
  have f1 := (dats_snap (h := freezeBut h1 id) hcs hsh deep (by unfold deep; omega)).1
  have f2 : adoptR C.P .ownM h1 h (.msl id 0 6 len none) = none := by
    simp only [adoptR, adopt, hid]
    rw [if_neg (by simp)]
  rw [f2]
  simp only [adoptD, adoptM, hid, f1]
  rw [if_pos ⟨by omega, by omega⟩]
theorem call43 (l : List Mo) (h : H) (hl : l.length ≤ 10000) : ∃ v h', callV C h (.func 43 []) (some [moments l]) = some (v, h') ∧ RowM h' v l ∧ Keep h h' none ∧ (v = .isl [] .full ∨ v = .msl h.length 0 6 l.length none) := by
  cases l with
  | nil =>
    refine ⟨.isl [] .full, h, ?_, .inl ⟨rfl, rfl⟩, .refl _ _, .inl rfl⟩
    have e1 := (dats_snap (h := h) (l := [moments []]) (l' := [.isl [] .unk]) rfl rfl deep (by simp [deep]))
    have hbd : hasBody C.P 43 = true := by kernel_rfl
    simp only [callV, hbd, if_true, List.append_nil]
    unfold applyCall
    rw [show C.mode 43 = .ownM from rfl]
    dsimp only
    rw [e1.2]
    simp only [Go.V.freeze, e1.1]
    have hp : C.prim 43 [.isl [] .unk] [] = some (.isl [] .full, []) := by kernel_rfl
    have hq : Go.V.Call C 43 [.isl [] .unk] [] = some (.isl [] .full, []) := Call_prim (C := C) (fn := Tryz.f43) Tryz.func43 hp
    rw [hq]
    rfl
  | cons a l =>
    refine ⟨.msl h.length 0 6 (a :: l).length none, h ++ [.cells (cellsM (a :: l)) .live], ?_, .inr ⟨_, rfl, by simp⟩, .append _ _ _, .inr rfl⟩
    have hcl := cellsM_len (a :: l)
    exact callV_ownM6 (by kernel_rfl) rfl (args' := [moments (a :: l)]) rfl rfl (by simp) (clone43 a l hl) rfl (dats_cellsM _) (short_cellsM _) (by omega) (by omega)
end Go.VZ

/- The copy of a row of numbers; rows of moments read and written. -/
namespace Go.VZ
open Go Go.V Go.Proofs TL
theorem szOk_ints (l : List Int) : szOk 1 (l.map (AV.int .i64)) = true := by cases l <;> simp [szOk, AV.cells]
theorem append47 {h : H} {v : AV} {xs ys : List Int} {x : Ext} (o : OwnR 3 h v (xs.map (AV.int .i64))) (hl : xs.length + ys.length ≤ 100000000000) :
    ∃ v' h', appendW C.P false h 47 v (.isl (ys.map (AV.int .i64)) x) = some (v', h') ∧ OwnR 3 h' v' ((xs ++ ys).map (AV.int .i64)) ∧ Keep h h' (idOf v) ∧ (idOf v' = idOf v ∨ idOf v = none ∧ idOf v' = some h.length) := by
  have := append_own (x := x) u47 s3 b3 z3 rfl o (szOk_ints xs) (szOk_ints ys) (by simp only [List.length_map]; omega)
  rwa [← List.map_append] at this
theorem clone23 (a : Int) (l : List Int) (hl : (a :: l).length ≤ 1000000) : CallP C 23 [ints (a :: l)] = some (ints (a :: l)) := by
  refine CallP_W rfl Tryz.func23 rfl (by kernel_rfl) (by simp [Tryz.f23]) fun R hR => ?_
  have e1 : binV C.P .eql 47 (.tmp 3) (.const (.slice none 0 0)) (ints (a :: l)) (.isl [] .full) = some (.bool false) := by
    simp [binV, ints, toVal, toScalar, nilCmpV, sureV, isNil, isSl, u47, eqSign]
  have e2 : ∀ h, buildSliceV C.P h 47 0 [] = some (.isl [] .full, h) := fun h => buildSlice_dats u47 s3 z3 rfl (by omega) rfl rfl rfl (by simp) rfl
  obtain ⟨v', h', ha, ho, _, _⟩ := append47 (h := [.tok 0 3]) (v := .isl [] .full) (xs := []) (ys := a :: l) (x := .unk) (.inl rfl) (by simp at hl ⊢; omega)
  obtain ⟨x, rfl⟩ := ho.isl
  have ha' : appendW C.P false [.tok 0 3] 47 (.isl [] .full) (ints (a :: l)) = some (.isl (([] ++ (a :: l)).map (AV.int .i64)) x, h') := ha
  simp [go_sem, initS, e1, e2, ha']
  refine hR _ _ _ (.inr rfl) ⟨.isl ((a :: l).map (AV.int .i64)) x, by simp [resultV, resV, Tryz.f23, go_sem], snap_dat rfl rfl⟩
theorem short_ints (l : List Int) : short (ints l) = true := rfl
theorem cloneP23 (l : List Int) (hl : l.length ≤ 1000000) : ∃ x, CallP C 23 [ints l] = some (.isl (l.map (AV.int .i64)) x) := by
  cases l with
  | nil =>
    refine ⟨.unk, ?_⟩
    have hp : C.prim 23 [.isl [] .unk] [] = some (.isl [] .full, []) := by kernel_rfl
    have hq : Go.V.Call C 23 [.isl [] .unk] [] = some (.isl [] .full, []) := Call_prim (C := C) (fn := Tryz.f23) Tryz.func23 hp
    unfold CallP
    show (match Go.V.Call C 23 [.isl [] .unk] [] with | some (r, h) => snap (freezeAll h) deep r | none => none) = _
    rw [hq]; rfl
  | cons a l => exact ⟨.unk, clone23 a l hl⟩
theorem call23 (l : List Int) (hl : l.length ≤ 1000000) : ∃ x, ∀ h, callV C h (.func 23 []) (some [ints l]) = some (.isl (l.map (AV.int .i64)) x, h) := by
  obtain ⟨x, hx⟩ := cloneP23 l hl
  exact ⟨x, fun h => callV_strip (by kernel_rfl) rfl rfl (by simp [short_ints]) (by simp) hx⟩
end Go.VZ

/- Covered, the program's way: the rows of moments. -/
namespace Go.VZ
open Go Go.V Go.Proofs TL
theorem cellsM_split {l : List Mo} {k : Nat} (hk : k < l.length) : cellsM l = cellsM (l.take k) ++ ((encM l[k]).cells ++ cellsM (l.drop (k + 1))) := by
  have e : l = l.take k ++ l[k] :: l.drop (k + 1) := by rw [← List.drop_eq_getElem_cons hk, List.take_append_drop]
  have e2 := congrArg cellsM e
  rw [e2]
  unfold cellsM
  rw [List.flatMap_append, List.flatMap_cons]
theorem idxRowM {id n k : Nat} (hk : k < n) : indexAddrV C.P 50 (.msl id 0 6 n none) (.int .i64 k) = some (.ptr id (6 * k)) := by
  simp [indexAddrV, u50, s54, hk]; omega
theorem loadRowM {h : H} {l : List Mo} {id k : Nat} (hid : h[id]? = some (.cells (cellsM l) .live)) (hk : k < l.length) : loadV C.P h 54 (.ptr id (6 * k)) = some (encM l[k]) := by
  have e1 := cellsM_split hk
  have e2 := cellsM_len (l.take k)
  have e3 : (l.take k).length = k := by simp; omega
  rw [e3] at e2
  have e4 := cellsM_len (l.drop (k + 1))
  have e5 : ((cellsM l).drop (6 * k)).take 6 = (encM l[k]).cells := by
    rw [e1, List.drop_append_of_le_length (by omega), ← e2, List.drop_length, List.nil_append, List.take_append_of_le_length (by simp [encM_cells])]
    simp [encM_cells]
  have e6 := cellsM_len l
  simp only [loadV, hid, cellsAt, a54, s54]
  simp only [e5, e6]
  rw [if_pos (by omega)]
  rfl
/-- A moment with other terms. -/
def Mo.put (m : Mo) (ts : List T) : Mo := { m with terms := ts }
theorem storeRowM {h : H} {l : List Mo} {id k : Nat} (ts : List T) (hid : h[id]? = some (.cells (cellsM l) .live)) (hk : k < l.length) : storeV C.P h 23 (.ptr id (6 * k + 5)) (terms ts) = some (h.set id (.cells (cellsM (l.set k (l[k].put ts))) .live)) := by
  have e2 := cellsM_len (l.take k)
  have e3 : (l.take k).length = k := by simp; omega
  rw [e3] at e2
  have e6 := cellsM_len l
  have e1 := cellsM_split hk
  have e8 := cellsM_split (l := l.set k (l[k].put ts)) (k := k) (by simpa using hk)
  have e9 : cellsM (l.set k (l[k].put ts)) = (cellsM l).set (6 * k + 5) (terms ts) := by
    rw [e8, e1, List.set_append_right _ _ (by omega), e2]
    have : 6 * k + 5 - 6 * k = 5 := by omega
    rw [this, List.take_set_of_le (by omega), List.drop_set_of_lt (by omega)]
    simp [encM_cells, Mo.put]
  rw [e9]
  simp only [storeV, hid, s23, terms]
  simp [List.set_eq_take_append_cons_drop, e6, show 6 * k + 5 < 6 * l.length by omega, show 6 * k + 5 + 1 ≤ 6 * l.length by omega]
end Go.VZ

/- A call that reads a row of moments of one's own. -/
namespace Go.VZ
open Go Go.V Go.Proofs TL
theorem chunk_cellsM : ∀ l : List Mo, chunk 6 l.length (cellsM l) = l.map encM
  | [] => rfl
  | a :: l => by
    have := chunk_cellsM l
    rw [cellsM_cons]
    simp only [List.length_cons, chunk, List.cons_append, List.nil_append, List.take_succ_cons, List.take_zero, List.drop_succ_cons, List.drop_zero, List.map_cons, this, encM]
theorem snap_rowM_n {h : H} {id : Nat} {l : List Mo} {cl : List Int} (hid : h[id]? = some (.cells (cellsM l) .live)) (m : Nat) (hm : 900000 + (cellsM l).length + 3 ≤ m) :
    reachs h (m + 3) [.msl id 0 6 l.length none, ints cl] = [id] ∧ snaps (Go.V.freeze h [id]) (m + 3) [.msl id 0 6 l.length none, ints cl] = some [moments l, ints cl] := by
  obtain ⟨e1, e2⟩ := dats_snap (h := h) (dats_cellsM l) (short_cellsM l) (m + 1) (by omega)
  obtain ⟨e3, e4⟩ := dats_snap (h := Go.V.freeze h [id]) (dats_cellsM l) (short_cellsM l) (m + 1) (by omega)
  have hz : (Go.V.freeze h [id])[id]? = some (.cells (cellsM l) .frozen) := by
    rw [freeze_spec, hid]; simp
  have hl := cellsM_len l
  have k1 : snap (Go.V.freeze h [id]) (m + 2) (.msl id 0 6 l.length none) = some (moments l) := by
    simp only [snap, hz, e3]
    rw [if_pos (by omega), List.drop_zero, chunk_cellsM]; rfl
  have k2 : ∀ j, snap (Go.V.freeze h [id]) (j + 1) (ints cl) = some (ints cl) := fun _ => rfl
  have k3 : reach h (m + 2) (.msl id 0 6 l.length none) = [id] := by simp only [reach, hid, e2]
  have k4 : ∀ j, reach h (j + 1) (ints cl) = [] := fun _ => rfl
  constructor
  · simp only [reachs, k3, k4, List.append_nil]
  · simp only [snaps, k1, k2]
theorem callV_rowM {f : FuncId} {h : H} {id : Nat} {l : List Mo} {cl : List Int} {v : AV} (hb : hasBody C.P f = true) (hm : C.mode f = .strip) (hid : h[id]? = some (.cells (cellsM l) .live)) (hl : l.length ≤ 10000)
    (hv : CallP C f [moments l, ints cl] = some v) : ∃ h', callV C h (.func f []) (some [.msl id 0 6 l.length none, ints cl]) = some (v, h') := by
  have hcl := cellsM_len l
  obtain ⟨e1, e2⟩ := snap_rowM_n (cl := cl) hid 999997 (by omega)
  have d1 : reachs h deep [.msl id 0 6 l.length none, ints cl] = [id] := e1
  have d2 : snaps (Go.V.freeze h [id]) deep [.msl id 0 6 l.length none, ints cl] = some [moments l, ints cl] := e2
  simp only [callV, hb, if_true, List.append_nil]
  unfold applyCall
  rw [hm]
  dsimp only
  rw [d1, d2]
  unfold CallP at hv
  dsimp only
  split at hv <;> first | (cases hv; done) | skip
  rename_i r h1 hx
  rw [hx]
  dsimp only
  unfold finishV stripV
  dsimp only
  rw [hv]
  exact ⟨_, rfl⟩
end Go.VZ

/- Covered, the program's way. -/
namespace Go.VZ
open Go Go.V Go.Proofs TL
theorem callP45 (l : List Mo) (cl : List Int) (hs : smallM l) (hl : l.length < 1000000) (hc : cl.length ≤ 80000) : ∃ x, CallP C 45 [moments l, ints cl] = some (.tuple [x, .bool (possible l cl).1]) := by
  have e : ∃ r h', Go.V.Call C 45 [moments l, ints cl] [] = some (r, h') ∧ ∃ x, snap (freezeAll h') deep r = some (.tuple [x, .bool (possible l cl).1]) := by
    cases l with
    | nil => exact inject45z cl hc
    | cons a l => exact inject45 (a :: l) cl hs hl hc (by simp)
  obtain ⟨r, h', e1, x, e2⟩ := e
  refine ⟨x, ?_⟩
  unfold CallP
  rw [e1]
  exact e2
/-- The moments with the bindings put; none, if one fails. -/
def subM (s : List (T × T)) : List Mo → Option (List Mo)
  | [] => some []
  | m :: l => if (applyAll s m.terms).2 ≠ 0 then none else (subM s l).map (m.put (applyAll s m.terms).1 :: ·)
def covered (s : List (T × T)) (l : List Mo) (cl : List Int) : Bool := match subM s l with
  | none => false
  | some l' => (possible l' cl).1
/-- A case, of its moments alone; a form, of its bindings alone. -/
def encY (l : List Mo) : AV := .agg [.isl [] .unk, moments l, .isl [] .unk, .isl [] .unk]
def encF (s : List (T × T)) : AV := .agg [.isl [] .unk, binds s, .isl [] .unk]
theorem box57 (l : List Mo) (h : H) : boxV C.P h 57 (encY l) = some (.ptr h.length 0, h ++ [.cells [.isl [] .unk, moments l, .isl [] .unk, .isl [] .unk] .live]) := by
  have : sizeV C.P 57 = some 4 := by kernel_rfl
  simp [boxV, encY, cells_agg, this, notTuple]
theorem box59 (s : List (T × T)) (h : H) : boxV C.P h 59 (encF s) = some (.ptr h.length 0, h ++ [.cells [.isl [] .unk, binds s, .isl [] .unk] .live]) := by
  have : sizeV C.P 59 = some 3 := by kernel_rfl
  simp [boxV, encF, cells_agg, this, notTuple]
theorem fa57_1 (i : Nat) : fieldAddrV C.P 57 (.ptr i 0) 1 = some (.ptr i 1) := by kernel_rfl
theorem fa59_1 (i : Nat) : fieldAddrV C.P 59 (.ptr i 0) 1 = some (.ptr i 1) := by kernel_rfl
attribute [go_sem] fa57_1 fa59_1
theorem ld50c {h : H} {i : Nat} {a c d : AV} {l : List Mo} (hi : h[i]? = some (.cells [a, moments l, c, d] .live)) : loadV C.P h 50 (.ptr i 1) = some (moments l) := by
  simp [loadV, hi, cellsAt, a50, s50, moments, notTuple]
theorem ld46c {h : H} {i : Nat} {a c : AV} {s : List (T × T)} (hi : h[i]? = some (.cells [a, binds s, c] .live)) : loadV C.P h 46 (.ptr i 1) = some (binds s) := by
  simp [loadV, hi, cellsAt, a46, s46, binds, notTuple]
end Go.VZ

/- Covered, the program's way: walked. -/
namespace Go.VZ
open Go Go.V Go.Proofs TL
theorem zv54b (m : Mo) (h : H) (a b c d e f : AV) : storeV C.P (h ++ [.cells [a, b, c, d, e, f] .live]) 54 (.ptr h.length 0) (encM m) = some (h ++ [.cells (encM m).cells .live]) := by
  simp [storeV, s54, encM, cells_agg]
theorem ld23m {h : H} (m : Mo) : loadV C.P (h ++ [.cells (encM m).cells .live]) 23 (.ptr h.length 5) = some (terms m.terms) := by
  simp [loadV, cellsAt, a23, s23, encM, cells_agg, terms, notTuple]
theorem fa54p (i o : Nat) : fieldAddrV C.P 54 (.ptr i o) 5 = some (.ptr i (o + 5)) := by kernel_rfl
def MRow (h : H) (v : AV) (l : List Mo) : Prop := (l = [] ∧ v = .isl [] .full) ∨ (v = .msl 2 0 6 l.length none ∧ h[2]? = some (.cells (cellsM l) .live))
def NI22 (s : List (T × T)) (l : List Mo) (cl : List Int) (v : AV) (n : Nat) (st : PT) (h : H) : Prop := ∃ (k : Nat) (done : List Mo), n = l.length - k ∧ k ≤ l.length ∧ done.length = k ∧ MRow h v (done ++ l.drop k) ∧ h[1]? = some (.cells [.isl [] .unk, binds s, .isl [] .unk] .live) ∧
  st.get 2 = ints cl ∧ st.get 4 = .ptr 1 0 ∧ st.get 7 = v ∧ st.get 17 = v ∧ st.get 18 = .int .i64 l.length ∧ st.get 19 = .int .i64 k ∧ subM s l = (subM s (l.drop k)).map (done ++ ·)
set_option maxRecDepth 8000 in
set_option maxHeartbeats 4000000 in
theorem covered22 (s : List (T × T)) (l : List Mo) (cl : List Int) (hs : small s) (hm : smallM l) (hl : l.length ≤ 10000) (hc : cl.length ≤ 80000) (hok : ∀ l', subM s l = some l' → smallM l') : CallP C 22 [encY l, encF s, ints cl] = some (.bool (covered s l cl)) := by
  refine CallP_W rfl Tryz.func22 rfl (by kernel_rfl) (by simp [Tryz.f22]) fun R hR => ?_
  have fin : ∀ (st : PT) (h : H) (b : Bool), st.get 6 = .bool b → b = covered s l cl → R .ret st h := fun st h b h6 hb => hR _ _ _ (.inr rfl) ⟨.bool b, by simp [resultV, resV, Tryz.f22, h6], by rw [hb]; exact snap_dat rfl rfl⟩
  obtain ⟨v, h', hcl, hrow, hkp, hform⟩ := call43 l [.cells [.isl [] .unk, moments l, .isl [] .unk, .isl [] .unk] .live, .cells [.isl [] .unk, binds s, .isl [] .unk] .live] hl
  have m1 : h'[1]? = some (.cells [.isl [] .unk, binds s, .isl [] .unk] .live) := hkp.get rfl (by simp)
  have q0 : ∀ (a c d : AV) (x : List VObj), loadV C.P (.cells [a, moments l, c, d] .live :: x) 50 (.ptr 0 1) = some (moments l) := fun a c d x => ld50c rfl
  have hln : lenV C.P 50 v = some (.int .i64 l.length) := by
    rcases hrow with ⟨rfl, rfl⟩ | ⟨id, rfl, _⟩ <;> simp [lenV, u50]
  simp [go_sem, initS, box57, box59, q0, hcl, hln]
  have hrow2 : MRow h' v l := by
    rcases hrow with e | ⟨id, e8, hid⟩
    · exact .inl e
    · rcases hform with h1 | h1
      · rw [h1] at e8; cases e8
      · rw [h1] at e8; simp only [List.length_cons, List.length_nil, AV.msl.injEq] at e8
        obtain ⟨rfl, _⟩ := e8
        exact .inr ⟨h1, hid⟩
  refine W_loop (NI22 s l cl v) l.length ⟨0, [], rfl, Nat.zero_le _, rfl, by simpa using hrow2, m1, by simp [go_sem], by simp [go_sem], by simp [go_sem], by simp [go_sem], by simp [go_sem], by simp [go_sem], by simp⟩ ?_
  rintro n st h ⟨k, done, rfl, hk, hdl, hr, n1, g2, g4, g7, g17, g18, g19, hd⟩
  by_cases hlt : k < l.length
  · have hlt' : (k : Int) < l.length := by omega
    have hrl : (done ++ l.drop k).length = l.length := by simp; omega
    have hltr : k < (done ++ l.drop k).length := by omega
    have hgk : (done ++ l.drop k)[k] = l[k] := by
      rw [List.getElem_append_right (by omega)]; simp [hdl]
    obtain ⟨rfl, hid⟩ : v = .msl 2 0 6 l.length none ∧ h[2]? = some (.cells (cellsM (done ++ l.drop k)) .live) := by
      rcases hr with ⟨e, _⟩ | e
      · rw [e] at hrl; simp at hrl; omega
      · rw [hrl] at e; exact e
    have w2 : IntKind.i64.wrap ((k : Int) + 1) = ((k + 1 : Nat) : Int) := by rw [wrap_in (by omega)]; omega
    have e1 := idxRowM (id := 2) hlt
    have e2 := loadRowM hid hltr
    rw [hgk] at e2
    obtain ⟨h2, eh2⟩ : ∃ g, g = h ++ [.cells (encM l[k]).cells .live] := ⟨_, rfl⟩
    have hid2 : h2[2]? = some (.cells (cellsM (done ++ l.drop k)) .live) := by rw [eh2, List.getElem?_append_left (List.getElem?_eq_some_iff.1 hid).1]; exact hid
    have n12 : h2[1]? = some (.cells [.isl [] .unk, binds s, .isl [] .unk] .live) := by rw [eh2, List.getElem?_append_left (List.getElem?_eq_some_iff.1 n1).1]; exact n1
    have e4 := zv54b l[k] h
    have e5 := ld23m (h := h) l[k]
    have e6 := ld46c n12
    have e3 := storeRowM (applyAll s l[k].terms).1 hid2 hltr
    rw [hgk] at e3
    have fa5 : fieldAddrV C.P 54 (.ptr h.length 0) 5 = some (.ptr h.length 5) := fa54_5 _
    have fa6 := fa54p 2 (6 * k)
    have hset : (done ++ l.drop k).set k (l[k].put (applyAll s l[k].terms).1) = (done ++ [l[k].put (applyAll s l[k].terms).1]) ++ l.drop (k + 1) := by
      rw [List.set_append_right _ _ (by omega), List.drop_eq_getElem_cons hlt, hdl, Nat.sub_self, List.set_cons_zero, List.append_assoc]; rfl
    rw [hset] at e3
    have c44 := call44 s l[k].terms hs (hm _ (List.getElem_mem hlt))
    simp only [resL] at c44
    rw [← eh2] at e4 e5
    rw [List.drop_eq_getElem_cons hlt, subM] at hd
    by_cases hz : (applyAll s l[k].terms).2 = 0
    · simp [go_sem, g2, g4, g7, g17, g18, g19, hlt', e1, e2, e3, e4, e5, e6, fa5, fa6, c44, hz, -Int.natCast_add, w2]
      refine ⟨l.length - (k + 1), by omega, k + 1, done ++ [l[k].put (applyAll s l[k].terms).1], rfl, hlt, by simp [hdl], .inr ⟨by simp; omega, by rw [List.append_assoc]; exact List.getElem?_set_self (List.getElem?_eq_some_iff.1 hid2).1⟩, by rw [List.getElem?_set_ne (by omega)]; exact n12, by simp [go_sem, g2], by simp [go_sem, g4], by simp [go_sem, g7], by simp [go_sem, g17], by simp [go_sem, g18], by simp [go_sem], ?_⟩
      rw [hd, if_neg (by omega)]
      cases subM s (l.drop (k + 1)) <;> simp
    · simp [go_sem, g2, g4, g7, g17, g18, g19, hlt', e1, e2, e4, e5, e6, fa5, c44, hz]
      exact fin _ _ false (by simp [go_sem]) (by rw [if_pos hz] at hd; simp [covered, hd])
  · have : k = l.length := by omega
    subst this
    rw [List.drop_length, List.append_nil] at hr
    rw [List.drop_length, subM] at hd
    simp only [Option.map_some, List.append_nil] at hd
    obtain ⟨x, hx⟩ := callP45 done cl (hok _ hd) (by omega) hc
    obtain ⟨h5, h45⟩ : ∃ h5, callV C h (.func 45 []) (some [v, ints cl]) = some (.tuple [x, .bool (possible done cl).1], h5) := by
      rcases hr with ⟨rfl, rfl⟩ | ⟨rfl, hid⟩
      · exact ⟨h, callV_strip (by kernel_rfl) rfl (args' := [moments [], ints cl]) rfl (by simp; exact ⟨rfl, rfl⟩) (by simp) hx⟩
      · exact callV_rowM (by kernel_rfl) rfl hid (by omega) hx
    simp [go_sem, g2, g4, g7, g17, g18, g19, h45]
    exact fin _ _ (possible done cl).1 (by simp [go_sem]) (by simp [covered, hd])
end Go.VZ
