/- Copies of rows of terms, and of terms. -/
import Derived.Test.YtdoegkegjaadeaaGreatDoorQSb
import Derived.ChangeArms
import Derived.Test.YtdoegkegjaadeaaGreatDoorRows
namespace Go.VZ
open Go Go.V Go.Proofs TL
/-- The cells of a row of terms. -/
def cellsT (l : List T) : List AV := l.flatMap fun t => (enc t).cells
theorem cellsT_cons (a : T) (l : List T) : cellsT (a :: l) = [.int .i64 a.kind, .str a.name, .int .i64 a.sort, terms a.kids] ++ cellsT l := by simp [cellsT, enc_cells]
theorem cellsT_len (l : List T) : (cellsT l).length = 4 * l.length := by
  induction l with
  | nil => rfl
  | cons a l ih => rw [cellsT_cons, List.length_append, ih]; simp; omega
theorem dats_append : ∀ {a b a' b' : List AV}, dats a = some a' → dats b = some b' → dats (a ++ b) = some (a' ++ b')
  | [], _, _, _, h1, h2 => by cases h1; exact h2
  | x :: a, b, a', b', h1, h2 => by
    simp only [dats] at h1
    cases hx : dat x <;> cases hy : dats a <;> simp only [hx, hy] at h1 <;> cases h1
    simp only [List.cons_append, dats, hx, dats_append hy h2]
theorem dats_cellsT (l : List T) : dats (cellsT l) = some (cellsT l) := by
  induction l with
  | nil => rfl
  | cons a l ih => rw [cellsT_cons]; exact dats_append rfl ih
theorem short_cellsT (l : List T) : (cellsT l).all short = true := by
  induction l with
  | nil => rfl
  | cons a l ih => rw [cellsT_cons, List.all_append, ih]; rfl
/-- A row of one's own of these terms. -/
def Row (h : H) (v : AV) (l : List T) : Prop := (l = [] ∧ v = .isl [] .full) ∨ ∃ id, v = .msl id 0 4 l.length none ∧ h[id]? = some (.cells (cellsT l) .live)
set_option maxHeartbeats 1000000 in
theorem clone193 (a : T) (l : List T) (hl : (a :: l).length ≤ 20000) : Go.V.Call C 193 [terms (a :: l)] [] = some (.msl 0 0 4 (a :: l).length none, [.cells (cellsT (a :: l)) .live]) := by
  refine Call_W rfl Tryz.func193 rfl (by kernel_rfl) (by simp [Tryz.f193]) fun R hR => ?_
  have hsz := szOk_enc (a :: l)
  have e1 : binV C.P .eql 23 (.tmp 3) (.const (.slice none 0 0)) (terms (a :: l)) (.isl [] .full) = some (.bool false) := by
    simp [binV, terms, toVal, toScalar, nilCmpV, sureV, isNil, isSl, u23, eqSign]
  have e2 : buildSliceV C.P [] 23 0 [] = some (.isl [] .full, []) := buildSlice_dats u23 s25 z25 rfl (by omega) rfl rfl rfl (by simp) rfl
  have e3 : appendW C.P true [] 23 (.isl [] .full) (terms (a :: l)) = some (.msl 0 0 4 (a :: l).length none, [.cells (cellsT (a :: l)) .live]) := by
    have e4 : srcV [] 4 (.isl ((a :: l).map enc) .unk) = some (cellsT (a :: l), (a :: l).length) := by
      simp only [srcV, hsz, if_true, cellsT, List.flatMap_map, List.length_map]
    simp only [appendW, knownCap, Bool.not_true, if_false, Bool.false_eq_true, appendN, u23, s25, b25, z25, terms, e4]
    have h0 : 0 < (a :: l).length := by simp
    generalize (a :: l).length = m at hl h0
    have h1 : ¬ m = 0 := by omega
    have h2 : m * 57 ≤ 35184372088832 := by omega
    simp [szOk, h1, h2]
  simp [go_sem, initS, e1, e2, e3]
  refine hR _ _ _ (.inr rfl) ⟨.msl 0 0 4 (a :: l).length none, by simp [resultV, resV, Tryz.f193, go_sem], rfl⟩
/-- A row of the callee's own, moved. -/
theorem callV_ownM {f : FuncId} {h : H} {args args' : List AV} (hb : hasBody C.P f = true) (hm : C.mode f = .ownM) (hd : dats args = some args') (hs : args.all short = true) (hl : args.length < 90000)
    {id len : Nat} {h1 : H} {cs : List AV} (hc : Go.V.Call C f args' [] = some (.msl id 0 4 len none, h1)) (hid : h1[id]? = some (.cells cs .live)) (hcs : dats cs = some cs) (hsh : cs.all short = true) (hcl : cs.length ≤ 90000) (hlen : len * 4 ≤ cs.length) :
    callV C h (.func f []) (some args) = some (.msl h.length 0 4 len none, h ++ [.cells cs .live]) := by
  obtain ⟨e1, e2⟩ := dats_snap (h := h) hd hs deep (by unfold deep; omega)
  simp only [callV, hb, if_true, List.append_nil]
  unfold applyCall
  rw [hm]
  dsimp only
  rw [e2]
  simp only [Go.V.freeze, e1]
  rw [hc]
  dsimp only
  unfold finishV
  dsimp only
  have f1 := (dats_snap (h := freezeBut h1 id) hcs hsh deep (by unfold deep; omega)).1
  have f2 : adoptR C.P .ownM h1 h (.msl id 0 4 len none) = none := by
    simp only [adoptR, adopt, hid]
    rw [if_neg (by simp)]
  rw [f2]
  simp only [adoptD, adoptM, hid, f1]
  rw [if_pos ⟨by omega, by omega⟩]
theorem call193 (l : List T) (x : Ext) (h : H) (hl : l.length ≤ 20000) : ∃ v h', callV C h (.func 193 []) (some [.isl (l.map enc) x]) = some (v, h') ∧ Row h' v l ∧ Keep h h' none ∧ (v = .isl [] .full ∨ v = .msl h.length 0 4 l.length none) := by
  cases l with
  | nil =>
    refine ⟨.isl [] .full, h, ?_, .inl ⟨rfl, rfl⟩, .refl _ _, .inl rfl⟩
    have e1 := (dats_snap (h := h) (l := [.isl [] x]) (l' := [.isl [] .unk]) rfl rfl deep (by simp [deep]))
    have hbd : hasBody C.P 193 = true := by kernel_rfl
    simp only [callV, hbd, if_true, List.append_nil, List.map_nil]
    unfold applyCall
    rw [show C.mode 193 = .ownM from rfl]
    dsimp only
    rw [e1.2]
    simp only [Go.V.freeze, e1.1]
    have hp : C.prim 193 [.isl [] .unk] [] = some (.isl [] .full, []) := by kernel_rfl
    have hq : Go.V.Call C 193 [.isl [] .unk] [] = some (.isl [] .full, []) := Call_prim (C := C) (fn := Tryz.f193) Tryz.func193 hp
    rw [hq]
    rfl
  | cons a l =>
    refine ⟨.msl h.length 0 4 (a :: l).length none, h ++ [.cells (cellsT (a :: l)) .live], ?_, .inr ⟨_, rfl, by simp⟩, .append _ _ _, .inr rfl⟩
    have hcl := cellsT_len (a :: l)
    exact callV_ownM (by kernel_rfl) rfl (args' := [terms (a :: l)]) rfl rfl (by simp) (clone193 a l hl) rfl (dats_cellsT _) (short_cellsT _) (by omega) (by omega)
theorem cellsT_split {l : List T} {k : Nat} (hk : k < l.length) : cellsT l = cellsT (l.take k) ++ (enc l[k]).cells ++ cellsT (l.drop (k + 1)) := by
  have e : l = l.take k ++ l[k] :: l.drop (k + 1) := by rw [← List.drop_eq_getElem_cons hk, List.take_append_drop]
  have e2 := congrArg cellsT e
  rw [e2]
  unfold cellsT
  rw [List.flatMap_append, List.flatMap_cons, List.append_assoc]
theorem idxRow {id n k : Nat} (hk : k < n) : indexAddrV C.P 23 (.msl id 0 4 n none) (.int .i64 k) = some (.ptr id (4 * k)) := by
  simp [indexAddrV, u23, s25, hk]; omega
theorem loadRow {h : H} {l : List T} {id k : Nat} (hid : h[id]? = some (.cells (cellsT l) .live)) (hk : k < l.length) : loadV C.P h 25 (.ptr id (4 * k)) = some (enc l[k]) := by
  have e1 := cellsT_split hk
  have e2 := cellsT_len (l.take k)
  have e3 : (l.take k).length = k := by simp; omega
  rw [e3] at e2
  have e4 := cellsT_len (l.drop (k + 1))
  have e5 : ((cellsT l).drop (4 * k)).take 4 = (enc l[k]).cells := by
    rw [e1, List.append_assoc, List.drop_append_of_le_length (by omega), ← e2, List.drop_length, List.nil_append, List.take_append_of_le_length (by simp [enc_cells])]
    simp [enc_cells]
  have e6 := cellsT_len l
  simp only [loadV, hid, cellsAt, a25, s25]
  simp only [e5, e6]
  rw [if_pos (by omega)]
  simp only [enc_cells]; rw [enc_eq]
theorem storeRow {h : H} {l : List T} {id k : Nat} (x : T) (hid : h[id]? = some (.cells (cellsT l) .live)) (hk : k < l.length) : storeV C.P h 25 (.ptr id (4 * k)) (enc x) = some (h.set id (.cells (cellsT (l.set k x)) .live)) := by
  have e2 := cellsT_len (l.take k)
  have e3 : (l.take k).length = k := by simp; omega
  rw [e3] at e2
  have e6 := cellsT_len l
  have e7 : cellsT (l.set k x) = (cellsT l).take (4 * k) ++ (enc x).cells ++ (cellsT l).drop (4 * k + 4) := by
    have e1 := cellsT_split hk
    have e8 := cellsT_split (l := l.set k x) (k := k) (by simpa using hk)
    rw [e8]
    have a1 : (cellsT l).take (4 * k) = cellsT (l.take k) := by rw [e1, List.append_assoc, List.take_append_of_le_length (by omega), List.take_of_length_le (by omega)]
    have a2 : (cellsT l).drop (4 * k + 4) = cellsT (l.drop (k + 1)) := by
      rw [e1, List.drop_append]
      have : (cellsT (l.take k) ++ (enc l[k]).cells).length = 4 * k + 4 := by simp [e2, enc_cells]
      rw [this, List.drop_of_length_le (by omega)]; simp
    rw [a1, a2, List.take_set_of_le (by omega), List.drop_set_of_lt (by omega)]; simp
  rw [e7]
  simp only [storeV, hid, s25]
  rw [enc_eq]
  simp only [List.length_cons, List.length_nil]
  rw [if_pos ⟨trivial, by omega⟩]
  rfl
end Go.VZ

/- The program's copy of a term. -/
namespace Go.VZ
open Go Go.V Go.Proofs TL
theorem ldq {h : H} {i : Nat} {a b c v : AV} (hi : h[i]? = some (.cells [a, b, c, v] .live)) (_hv : notTuple v = true) : loadV C.P h 23 (.ptr i 3) = some v := by
  simp [loadV, hi, cellsAt, a23, s23]
theorem stq {h : H} {i : Nat} {a b c v : AV} (w : AV) (hi : h[i]? = some (.cells [a, b, c, v] .live)) (hw : w = .isl [] .full ∨ ∃ id n, w = .msl id 0 4 n none) : storeV C.P h 23 (.ptr i 3) w = some (h.set i (.cells [a, b, c, w] .live)) := by
  rcases hw with rfl | ⟨id, n, rfl⟩ <;> simp [storeV, hi, s23]
theorem Row.form {h : H} {v : AV} {l : List T} (r : Row h v l) : v = .isl [] .full ∨ ∃ id n, v = .msl id 0 4 n none := by
  rcases r with ⟨_, rfl⟩ | ⟨id, rfl, _⟩
  · exact .inl rfl
  · exact .inr ⟨_, _, rfl⟩
theorem Row.len {h : H} {v : AV} {l : List T} (r : Row h v l) : lenV C.P 23 v = some (.int .i64 l.length) := by
  rcases r with ⟨rfl, rfl⟩ | ⟨id, rfl, _⟩ <;> simp [lenV, u23]
theorem Row.keep {h h' : H} {v : AV} {l : List T} (r : Row h v l) (k : Keep h h' none) : Row h' v l := by
  rcases r with e | ⟨id, rfl, hid⟩
  · exact .inl e
  · exact .inr ⟨id, rfl, k.get hid (by simp)⟩
theorem st25z (t : T) (h : H) : storeV C.P (h ++ [.cells [.int .i64 0, .str ⟨#[]⟩, .int .i64 0, .isl [] .full] .live]) 25 (.ptr h.length 0) (enc t) = some (h ++ [.cells (enc t).cells .live]) := by
  rw [st25 t _ _ _ _ h, enc_cells]
theorem ldb25z (t : T) (h : H) : loadV C.P (h ++ [.cells (enc t).cells .live]) 25 (.ptr h.length 0) = some (enc t) := by
  rw [enc_cells]; exact ldb25 t h
theorem ld23c (a b c : AV) (es : List AV) (x : Ext) (l : List VObj) : loadV C.P (.cells [a, b, c, .isl es x] .live :: l) 23 (.ptr 0 3) = some (.isl es x) := ldq rfl rfl
theorem chunk_cellsT : ∀ l : List T, chunk 4 l.length (cellsT l) = l.map enc
  | [] => rfl
  | a :: l => by
    have := chunk_cellsT l
    rw [cellsT_cons]
    simp only [List.length_cons, chunk, List.cons_append, List.nil_append, List.take_succ_cons, List.take_zero, List.drop_succ_cons, List.drop_zero, List.map_cons, this, enc_eq]
theorem freezeAll_cells : ∀ {h : H} {i : Nat} {cs : List AV}, h[i]? = some (.cells cs .live) → (freezeAll h)[i]? = some (.cells cs .frozen)
  | [], _, _, e => by simp at e
  | o :: r, 0, cs, e => by simp at e; subst e; rfl
  | o :: r, i + 1, cs, e => by
    have := freezeAll_cells (h := r) (i := i) (cs := cs) (by simpa using e)
    cases o with
    | cells c st => cases st <;> simpa [freezeAll] using this
    | _ => simpa [freezeAll] using this
theorem snap_row_n {h : H} {v : AV} {l : List T} (r : Row h v l) (n : Nat) (hn : 900000 + (cellsT l).length + 3 ≤ n) : snap (freezeAll h) (n + 1) v = some (terms l) := by
  rcases r with ⟨rfl, rfl⟩ | ⟨id, rfl, hid⟩
  · rfl
  · have e1 := freezeAll_cells hid
    have e2 := (dats_snap (h := freezeAll h) (dats_cellsT l) (short_cellsT l) n hn).1
    have e3 := cellsT_len l
    simp only [snap, e1, e2]
    rw [if_pos (by omega), List.drop_zero, chunk_cellsT]; rfl
theorem snap_term_n {h : H} {v : AV} {l : List T} (r : Row h v l) (k s : Int) (nm : ByteArray) (n : Nat) (hn : 900000 + (cellsT l).length + 3 ≤ n) : snap (freezeAll h) (n + 6) (.agg [.int .i64 k, .str nm, .int .i64 s, v]) = some (.agg [.int .i64 k, .str nm, .int .i64 s, terms l]) := by
  have e1 := snap_row_n r n hn
  have k1 : ∀ (m : Nat) (z : Int), snap (freezeAll h) (m + 1) (.int .i64 z) = some (.int .i64 z) := fun _ _ => rfl
  have k2 : ∀ (m : Nat) (z : ByteArray), snap (freezeAll h) (m + 1) (.str z) = some (.str z) := fun _ _ => rfl
  have k3 : snaps (freezeAll h) (n + 5) [.int .i64 k, .str nm, .int .i64 s, v] = some [.int .i64 k, .str nm, .int .i64 s, terms l] := by simp only [snaps, e1, k1, k2]
  have k4 : snap (freezeAll h) (n + 6) (.agg [.int .i64 k, .str nm, .int .i64 s, v]) = (match snaps (freezeAll h) (n + 5) [.int .i64 k, .str nm, .int .i64 s, v] with
    | some l => some (.agg l)
    | none => none) := rfl
  rw [k4, k3]
theorem snap_term {h : H} {v : AV} {l : List T} (r : Row h v l) (k s : Int) (n : ByteArray) (hl : l.length ≤ 20000) : snap (freezeAll h) deep (.agg [.int .i64 k, .str n, .int .i64 s, v]) = some (.agg [.int .i64 k, .str n, .int .i64 s, terms l]) := by
  have e3 := cellsT_len l
  exact snap_term_n r k s n 999994 (by omega)
def NI206 (t : T) (v : AV) (m : Nat) (s : PT) (h : H) : Prop := ∃ k : Nat, m = t.kids.length - k ∧ k ≤ t.kids.length ∧ s.get 1 = .ptr 0 0 ∧ s.get 2 = .ptr 1 0 ∧ s.get 10 = v ∧ s.get 11 = .int .i64 t.kids.length ∧ s.get 12 = .int .i64 k ∧
  h[0]? = some (.cells [.int .i64 t.kind, .str t.name, .int .i64 t.sort, v] .live) ∧ h[1]? = some (.cells zc .live) ∧ Row h v t.kids
set_option maxRecDepth 8000 in
set_option maxHeartbeats 2000000 in
theorem copy206 (t : T) (hv : t.size ≤ 20000) (hc : ∀ k ∈ t.kids, CallP C 206 [enc k] = some (enc k)) : CallP C 206 [enc t] = some (enc t) := by
  refine CallP_W rfl Tryz.func206 rfl (by kernel_rfl) (by simp [Tryz.f206]) fun R hR => ?_
  have hsz := size_kids t
  have hlen := len_sizes t.kids
  obtain ⟨v, h', hcl, hrow, hkp, hform⟩ := call193 t.kids .unk [.cells (tc t) .live, .cells zc .live] (by omega)
  have m0 : h'[0]? = some (.cells (tc t) .live) := hkp.get rfl (by simp)
  have m1 : h'[1]? = some (.cells zc .live) := hkp.get rfl (by simp)
  have hst := stq v m0 hrow.form
  have hl' := (List.getElem?_eq_some_iff.1 m0).1
  have hlq : loadV C.P (h'.set 0 (.cells [.int .i64 t.kind, .str t.name, .int .i64 t.sort, v] .live)) 23 (.ptr 0 3) = some v := ldq (List.getElem?_set_self hl') (by rcases hrow.form with rfl | ⟨_, _, rfl⟩ <;> rfl)
  have hln := hrow.len
  simp only [tc, zc] at hcl
  simp [go_sem, terms, ld23c, hcl, hst, hlq, hln]
  have hrow2 : Row (h'.set 0 (.cells [.int .i64 t.kind, .str t.name, .int .i64 t.sort, v] .live)) v t.kids := by
    rcases hrow with e | ⟨id, rfl, hid⟩
    · exact .inl e
    · refine .inr ⟨id, rfl, ?_⟩
      rw [List.getElem?_set_ne (fun e => ?_)]; exact hid
      subst e
      rw [m0] at hid
      simp only [Option.some.injEq, VObj.cells.injEq, and_true] at hid
      have := congrArg List.length hid
      rcases hform with h1 | h1 <;> simp at h1
  refine W_loop (NI206 t v) t.kids.length ⟨0, rfl, Nat.zero_le _, by simp [go_sem], by simp [go_sem], by simp [go_sem], by simp [go_sem], by simp [go_sem], List.getElem?_set_self hl', by rw [List.getElem?_set_ne (by omega)]; exact m1, hrow2⟩ ?_
  rintro m s h ⟨k, rfl, hk, g1, g2, g10, g11, g12, n0, n1, nr⟩
  by_cases hlt : k < t.kids.length
  · have hlt' : (k : Int) < t.kids.length := by omega
    obtain ⟨id, rfl, hid⟩ : ∃ id, v = .msl id 0 4 t.kids.length none ∧ h[id]? = some (.cells (cellsT t.kids) .live) := by
      rcases nr with ⟨e, _⟩ | e
      · rw [e] at hlt; simp at hlt
      · exact e
    have w2 : IntKind.i64.wrap ((k : Int) + 1) = ((k + 1 : Nat) : Int) := by rw [wrap_in (by omega)]; omega
    have ck : ∀ h, callV C h (.func 206 []) (some [enc t.kids[k]]) = some (enc t.kids[k], h) := fun h => callV_strip (by kernel_rfl) rfl (dat_enc _) (by simp [short_enc]) (by simp) (hc _ (List.getElem_mem hlt))
    have e1 := idxRow (id := id) hlt
    have e2 := loadRow hid hlt
    obtain ⟨h2, eh2⟩ : ∃ g, g = h ++ [.cells (enc t.kids[k]).cells .live] := ⟨_, rfl⟩
    have hid2 : h2[id]? = some (.cells (cellsT t.kids) .live) := by rw [eh2, List.getElem?_append_left (List.getElem?_eq_some_iff.1 hid).1]; exact hid
    have n02 : h2[0]? = some (.cells [.int .i64 t.kind, .str t.name, .int .i64 t.sort, .msl id 0 4 t.kids.length none] .live) := by rw [eh2, List.getElem?_append_left (List.getElem?_eq_some_iff.1 n0).1]; exact n0
    have n12 : h2[1]? = some (.cells zc .live) := by rw [eh2, List.getElem?_append_left (List.getElem?_eq_some_iff.1 n1).1]; exact n1
    have e3 := storeRow t.kids[k] hid2 hlt
    rw [List.set_getElem_self] at e3
    have e3' : h2.set id (.cells (cellsT t.kids) .live) = h2 := by
      have := (List.getElem?_eq_some_iff.1 hid2); rw [← this.2]; exact List.set_getElem_self _
    rw [e3'] at e3
    have e4 := st25z t.kids[k] h
    have e5 := ldb25z t.kids[k] h
    rw [← eh2] at e4 e5
    have e6 := ldq n02 rfl
    simp [go_sem, g1, g10, g11, g12, hlt', e1, e2, e4, e5, e6, ck, e3, -Int.natCast_add, w2]
    exact ⟨t.kids.length - (k + 1), by omega, k + 1, rfl, hlt, by simp [go_sem, g1], by simp [go_sem, g2], by simp [go_sem, g10], by simp [go_sem, g11], by simp [go_sem], n02, n12, .inr ⟨id, rfl, hid2⟩⟩
  · have : k = t.kids.length := by omega
    subst this
    have e5 : loadV C.P h 25 (.ptr 0 0) = some (.agg [.int .i64 t.kind, .str t.name, .int .i64 t.sort, v]) := by simp [loadV, n0, cellsAt, a25, s25]
    have e6 : storeV C.P h 25 (.ptr 1 0) (.agg [.int .i64 t.kind, .str t.name, .int .i64 t.sort, v]) = some (h.set 1 (.cells [.int .i64 t.kind, .str t.name, .int .i64 t.sort, v] .live)) := by simp [storeV, n1, s25, zc]
    have e7 := (List.getElem?_eq_some_iff.1 n1).1
    have nr2 : Row (h.set 1 (.cells [.int .i64 t.kind, .str t.name, .int .i64 t.sort, v] .live)) v t.kids := by
      rcases nr with e | ⟨id, e8, hid⟩
      · exact .inl e
      · refine .inr ⟨id, e8, ?_⟩
        by_cases hi : 1 = id
        · subst hi
          rw [n1] at hid
          simp only [Option.some.injEq, VObj.cells.injEq, and_true] at hid
          rcases hform with h1 | h1
          · rw [h1] at e8; cases e8
          · rw [h1] at e8; simp at e8
        · rw [List.getElem?_set_ne hi]; exact hid
    have e9 := snap_term nr2 t.kind t.sort t.name (by omega)
    generalize hzz : AV.agg [.int .i64 t.kind, .str t.name, .int .i64 t.sort, v] = zz at e5 e6 e9
    simp [go_sem, g1, g2, g11, g12, e5, e6]
    refine hR _ _ _ (.inr rfl) ⟨zz, ?_, ?_⟩
    · simp [resultV, resV, Tryz.f206, go_sem, g2, loadV, List.getElem?_set_self e7, cellsAt, a25, s25, ← hzz]
    · rw [enc_eq]; exact e9
theorem copy206_all (t : T) : t.size ≤ 20000 → CallP C 206 [enc t] = some (enc t) := by
  induction t using T.ind with
  | _ t ih => exact fun hv => copy206 t hv (fun k hk => ih k hk (by have := kid_size hk; omega))
theorem call206 (t : T) (hs : t.size ≤ 20000) (h : H) : callV C h (.func 206 []) (some [enc t]) = some (enc t, h) := callV_strip (by kernel_rfl) rfl (dat_enc _) (by simp [short_enc]) (by simp) (copy206_all t hs)
end Go.VZ

/- Finding a binding, the program's way. -/
namespace Go.VZ
open Go Go.V Go.Proofs TL
def convW (P : Program) (a b : TypeId) : AV → Option AV
  | .isl es _ => convB P a b es
  | v => convV P a b v
@[go_sem] theorem convW_int (P : Program) (a b : TypeId) (k : IntKind) (x : Int) : convW P a b (.int k x) = convV P a b (.int k x) := (rfl)
@[go_sem] theorem OWconvert {C : Cfg} {cf : FuncId} {ops : Array Oper} {d : Tmp} {ty : TypeId} {p : String} {af : Array Edge} {l : List Oper} {s : PT} {h : H} {K : PT → H → Prop} (a b : TypeId) (x : Operand) :
    OW C cf ops (⟨some d, .convert a b x, ty, p, af, none⟩ :: l) s h K ↔ bO (bi1 (ev s x) (convW C.P a b)) fun v => OW C cf ops l (s.set d v) h K := OWn (by simp only [opN, bi1, convW]; cases ev s x <;> first | rfl | (rename_i c; cases c <;> rfl)) rfl rfl
theorem conv_u (x : Int) (h0 : 0 ≤ x) (h1 : x < 4000000000) : convV C.P 3 173 (.int .i64 x) = some (.int .u64 x) := by
  have e : convV C.P 3 173 (.int .i64 x) = some (.int .u64 (IntKind.u64.wrap x)) := by kernel_rfl
  rw [e]
  have : IntKind.u64.wrap x = x := by
    unfold IntKind.wrap
    simp only [IntKind.bits, IntKind.signed, Bool.false_and, Bool.false_eq_true, if_false]
    omega
  rw [this]
theorem conv_i (x : Int) (h0 : 0 ≤ x) (h1 : x < 4000000000) : convV C.P 173 3 (.int .u64 x) = some (.int .i64 x) := by
  have e : convV C.P 173 3 (.int .u64 x) = some (.int .i64 (IntKind.i64.wrap x)) := by kernel_rfl
  rw [e, wrap_in (by omega)]
theorem shr_u (x : Int) (_h0 : 0 ≤ x) (_h1 : x < 4000000000) (y z : Operand) : binV C.P .shr 173 y z (.int .u64 x) (.int .u64 1) = some (.int .u64 (x / 2)) := by
  have e : binV C.P .shr 173 y z (.int .u64 x) (.int .u64 1) = some (.int .u64 (x.fdiv 2)) := by kernel_rfl
  rw [e, Int.fdiv_eq_ediv_of_nonneg _ (by omega)]
theorem find259 (b : T × T) (t : T) (h1 : b.1.size < 4000000) (h3 : t.size < 4000000) : CallP C 259 [encB b, enc t] = some (.int .i64 (b.1.cmp t)) := by
  refine CallP_W rfl Tryz.func259 rfl (by kernel_rfl) (by simp [Tryz.f259]) fun R hR => ?_
  have c1 := call112 b.1 t h1 h3
  have bx : ∀ h, boxV C.P h 25 (enc t) = some (.ptr h.length 0, h ++ [.cells (enc t).cells .live]) := fun h => by rw [box25, enc_cells]
  have l2 := ldb25z t [.cells (encB b).cells .live]
  have l1 : loadV C.P ([.cells (encB b).cells .live] ++ [.cells (enc t).cells .live]) 25 (.ptr 0 0) = some (enc b.1) := by
    have := lb0n b
    simpa [loadV] using this
  simp only [List.cons_append, List.nil_append, List.length_cons, List.length_nil, Nat.zero_add] at l1 l2
  simp [go_sem, initS, box86, bx, l1, l2, c1]
  refine hR _ _ _ (.inr rfl) ⟨.int .i64 (b.1.cmp t), by simp [resultV, resV, Tryz.f259, go_sem], snap_dat rfl rfl⟩
theorem dat_find (b : T × T) (t : T) : dats [encB b, enc t] = some [encB b, enc t] := by rw [enc_eq]; rfl
theorem call259 (b : T × T) (t : T) (h1 : b.1.size < 4000000) (h3 : t.size < 4000000) (h : H) : callV C h (.func 259 []) (some [encB b, enc t]) = some (.int .i64 (b.1.cmp t), h) := callV_strip (by kernel_rfl) rfl (dat_find _ _) (by simp [short_encB, short_enc]) (by simp) (find259 b t h1 h3)
/-- Strictly in order. -/
def Inc (l : List (T × T)) : Prop := ∀ (i j : Nat) (hi : i < j) (hj : j < l.length), (l[i]'(by omega)).1.cmp l[j].1 < 0
theorem thn_zero' {a b : Int} (h : thn a b = 0) : a = 0 ∧ b = 0 := thn_zero.1 h
theorem subEs_adj : ∀ {l : List (T × T)} {p : Option T}, subEs p l = 0 → (∀ b ∈ l, bindE b = 0) ∧ (∀ q, p = some q → ∀ hb : 0 < l.length, q.cmp l[0].1 < 0) ∧ ∀ (i : Nat) (hi : i + 1 < l.length), (l[i]'(by omega)).1.cmp l[i + 1].1 < 0
  | [], _, _ => ⟨by simp, by simp, by simp⟩
  | b :: l, p, h => by
    rw [subEs] at h
    obtain ⟨h1, h2⟩ := thn_zero' h
    by_cases hp : later p b.1 = true
    · rw [if_pos hp] at h2; cases h2
    · rw [if_neg hp] at h2
      obtain ⟨k1, k2, k3⟩ := subEs_adj h2
      refine ⟨fun c hc => ?_, fun q hq _ => ?_, fun i hi => ?_⟩
      · rcases List.mem_cons.1 hc with rfl | hc
        · exact h1
        · exact k1 c hc
      · subst hq; simp only [later, decide_eq_true_eq] at hp; simpa using hp
      · cases i with
        | zero => exact k2 b.1 rfl (by simpa using hi)
        | succ i => exact k3 i (by simpa using hi)
theorem inc_of {l : List (T × T)} (h : subE l = 0) : Inc l := by
  unfold subE at h
  split at h
  · cases h
  obtain ⟨_, _, h3⟩ := subEs_adj h
  intro i j hij hj
  induction j with
  | zero => omega
  | succ j ih =>
    by_cases he : i = j
    · subst he; exact h3 i hj
    · exact cmp_trans (ih (by omega) (by omega)) (h3 j hj)
/-- Where the search ends. -/
def Mid (l : List (T × T)) (t : T) (i j : Nat) : Prop := i ≤ j ∧ j ≤ l.length ∧ (∀ a (ha : a < l.length), a < i → l[a].1.cmp t < 0) ∧ ∀ a (ha : a < l.length), j ≤ a → 0 ≤ l[a].1.cmp t
theorem getB_none : ∀ {l : List (T × T)} {t : T}, (∀ b ∈ l, b.1.cmp t ≠ 0) → getB l t = t
  | [], _, _ => rfl
  | b :: l, t, h => by rw [getB, if_neg (h b (by simp))]; exact getB_none fun c hc => h c (by simp [hc])
theorem getB_at : ∀ {l : List (T × T)} {t : T} {i : Nat} (hi : i < l.length), (∀ a (ha : a < i), (l[a]'(by omega)).1.cmp t ≠ 0) → l[i].1.cmp t = 0 → getB l t = l[i].2
  | [], _, _, hi, _, _ => by simp at hi
  | b :: l, t, 0, _, _, h => by rw [getB]; exact if_pos (c := b.1.cmp t = 0) h
  | b :: l, t, i + 1, hi, hn, h => by
    rw [getB, if_neg (show ¬ b.1.cmp t = 0 from hn 0 (by omega))]
    exact getB_at (by simpa using hi) (fun a ha => hn (a + 1) (by omega)) h
theorem mid_get {l : List (T × T)} {t : T} {i : Nat} (hs : Inc l) (m : Mid l t i i) : getB l t = if h : i < l.length then (if l[i].1.cmp t = 0 then l[i].2 else t) else t := by
  obtain ⟨_, _, m3, m4⟩ := m
  by_cases hi : i < l.length
  · rw [dif_pos hi]
    by_cases hc : l[i].1.cmp t = 0
    · rw [if_pos hc]; exact getB_at hi (fun a ha => by have := m3 a (by omega) ha; omega) hc
    · rw [if_neg hc]
      refine getB_none fun b hb => ?_
      obtain ⟨a, ha, rfl⟩ := List.getElem_of_mem hb
      by_cases h1 : a < i
      · have := m3 a ha h1; omega
      · by_cases h2 : a = i
        · subst h2; exact hc
        · have h3 := m4 i hi (Nat.le_refl _)
          have h4 := hs i a (by omega) ha
          have h5 := cmp_trans (cmp_lt (by omega : 0 < l[i].1.cmp t)) h4
          have := cmp_gt h5
          omega
  · rw [dif_neg hi]
    refine getB_none fun b hb => ?_
    obtain ⟨a, ha, rfl⟩ := List.getElem_of_mem hb
    have := m3 a ha (by omega); omega
def NI258 (l : List (T × T)) (t : T) (m : Nat) (s : PT) (h : H) : Prop := ∃ i j : Nat, m = j - i ∧ Mid l t i j ∧ h = [.cells (enc t).cells .live] ∧ s.get 0 = binds l ∧ s.get 2 = .func 259 [] ∧ s.get 4 = .ptr 0 0 ∧ s.get 8 = .int .i64 l.length ∧ s.get 9 = .int .i64 i ∧ s.get 10 = .int .i64 j
/-- Where the search ends. -/
def idx (l : List (T × T)) (t : T) : Nat := l.findIdx fun b => decide (0 ≤ b.1.cmp t)
theorem idx_of {l : List (T × T)} {t : T} {i : Nat} (m : Mid l t i i) : i = idx l t := by
  obtain ⟨_, m2, m3, m4⟩ := m
  by_cases hi : i < l.length
  · exact ((List.findIdx_eq hi).2 ⟨by simpa using m4 i hi (Nat.le_refl _), fun a ha => by simpa using m3 a (by omega) ha⟩).symm
  · have e : i = l.length := by omega
    have : idx l t = l.length := by
      refine List.findIdx_eq_length.2 fun b hb => ?_
      obtain ⟨a, ha, rfl⟩ := List.getElem_of_mem hb
      simpa using m3 a ha (by omega)
    omega
def hit (l : List (T × T)) (t : T) : Bool := if h : idx l t < l.length then decide (l[idx l t].1.cmp t = 0) else false
def foundV (l : List (T × T)) (t : T) : AV := .tuple [.int .i64 (idx l t), .bool (hit l t)]
set_option maxRecDepth 8000 in
set_option maxHeartbeats 2000000 in
theorem search258 (l : List (T × T)) (t : T) (hs : small l) (hi : Inc l) (hv : t.size < 4000000) (hl : l.length < 1000000) : CallP C 258 [binds l, enc t, .func 259 []] = some (foundV l t) := by
  refine CallP_W rfl Tryz.func258 rfl (by kernel_rfl) (by simp [Tryz.f258]) fun R hR => ?_
  have bx : ∀ h, boxV C.P h 25 (enc t) = some (.ptr h.length 0, h ++ [.cells (enc t).cells .live]) := fun h => by rw [box25, enc_cells]
  simp [go_sem, bx, len46, binds]
  refine W_loop (NI258 l t) l.length ⟨0, l.length, rfl, ⟨Nat.zero_le _, Nat.le_refl _, by simp, fun a h1 h2 => by omega⟩, rfl, by simp [go_sem, binds], by simp [go_sem], by simp [go_sem], by simp [go_sem], by simp [go_sem], by simp [go_sem]⟩ ?_
  rintro m s h ⟨i, j, rfl, hm, rfl, g0, g2, g4, g8, g9, g10⟩
  simp only [binds] at g0
  have l1 : loadV C.P [.cells (enc t).cells .live] 25 (.ptr 0 0) = some (enc t) := ldb25z t []
  obtain ⟨m1, m2, m3, m4⟩ := hm
  by_cases hlt : i < j
  · have hlt' : (i : Int) < j := by omega
    obtain ⟨sm, hsm⟩ : ∃ q, q = i + j := ⟨_, rfl⟩
    obtain ⟨q, hq⟩ : ∃ q, q = sm / 2 := ⟨_, rfl⟩
    have ws : IntKind.i64.wrap ((i : Int) + j) = (sm : Int) := by rw [wrap_in (by omega)]; omega
    have wq : IntKind.i64.wrap ((q : Int) + 1) = ((q + 1 : Nat) : Int) := by rw [wrap_in (by omega)]; omega
    have cu := conv_u sm (by omega) (by omega)
    have su := fun y z => shr_u sm (by omega) (by omega) y z
    have eq2 : (sm : Int) / 2 = (q : Int) := by omega
    simp only [eq2] at su
    have ci := conv_i q (by omega) (by omega)
    have hql : q < l.length := by omega
    have hix := idx46 l q hql .unk
    have hsb := hs _ (List.getElem_mem hql)
    have cf := call259 l[q] t hsb.1 hv
    simp [go_sem, g0, g2, g4, g9, g10, hlt', ws, cu, su, ci, hix, ld86, l1, cf]
    refine Ife_iff.2 ⟨fun h1 => ?_, fun h1 => ?_⟩
    · simp [go_sem, wq, -Int.natCast_add]
      exact ⟨j - (q + 1), by omega, q + 1, j, rfl, ⟨by omega, m2, fun a ha hb => by
        by_cases he : a = q
        · subst he; exact h1
        · exact cmp_trans (hi a q (by omega) hql) h1, m4⟩, rfl, by simp [go_sem, g0, binds], by simp [go_sem, g2], by simp [go_sem, g4], by simp [go_sem, g8], by simp [go_sem], by simp [go_sem, g10]⟩
    · simp [go_sem, -Int.natCast_add]
      exact ⟨q - i, by omega, i, q, rfl, ⟨by omega, by omega, m3, fun a ha hb => by
        by_cases he : a = q
        · subst he; omega
        · have h2 := hi q a (by omega) ha
          by_cases h3 : l[q].1.cmp t = 0
          · rw [cmp_zero] at h3; rw [h3] at h2; have := cmp_gt h2; omega
          · have := cmp_gt (cmp_trans (cmp_lt (by omega : 0 < l[q].1.cmp t)) h2); omega⟩, rfl, by simp [go_sem, g0, binds], by simp [go_sem, g2], by simp [go_sem, g4], by simp [go_sem, g8], by simp [go_sem, g9], by simp [go_sem]⟩
  · have : i = j := by omega
    subst this
    have hid := idx_of ⟨m1, m2, m3, m4⟩
    by_cases hil : i < l.length
    · have hil' : (i : Int) < l.length := by omega
      have hix := idx46 l i hil .unk
      have hsb := hs _ (List.getElem_mem hil)
      have cf := call259 l[i] t hsb.1 hv
      simp +contextual [go_sem, g0, g2, g4, g8, g9, g10, hil', hix, ld86, l1, cf]
      refine hR _ _ _ (.inr rfl) ⟨foundV l t, ?_, snap_dat rfl rfl⟩
      subst hid
      simp [resultV, resV, resVs, Tryz.f258, go_sem, foundV, hit, hil]
    · have hil' : ¬ (i : Int) < l.length := by omega
      simp +contextual [go_sem, g0, g2, g4, g8, g9, g10, hil']
      refine hR _ _ _ (.inr rfl) ⟨foundV l t, ?_, snap_dat rfl rfl⟩
      subst hid
      simp [resultV, resV, resVs, Tryz.f258, go_sem, foundV, hit, hil]
theorem dats_search (l : List (T × T)) (t : T) : dats [binds l, enc t, .func 259 []] = some [binds l, enc t, .func 259 []] := by rw [enc_eq]; rfl
theorem short_func (f : FuncId) : short (.func f []) = true := rfl
theorem short_bool (b : Bool) : short (.bool b) = true := rfl
theorem call258 (l : List (T × T)) (t : T) (hs : small l) (hi : Inc l) (hv : t.size < 4000000) (hl : l.length < 1000000) (h : H) : callV C h (.func 258 []) (some [binds l, enc t, .func 259 []]) = some (foundV l t, h) := callV_strip (by kernel_rfl) rfl (dats_search _ _) (by simp [short_binds, short_enc, short_func]) (by simp) (search258 l t hs hi hv hl)
theorem snap_tuple {h : H} {l l' : List AV} (hd : dats l = some l') (hs : l.all short = true) (hl : l.length ≤ 1000) : snap h deep (.tuple l) = some (.tuple l') := by
  have e := (dats_snap (h := h) hd hs 999999 (by omega)).1
  have : snap h deep (.tuple l) = (match snaps h 999999 l with
    | some l => some (.tuple l)
    | none => none) := rfl
  rw [this, e]
def hasB (l : List (T × T)) (t : T) : Bool := hit l t
theorem idx_mid {l : List (T × T)} {t : T} (hs : Inc l) : Mid l t (idx l t) (idx l t) := by
  refine ⟨Nat.le_refl _, List.findIdx_le_length, fun a ha h1 => ?_, fun a ha h1 => ?_⟩
  · have := List.not_of_lt_findIdx h1
    simpa using this
  · by_cases he : a = idx l t
    · have := List.findIdx_getElem (w := by simpa [idx] using (show idx l t < l.length by omega)) (p := fun b : T × T => decide (0 ≤ b.1.cmp t)) (xs := l)
      simp only [decide_eq_true_eq] at this
      subst he; exact this
    · have h0 : idx l t < l.length := by omega
      have h2 := List.findIdx_getElem (w := h0) (p := fun b : T × T => decide (0 ≤ b.1.cmp t)) (xs := l)
      simp only [decide_eq_true_eq] at h2
      have h3 := hs (idx l t) a (by omega) ha
      by_cases h4 : l[idx l t].1.cmp t = 0
      · rw [cmp_zero] at h4; rw [h4] at h3; have := cmp_gt h3; omega
      · have h5 : 0 ≤ l[idx l t].1.cmp t := h2
        have := cmp_gt (cmp_trans (cmp_lt (by omega : 0 < l[idx l t].1.cmp t)) h3); omega
theorem getB_hit {l : List (T × T)} {t : T} (hs : Inc l) : (∃ h : idx l t < l.length, hit l t = true ∧ getB l t = l[idx l t].2) ∨ (hit l t = false ∧ getB l t = t) := by
  have e := mid_get hs (idx_mid (t := t) hs)
  by_cases h : idx l t < l.length
  · rw [dif_pos h] at e
    by_cases hc : l[idx l t].1.cmp t = 0
    · rw [if_pos hc] at e
      exact .inl ⟨h, by simp [hit, h, hc], e⟩
    · rw [if_neg hc] at e
      exact .inr ⟨by simp [hit, h, hc], e⟩
  · rw [dif_neg h] at e
    exact .inr ⟨by simp [hit, h], e⟩
set_option maxRecDepth 8000 in
set_option maxHeartbeats 2000000 in
theorem find207 (l : List (T × T)) (t : T) (hs : small l) (hi : Inc l) (hv : t.size < 4000000) (hl : l.length < 1000000) : CallP C 207 [binds l, enc t] = some (.tuple [enc (getB l t), .bool (hit l t)]) := by
  refine CallP_W rfl Tryz.func207 rfl (by kernel_rfl) (by simp [Tryz.f207]) fun R hR => ?_
  have c1 := call258 l t hs hi hv hl
  have fin : ∀ (s : PT) (t' : T) (h : H) (b : Bool), s.get 4 = .ptr 1 0 → s.get 5 = .bool b → h[1]? = some (.cells (enc t').cells .live) → t' = getB l t → b = hit l t → R .ret s h := fun s t' h b hs h5 hh ht hb => by
    refine hR _ _ _ (.inr rfl) ⟨.tuple [enc t', .bool b], ?_, ?_⟩
    · simp [resultV, resV, resVs, Tryz.f207, hs, h5, loadV, hh, cellsAt, a25, s25, enc_cells]; rw [enc_eq]
    · rw [← ht, ← hb]; exact snap_tuple (by rw [enc_eq]; rfl) (by simp [short_enc, short_bool]) (by simp)
  rcases getB_hit (t := t) hi with ⟨h, h1, h2⟩ | ⟨h1, h2⟩
  · have hix : indexAddrV C.P 46 (binds l) (.int .i64 (idx l t)) = some (.iptr (encB l[idx l t]) 0) := idx46 l (idx l t) h .unk
    simp [go_sem, initS, enc_cells, terms, ld25c, c1, foundV, h1, hix, ld25i4, st25b]
    exact fin _ l[idx l t].2 _ true (by simp [go_sem]) (by simp [go_sem]) (by simp [enc_cells, terms]) h2.symm h1.symm
  · simp [go_sem, initS, enc_cells, terms, ld25c, c1, foundV, h1, st25b]
    exact fin _ t _ false (by simp [go_sem]) (by simp [go_sem]) (by simp [enc_cells, terms]) h2.symm h1.symm
theorem call207 (l : List (T × T)) (t : T) (hs : small l) (hi : Inc l) (hv : t.size < 4000000) (hl : l.length < 1000000) (h : H) : callV C h (.func 207 []) (some [binds l, enc t]) = some (.tuple [enc (getB l t), .bool (hit l t)], h) := callV_strip (by kernel_rfl) rfl (dat_binds2 _ _) (by simp [short_binds, short_enc]) (by simp) (find207 l t hs hi hv hl)
end Go.VZ

/- Put, the program's way. -/
namespace Go.VZ
open Go Go.V Go.Proofs TL
/-- The row after k rounds. -/
def rowK (f : T → T) (l : List T) (k : Nat) : List T := (l.take k).map f ++ l.drop k
theorem rowK_len (f : T → T) (l : List T) (k : Nat) : (rowK f l k).length = l.length := by simp [rowK]; omega
theorem rowK_get (f : T → T) {l : List T} {k : Nat} (hk : k < l.length) : (rowK f l k)[k]'(by rw [rowK_len]; exact hk) = l[k] := by
  simp only [rowK]
  rw [List.getElem_append_right (by simp; omega)]
  simp; congr 1; omega
theorem rowK_set (f : T → T) {l : List T} {k : Nat} (hk : k < l.length) : (rowK f l k).set k (f l[k]) = rowK f l (k + 1) := by
  simp only [rowK]
  rw [List.set_append_right _ _ (by simp; omega), List.drop_eq_getElem_cons hk]
  have e : k - (List.map f (List.take k l)).length = 0 := by simp; omega
  rw [e, List.set_cons_zero, ← List.take_append_getElem hk, List.map_append, List.append_assoc]; rfl
theorem rowK_full (f : T → T) (l : List T) : rowK f l l.length = l.map f := by simp [rowK]
/-- The row at its place. -/
def Row2 (h : H) (v : AV) (l : List T) : Prop := (l = [] ∧ v = .isl [] .full) ∨ (v = .msl 2 0 4 l.length none ∧ h[2]? = some (.cells (cellsT l) .live))
theorem Row2.row {h : H} {v : AV} {l : List T} (r : Row2 h v l) : Row h v l := r.elim .inl fun e => .inr ⟨2, e⟩
def NI211 (lb : List (T × T)) (t : T) (v : AV) (m : Nat) (s : PT) (h : H) : Prop := ∃ k : Nat, m = t.kids.length - k ∧ k ≤ t.kids.length ∧ s.get 0 = binds lb ∧ s.get 3 = .ptr 0 0 ∧ s.get 4 = .ptr 1 0 ∧ s.get 25 = v ∧ s.get 26 = .int .i64 t.kids.length ∧ s.get 27 = .int .i64 k ∧
  h[0]? = some (.cells [.int .i64 t.kind, .str t.name, .int .i64 t.sort, v] .live) ∧ h[1]? = some (.cells zc .live) ∧ Row2 h v (rowK (putB lb) t.kids k)
set_option maxRecDepth 8000 in
set_option maxHeartbeats 4000000 in
theorem put211 (lb : List (T × T)) (t : T) (hs : small lb) (hi : Inc lb) (hl : lb.length < 1000000) (h20 : ∀ b ∈ lb, b.2.size ≤ 20000) (hv : t.size ≤ 20000) (hc : ∀ k ∈ t.kids, CallP C 211 [binds lb, enc k] = some (enc (putB lb k))) : CallP C 211 [binds lb, enc t] = some (enc (putB lb t)) := by
  refine CallP_W rfl Tryz.func211 rfl (by kernel_rfl) (by simp [Tryz.f211]) fun R hR => ?_
  have hsz := size_kids t
  have hlen := len_sizes t.kids
  have hpe := putB_eq lb t
  obtain ⟨v, h', hcl, hrow, hkp, hform⟩ := call193 t.kids .unk [.cells (tc t) .live, .cells zc .live] (by omega)
  have m0 : h'[0]? = some (.cells (tc t) .live) := hkp.get rfl (by simp)
  have m1 : h'[1]? = some (.cells zc .live) := hkp.get rfl (by simp)
  have hst := stq v m0 hrow.form
  have hl' := (List.getElem?_eq_some_iff.1 m0).1
  have hlq : loadV C.P (h'.set 0 (.cells [.int .i64 t.kind, .str t.name, .int .i64 t.sort, v] .live)) 23 (.ptr 0 3) = some v := ldq (List.getElem?_set_self hl') (by rcases hrow.form with rfl | ⟨_, _, rfl⟩ <;> rfl)
  have hln := hrow.len
  have c1 := call207 lb t hs hi (by omega) hl
  have hgs : (getB lb t).size ≤ 20000 := by
    rcases getB_hit (t := t) hi with ⟨h, _, h2⟩ | ⟨_, h2⟩
    · rw [h2]; exact h20 _ (List.getElem_mem h)
    · rw [h2]; exact hv
  have c2 := call206 (getB lb t) hgs
  have fin : ∀ (s : PT) (t' : T) (h : H), s.get 4 = .ptr 1 0 → h[1]? = some (.cells (enc t').cells .live) → t' = putB lb t → R .ret s h := fun s t' h hs hh ht => by
    refine hR _ _ _ (.inr rfl) ⟨enc t', ?_, ?_⟩
    · simp [resultV, resV, Tryz.f211, hs, loadV, hh, cellsAt, a25, s25, enc_cells]; rw [enc_eq]
    · rw [← ht]; exact snap_dat (dat_enc' t') (short_enc t')
  simp only [tc, zc] at hcl
  by_cases hk1 : t.kind = 1
  · rw [if_pos hk1] at hpe
    have q1 : ∀ (x y : VObj) (t : T), storeV C.P [x, y, .cells [.int .i64 0, .str ⟨#[]⟩, .int .i64 0, .isl [] .full] .live] 25 (.ptr 2 0) (enc t) = some [x, y, .cells (enc t).cells .live] := fun x y t => st25c t _ _ _ _ x y
    have q2 : ∀ (x y : VObj) (t : T), loadV C.P [x, y, .cells (enc t).cells .live] 25 (.ptr 2 0) = some (enc t) := fun x y t => ldb25z t [x, y]
    have q3 : ∀ (x z : VObj) (t : T), storeV C.P [x, .cells [.int .i64 0, .str ⟨#[]⟩, .int .i64 0, .isl [] .full] .live, z] 25 (.ptr 1 0) (enc t) = some [x, .cells (enc t).cells .live, z] := fun x z t => by
      simp [storeV, s25, enc_cells]; rw [enc_eq]; rfl
    have bx : boxV C.P [] 25 (enc t) = some (.ptr 0 0, [.cells (enc t).cells .live]) := by rw [box25, enc_cells]; rfl
    have q4 : ∀ (l : List VObj), loadV C.P (.cells (enc t).cells .live :: l) 25 (.ptr 0 0) = some (enc t) := fun l => by rw [enc_cells]; exact ld25c t l
    have q5 : ∀ (l : List VObj), loadV C.P (.cells (enc t).cells .live :: l) 3 (.ptr 0 0) = some (.int .i64 t.kind) := fun l => by rw [enc_cells]; exact ld3c0 _ _ _ _ l
    simp [go_sem, initS, bx, q1, q2, q3, q4, q5, hk1, c1, c2]
    exact fin _ (getB lb t) _ (by simp [go_sem]) (by simp) hpe.symm
  rw [if_neg hk1] at hpe
  simp [go_sem, terms, ld23c, hcl, hst, hlq, hln, hk1]
  have hrow2 : Row2 (h'.set 0 (.cells [.int .i64 t.kind, .str t.name, .int .i64 t.sort, v] .live)) v (rowK (putB lb) t.kids 0) := by
    rcases hrow with ⟨e1, e2⟩ | ⟨id, e8, hid⟩
    · exact .inl ⟨by simp [rowK, e1], e2⟩
    · rcases hform with h1 | h1
      · rw [h1] at e8; cases e8
      · rw [h1] at e8; simp only [List.length_cons, List.length_nil, AV.msl.injEq] at e8
        obtain ⟨rfl, _⟩ := e8
        refine .inr ⟨by rw [h1]; simp [rowK], ?_⟩
        rw [List.getElem?_set_ne (by omega)]; simpa [rowK] using hid
  refine W_loop (NI211 lb t v) t.kids.length ⟨0, rfl, Nat.zero_le _, by simp [go_sem], by simp [go_sem], by simp [go_sem], by simp [go_sem], by simp [go_sem], by simp [go_sem], List.getElem?_set_self hl', by rw [List.getElem?_set_ne (by omega)]; exact m1, hrow2⟩ ?_
  rintro m s h ⟨k, rfl, hk, g0, g3, g4, g25, g26, g27, n0, n1, nr⟩
  have hrl := rowK_len (putB lb) t.kids k
  by_cases hlt : k < t.kids.length
  · have hlt' : (k : Int) < t.kids.length := by omega
    have hltr : k < (rowK (putB lb) t.kids k).length := by omega
    obtain ⟨rfl, hid⟩ : v = .msl 2 0 4 t.kids.length none ∧ h[2]? = some (.cells (cellsT (rowK (putB lb) t.kids k)) .live) := by
      rcases nr with ⟨e, _⟩ | e
      · rw [e] at hrl; simp at hrl; omega
      · rw [hrl] at e; exact e
    have w2 : IntKind.i64.wrap ((k : Int) + 1) = ((k + 1 : Nat) : Int) := by rw [wrap_in (by omega)]; omega
    have ck : ∀ h, callV C h (.func 211 []) (some [binds lb, enc t.kids[k]]) = some (enc (putB lb t.kids[k]), h) := fun h => callV_strip (by kernel_rfl) rfl (dat_binds2 _ _) (by simp [short_binds, short_enc]) (by simp) (hc _ (List.getElem_mem hlt))
    have e1 := idxRow (id := 2) hlt
    have e2 := loadRow hid hltr
    rw [rowK_get _ hlt] at e2
    obtain ⟨h2, eh2⟩ : ∃ g, g = h ++ [.cells (enc t.kids[k]).cells .live] := ⟨_, rfl⟩
    have hid2 : h2[2]? = some (.cells (cellsT (rowK (putB lb) t.kids k)) .live) := by rw [eh2, List.getElem?_append_left (List.getElem?_eq_some_iff.1 hid).1]; exact hid
    have n02 : h2[0]? = some (.cells [.int .i64 t.kind, .str t.name, .int .i64 t.sort, .msl 2 0 4 t.kids.length none] .live) := by rw [eh2, List.getElem?_append_left (List.getElem?_eq_some_iff.1 n0).1]; exact n0
    have n12 : h2[1]? = some (.cells zc .live) := by rw [eh2, List.getElem?_append_left (List.getElem?_eq_some_iff.1 n1).1]; exact n1
    have e3 := storeRow (putB lb t.kids[k]) hid2 hltr
    rw [rowK_set _ hlt] at e3
    have e4 := st25z t.kids[k] h
    have e5 := ldb25z t.kids[k] h
    rw [← eh2] at e4 e5
    have e6 := ldq n02 rfl
    simp [go_sem, g0, g3, g25, g26, g27, hlt', e1, e2, e4, e5, e6, ck, e3, -Int.natCast_add, w2]
    exact ⟨t.kids.length - (k + 1), by omega, k + 1, rfl, hlt, by simp [go_sem, g0], by simp [go_sem, g3], by simp [go_sem, g4], by simp [go_sem, g25], by simp [go_sem, g26], by simp [go_sem], by rw [List.getElem?_set_ne (by omega)]; exact n02, by rw [List.getElem?_set_ne (by omega)]; exact n12,
      .inr ⟨by rw [rowK_len], List.getElem?_set_self (List.getElem?_eq_some_iff.1 hid2).1⟩⟩
  · have : k = t.kids.length := by omega
    subst this
    rw [rowK_full] at nr
    have e5 : loadV C.P h 25 (.ptr 0 0) = some (.agg [.int .i64 t.kind, .str t.name, .int .i64 t.sort, v]) := by simp [loadV, n0, cellsAt, a25, s25]
    have e6 : storeV C.P h 25 (.ptr 1 0) (.agg [.int .i64 t.kind, .str t.name, .int .i64 t.sort, v]) = some (h.set 1 (.cells [.int .i64 t.kind, .str t.name, .int .i64 t.sort, v] .live)) := by simp [storeV, n1, s25, zc]
    have e7 := (List.getElem?_eq_some_iff.1 n1).1
    have nr2 : Row (h.set 1 (.cells [.int .i64 t.kind, .str t.name, .int .i64 t.sort, v] .live)) v (t.kids.map (putB lb)) := by
      rcases nr with e | ⟨e8, hid⟩
      · exact .inl e
      · exact .inr ⟨2, e8, by rw [List.getElem?_set_ne (by omega)]; exact hid⟩
    have e9 := snap_term nr2 t.kind t.sort t.name (by simp; omega)
    generalize hzz : AV.agg [.int .i64 t.kind, .str t.name, .int .i64 t.sort, v] = zz at e5 e6 e9
    simp [go_sem, g3, g4, g26, g27, e5, e6]
    refine hR _ _ _ (.inr rfl) ⟨zz, ?_, ?_⟩
    · simp [resultV, resV, Tryz.f211, go_sem, g4, loadV, List.getElem?_set_self e7, cellsAt, a25, s25, ← hzz]
    · rw [hpe, enc_eq]; exact e9
theorem put211_all (lb : List (T × T)) (hs : small lb) (hi : Inc lb) (hl : lb.length < 1000000) (h20 : ∀ b ∈ lb, b.2.size ≤ 20000) (t : T) : t.size ≤ 20000 → CallP C 211 [binds lb, enc t] = some (enc (putB lb t)) := by
  induction t using T.ind with
  | _ t ih => exact fun hv => put211 lb t hs hi hl h20 hv (fun k hk => ih k hk (by have := kid_size hk; omega))
theorem call211 (lb : List (T × T)) (t : T) (hs : small lb) (hi : Inc lb) (hl : lb.length < 1000000) (h20 : ∀ b ∈ lb, b.2.size ≤ 20000) (hv : t.size ≤ 20000) (h : H) : callV C h (.func 211 []) (some [binds lb, enc t]) = some (enc (putB lb t), h) := callV_strip (by kernel_rfl) rfl (dat_binds2 _ _) (by simp [short_binds, short_enc]) (by simp) (put211_all lb hs hi hl h20 t hv)
end Go.VZ

/- Apply, both ways. -/
namespace Go.VZ
open Go Go.V Go.Proofs TL
/-- No term. -/
def zT : T := .mk 0 ⟨#[]⟩ 0 []
theorem nodes_zero {t : T} (h : validE t = 0) : nodesE t = 0 ∧ t.size ≤ 400 ∧ t.depth ≤ 40 := by
  unfold validE at h
  obtain ⟨h1, h2⟩ := thn_zero.1 h
  split at h2
  · cases h2
  · exact ⟨h1, by omega, by omega⟩
theorem getB_mem : ∀ (l : List (T × T)) (t : T), getB l t = t ∨ ∃ b ∈ l, getB l t = b.2
  | [], _ => .inl rfl
  | b :: l, t => by
    rw [getB]
    split
    · exact .inr ⟨b, by simp, rfl⟩
    · rcases getB_mem l t with h | ⟨c, hc, h⟩
      · exact .inl h
      · exact .inr ⟨c, by simp [hc], h⟩
theorem putB_size (l : List (T × T)) (hl : ∀ b ∈ l, b.2.size ≤ 400) (t : T) : (putB l t).size ≤ 400 * t.size := by
  induction t using T.ind with
  | _ t ih =>
    have h0 := size_kids t
    rw [putB_eq]
    split
    · rcases getB_mem l t with h | ⟨b, hb, h⟩
      · rw [h]; omega
      · rw [h]; have := hl b hb; omega
    · rw [size_kids]
      show sizes (t.kids.map (putB l)) + 1 ≤ _
      have : ∀ m : List T, (∀ k ∈ m, (putB l k).size ≤ 400 * k.size) → sizes (m.map (putB l)) ≤ 400 * sizes m := by
        intro m
        induction m with
        | nil => intro _; simp [sizes]
        | cons a m ihm =>
          intro hm
          have h1 := hm a (by simp)
          have h2 := ihm fun k hk => hm k (by simp [hk])
          rw [List.map_cons, sizes, sizes]; omega
      have := this t.kids ih
      omega
def applyR (l : List (T × T)) (t : T) : T × Int := if subE l ≠ 0 then (zT, subE l) else if validE t ≠ 0 then (zT, validE t) else if validE (putB l t) ≠ 0 then (zT, validE (putB l t)) else (putB l t, 0)
/-- Bindings that were found in order. -/
theorem sub_good {l : List (T × T)} (h : subE l = 0) : Inc l ∧ l.length ≤ 200 ∧ ∀ b ∈ l, b.1.size ≤ 400 ∧ b.2.size ≤ 400 := by
  refine ⟨inc_of h, ?_, fun b hb => ?_⟩
  · unfold subE at h; split at h
    · cases h
    · omega
  · unfold subE at h; split at h
    · cases h
    have h1 := (subEs_adj h).1 b hb
    unfold bindE at h1
    obtain ⟨h2, h3⟩ := thn_zero.1 h1
    split at h3
    · cases h3
    obtain ⟨h4, _⟩ := thn_zero.1 h3
    exact ⟨(nodes_zero h2).2.1, (nodes_zero h4).2.1⟩
def resV2 (r : T × Int) : AV := .tuple [enc r.1, .int .i64 r.2]
/-- A result: a term in a cell, and a number. -/
theorem snap_resV2 (h : H) (t : T) (e : Int) : snap h deep (resV2 (t, e)) = some (resV2 (t, e)) := snap_tuple (by rw [enc_eq]; rfl) (by simp [short_enc, short_int]) (by simp)
theorem snap_resZ (h : H) (e : Int) : snap h deep (.tuple [.agg [.int .i64 0, .str ⟨#[]⟩, .int .i64 0, .isl [] .full], .int .i64 e]) = some (resV2 (zT, e)) := snap_tuple rfl rfl (by simp)
@[go_sem] theorem OWbuild {C : Cfg} {cf : FuncId} {ops : Array Oper} {d : Tmp} {ty : TypeId} {p : String} {af : Array Edge} {l : List Oper} {s : PT} {h : H} {K : PT → H → Prop} (t : TypeId) (parts : List (Nat × Operand)) :
    OW C cf ops (⟨some d, .build t parts.toArray, ty, p, af, none⟩ :: l) s h K ↔ bO (bi1 (partsV s parts) (buildV C.P t)) fun v => OW C cf ops l (s.set d v) h K := OWn (by simp only [opN, bi1]; cases partsV s parts <;> rfl) rfl rfl
theorem bld25 : buildV C.P 25 [] = some (.agg [.int .i64 0, .str ⟨#[]⟩, .int .i64 0, .isl [] .full]) := by kernel_rfl
theorem st25e (a b c d : AV) (y : VObj) (l : List VObj) (a' b' c' d' : AV) : storeV C.P (y :: .cells [a, b, c, d] .live :: l) 25 (.ptr 1 0) (.agg [a', b', c', d']) = some (y :: .cells [a', b', c', d'] .live :: l) := by simp [storeV, s25]
theorem st25f (t : T) (a b c d : AV) (y : VObj) (l : List VObj) : storeV C.P (y :: .cells [a, b, c, d] .live :: l) 25 (.ptr 1 0) (enc t) = some (y :: .cells (enc t).cells .live :: l) := by simp [storeV, s25, enc_cells]; rw [enc_eq]; rfl
theorem ld25e (t : T) (x y : VObj) : loadV C.P [x, y, .cells (enc t).cells .live] 25 (.ptr 2 0) = some (enc t) := ldb25z t [x, y]
set_option maxRecDepth 8000 in
set_option maxHeartbeats 4000000 in
theorem apply46 (l : List (T × T)) (t : T) (hs : small l) (hv : t.size < 4000000) (hl : l.length < 1000000) : CallP C 46 [binds l, enc t] = some (resV2 (applyR l t)) := by
  refine CallP_W rfl Tryz.func46 rfl (by kernel_rfl) (by simp [Tryz.f46]) fun R hR => ?_
  have c1 := call67 l hs
  have c2 := call86 t hv
  have c3 := call87 l t hs hv (by omega)
  have fz : ∀ (s : PT) (h : H) (e : Int), s.get 4 = .ptr 1 0 → s.get 5 = .int .i64 e → h[1]? = some (.cells zc .live) → applyR l t = (zT, e) → R .ret s h := fun s h e h4 h5 hh he => by
    refine hR _ _ _ (.inr rfl) ⟨_, ?_, (snap_resZ _ e).trans (by rw [he])⟩
    simp [resultV, resV, resVs, Tryz.f46, h4, h5, loadV, hh, cellsAt, a25, s25, zc]
  have fin : ∀ (s : PT) (h : H) (t' : T), s.get 4 = .ptr 1 0 → s.get 5 = .int .i64 0 → h[1]? = some (.cells (enc t').cells .live) → applyR l t = (t', 0) → R .ret s h := fun s h t' h4 h5 hh he => by
    refine hR _ _ _ (.inr rfl) ⟨resV2 (t', 0), ?_, (snap_resV2 _ t' 0).trans (by rw [he])⟩
    simp [resultV, resV, resVs, Tryz.f46, h4, h5, loadV, hh, cellsAt, a25, s25, enc_cells, resV2]; rw [enc_eq]
  have bx : boxV C.P [] 25 (enc t) = some (.ptr 0 0, [.cells (enc t).cells .live]) := by rw [box25, enc_cells]; rfl
  have q4 : ∀ (l : List VObj), loadV C.P (.cells (enc t).cells .live :: l) 25 (.ptr 0 0) = some (enc t) := fun l => by rw [enc_cells]; exact ld25c t l
  simp [go_sem, bx, c1]
  refine Ife_iff.2 ⟨fun h1 => ?_, fun h1 => ?_⟩
  · simp [go_sem, bld25, st25e]
    exact fz _ _ (subE l) (by simp [go_sem]) (by simp [go_sem]) rfl (by unfold applyR; rw [if_pos h1])
  simp only [Decidable.not_not] at h1
  simp [go_sem, q4, c2]
  refine Ife_iff.2 ⟨fun h2 => ?_, fun h2 => ?_⟩
  · simp [go_sem, bld25, st25e]
    exact fz _ _ (validE t) (by simp [go_sem]) (by simp [go_sem]) rfl (by unfold applyR; rw [if_neg (by omega), if_pos h2])
  simp only [Decidable.not_not] at h2
  obtain ⟨hi, hl2, h4⟩ := sub_good h1
  have hps := putB_size l (fun b hb => (h4 b hb).2) t
  have := nodes_zero h2
  have c4 := call86 (putB l t) (by omega)
  simp [go_sem, q4, c3, c4, st25c, ld25e]
  refine Ife_iff.2 ⟨fun h3 => ?_, fun h3 => ?_⟩
  · simp [go_sem, bld25, st25e]
    exact fz _ _ (validE (putB l t)) (by simp [go_sem]) (by simp [go_sem]) rfl (by unfold applyR; rw [if_neg (by omega), if_neg (by omega), if_pos h3])
  simp only [Decidable.not_not] at h3
  simp [go_sem, ld25e, st25f]
  exact fin _ _ (putB l t) (by simp [go_sem]) (by simp [go_sem]) (by simp) (by unfold applyR; rw [if_neg (by omega), if_neg (by omega), if_neg (by omega)])
theorem call46 (l : List (T × T)) (t : T) (hs : small l) (hv : t.size < 4000000) (hl : l.length < 1000000) (h : H) : callV C h (.func 46 []) (some [binds l, enc t]) = some (resV2 (applyR l t), h) := callV_strip (by kernel_rfl) rfl (dat_binds2 _ _) (by simp [short_binds, short_enc]) (by simp) (apply46 l t hs hv hl)
/-- The same, where the bindings are good. -/
def applyT (l : List (T × T)) (t : T) : T × Int := if validE t ≠ 0 then (zT, validE t) else if validE (putB l t) ≠ 0 then (zT, validE (putB l t)) else (putB l t, 0)
set_option maxRecDepth 8000 in
set_option maxHeartbeats 4000000 in
theorem apply141 (l : List (T × T)) (t : T) (h1 : subE l = 0) (hv : t.size < 4000000) : CallP C 141 [binds l, enc t] = some (resV2 (applyT l t)) := by
  refine CallP_W rfl Tryz.func141 rfl (by kernel_rfl) (by simp [Tryz.f141]) fun R hR => ?_
  have c2 := call111 t hv
  have fz : ∀ (s : PT) (h : H) (e : Int), s.get 4 = .ptr 1 0 → s.get 5 = .int .i64 e → h[1]? = some (.cells zc .live) → applyT l t = (zT, e) → R .ret s h := fun s h e h4 h5 hh he => by
    refine hR _ _ _ (.inr rfl) ⟨_, ?_, (snap_resZ _ e).trans (by rw [he])⟩
    simp [resultV, resV, resVs, Tryz.f141, h4, h5, loadV, hh, cellsAt, a25, s25, zc]
  have fin : ∀ (s : PT) (h : H) (t' : T), s.get 4 = .ptr 1 0 → s.get 5 = .int .i64 0 → h[1]? = some (.cells (enc t').cells .live) → applyT l t = (t', 0) → R .ret s h := fun s h t' h4 h5 hh he => by
    refine hR _ _ _ (.inr rfl) ⟨resV2 (t', 0), ?_, (snap_resV2 _ t' 0).trans (by rw [he])⟩
    simp [resultV, resV, resVs, Tryz.f141, h4, h5, loadV, hh, cellsAt, a25, s25, enc_cells, resV2]; rw [enc_eq]
  have bx : boxV C.P [] 25 (enc t) = some (.ptr 0 0, [.cells (enc t).cells .live]) := by rw [box25, enc_cells]; rfl
  have q4 : ∀ (l : List VObj), loadV C.P (.cells (enc t).cells .live :: l) 25 (.ptr 0 0) = some (enc t) := fun l => by rw [enc_cells]; exact ld25c t l
  simp [go_sem, bx, q4, c2]
  refine Ife_iff.2 ⟨fun h2 => ?_, fun h2 => ?_⟩
  · simp [go_sem, bld25, st25e]
    exact fz _ _ (validE t) (by simp [go_sem]) (by simp [go_sem]) rfl (by unfold applyT; rw [if_pos h2])
  simp only [Decidable.not_not] at h2
  obtain ⟨hi, hl2, h4⟩ := sub_good h1
  have hps := putB_size l (fun b hb => (h4 b hb).2) t
  have := nodes_zero h2
  have c3 := call211 l t (fun b hb => by have := h4 b hb; omega) hi (by omega) (fun b hb => by have := h4 b hb; omega) (by omega)
  have c4 := call111 (putB l t) (by omega)
  simp [go_sem, q4, c3, c4, st25c, ld25e]
  refine Ife_iff.2 ⟨fun h3 => ?_, fun h3 => ?_⟩
  · simp [go_sem, bld25, st25e]
    exact fz _ _ (validE (putB l t)) (by simp [go_sem]) (by simp [go_sem]) rfl (by unfold applyT; rw [if_neg (by omega), if_pos h3])
  simp only [Decidable.not_not] at h3
  simp [go_sem, ld25e, st25f]
  exact fin _ _ (putB l t) (by simp [go_sem]) (by simp [go_sem]) (by simp) (by unfold applyT; rw [if_neg (by omega), if_neg (by omega)])
theorem call141 (l : List (T × T)) (t : T) (h1 : subE l = 0) (hv : t.size < 4000000) (h : H) : callV C h (.func 141 []) (some [binds l, enc t]) = some (resV2 (applyT l t), h) := callV_strip (by kernel_rfl) rfl (dat_binds2 _ _) (by simp [short_binds, short_enc]) (by simp) (apply141 l t h1 hv)
set_option maxRecDepth 8000 in
set_option maxHeartbeats 4000000 in
theorem apply83 (l : List (T × T)) (t : T) (hs : small l) (hv : t.size < 4000000) : CallP C 83 [binds l, enc t] = some (resV2 (applyR l t)) := by
  refine CallP_W rfl Tryz.func83 rfl (by kernel_rfl) (by simp [Tryz.f83]) fun R hR => ?_
  have c1 := call59 l hs
  have fz : ∀ (s : PT) (h : H) (e : Int), s.get 4 = .ptr 1 0 → s.get 5 = .int .i64 e → h[1]? = some (.cells zc .live) → applyR l t = (zT, e) → R .ret s h := fun s h e h4 h5 hh he => by
    refine hR _ _ _ (.inr rfl) ⟨_, ?_, (snap_resZ _ e).trans (by rw [he])⟩
    simp [resultV, resV, resVs, Tryz.f83, h4, h5, loadV, hh, cellsAt, a25, s25, zc]
  have fin : ∀ (s : PT) (h : H) (t' : T) (e : Int), s.get 4 = .ptr 1 0 → s.get 5 = .int .i64 e → h[1]? = some (.cells (enc t').cells .live) → applyR l t = (t', e) → R .ret s h := fun s h t' e h4 h5 hh he => by
    refine hR _ _ _ (.inr rfl) ⟨resV2 (t', e), ?_, (snap_resV2 _ t' e).trans (by rw [he])⟩
    simp [resultV, resV, resVs, Tryz.f83, h4, h5, loadV, hh, cellsAt, a25, s25, enc_cells, resV2]; rw [enc_eq]
  have bx : boxV C.P [] 25 (enc t) = some (.ptr 0 0, [.cells (enc t).cells .live]) := by rw [box25, enc_cells]; rfl
  have q4 : ∀ (l : List VObj), loadV C.P (.cells (enc t).cells .live :: l) 25 (.ptr 0 0) = some (enc t) := fun l => by rw [enc_cells]; exact ld25c t l
  simp [go_sem, bx, c1]
  refine Ife_iff.2 ⟨fun h1 => ?_, fun h1 => ?_⟩
  · simp [go_sem, bld25, st25e]
    exact fz _ _ (subE l) (by simp [go_sem]) (by simp [go_sem]) rfl (by unfold applyR; rw [if_pos h1])
  simp only [Decidable.not_not] at h1
  have c2 := call141 l t h1 hv
  simp [go_sem, q4, c2, resV2, st25f]
  exact fin _ _ (applyT l t).1 (applyT l t).2 (by simp [go_sem]) (by simp [go_sem]) (by simp) (by unfold applyR; rw [if_neg (by omega)]; rfl)
theorem call83 (l : List (T × T)) (t : T) (hs : small l) (hv : t.size < 4000000) (h : H) : callV C h (.func 83 []) (some [binds l, enc t]) = some (resV2 (applyR l t), h) := callV_strip (by kernel_rfl) rfl (dat_binds2 _ _) (by simp [short_binds, short_enc]) (by simp) (apply83 l t hs hv)
end Go.VZ

/- Slices that came in, as the reading tells of them: a row of values of the value machine. -/
namespace Go.VZ
open Go Go.V Go.Proofs TL
abbrev uBulk {H : Type} (d : DataW H) : Nat := YtdoegkegjaadeaaGreatDoor.Rows.uptoBulk d
abbrev uBulks {H : Type} (l : List (DataW H)) : Nat := YtdoegkegjaadeaaGreatDoor.Rows.uptoBulkAll l
theorem ex_list {α : Type} {p : Nat → α → Prop} : ∀ n, (∀ i, i < n → ∃ a, p i a) → ∃ l : List α, l.length = n ∧ ∀ i a, l[i]? = some a → p i a
  | 0, _ => ⟨[], rfl, fun i a h => by simp at h⟩
  | n + 1, h => by
    obtain ⟨l, h1, h2⟩ := ex_list n fun i hi => h i (by omega)
    obtain ⟨a, ha⟩ := h n (by omega)
    refine ⟨l ++ [a], by simp [h1], fun i b hb => ?_⟩
    by_cases hi : i < n
    · rw [List.getElem?_append_left (by omega)] at hb; exact h2 i b hb
    · rw [List.getElem?_append_right (by omega)] at hb
      have : i = n := by
        have := (List.getElem?_eq_some_iff.1 hb).1
        simp at this; omega
      subst this
      simp [h1] at hb; subst hb; exact ha
theorem cells_of {w : World} {a : Addr} {n : Nat} {cs : List Value} (h : w.cells? 0 a n = some cs) : cs.length = n ∧ ∀ j u, cs[j]? = some u → w.cell? (a.add j) = some u := by
  unfold World.cells? at h
  rw [if_pos (Nat.zero_le _)] at h
  have hl : cs.length = n := by have := mapM_some_length h; rwa [List.length_range] at this
  refine ⟨hl, fun j u hu => ?_⟩
  have hj := (List.getElem?_eq_some_iff.1 hu).1
  have := mapM_some_get h j j (by rw [List.getElem?_range (by omega)])
  rw [this]; exact hu
theorem sum_bulk {H α : Type} {sz : α → Nat} : ∀ (l : List α) (ds : List (DataW H)), l.length = ds.length → (∀ (i : Nat) a d, l[i]? = some a → ds[i]? = some d → sz a ≤ uBulk d) → (l.map sz).sum ≤ uBulks ds
  | [], _, _, _ => by simp
  | a :: l, [], h, _ => by simp at h
  | a :: l, d :: ds, h, hs => by
    have := sum_bulk l ds (by simpa using h) fun i a d h1 h2 => hs (i + 1) a d (by simpa using h1) (by simpa using h2)
    have h0 := hs 0 a d rfl rfl
    simp only [List.map_cons, List.sum_cons, uBulks, uBulk, YtdoegkegjaadeaaGreatDoor.Rows.uptoBulkAll] at this h0 ⊢
    omega
theorem addr_cell {w : World} {b o i j : Nat} {u : Value} (h : w.cell? (Addr.add (Addr.add ⟨b, o, none⟩ i) j) = some u) : w.cell? ⟨b, o + i + j, none⟩ = some u := by
  rw [← h]
  congr 1
  unfold Addr.add
  split <;> split <;> simp_all
theorem addr_zero {w : World} {b o : Nat} {z} {u : Value} (h : w.cell? (Addr.add (Addr.add ⟨b, o, z⟩ 0) 0) = some u) : z = none := by
  cases z with
  | none => rfl
  | some z =>
    exfalso
    simp [World.cell?, Addr.add] at h
    split at h <;> cases h
/-- A slice: nil, empty, or a row. -/
theorem dec_slice {H : Type} {enc : TypeId × Value → H} {P : Program} {w : World} {α : Type} {toV : α → AV} {sz : α → Nat} {t e : TypeId} {k fuel : Nat} {v : Value} {x : DataW H × List MemPlace}
    (hu : P.underlying t = some (.slice e)) (hk : P.cellsOf e = k) (h0 : 0 < k) (hl : ∀ a : α, (toV a).cells.length = k ∧ notTuple (toV a) = true ∧ ∀ c ∈ (toV a).cells, c.one = true)
    (hd : ∀ n, n < fuel → ∀ cs y, cs.length = k → DataW.trod enc P w 0 (fun _ => true) true n e cs = some y → ∃ a : α, sz a ≤ uBulk y.1 ∧ ∀ (j : Nat) c u, (toV a).cells[j]? = some c → cs[j]? = some u → IRel (fun _ _ => True) w c u)
    (h : DataW.trod enc P w 0 (fun _ => true) true fuel t [v] = some x) : ∃ l : List α, IRel (fun _ _ => True) w (.isl (l.map toV) .unk) v ∧ l.length + 1 ≤ uBulk x.1 ∧ (l.map sz).sum + 1 ≤ uBulk x.1 := by
  rcases DataW.trod_slice hu h with ⟨hv, rfl⟩ | ⟨a, len, cap, elems, rest, n, rfl, hv, rfl, _, hlc, hcm, hel, hes, _, _⟩
  · simp only [List.cons.injEq, and_true] at hv; subst hv
    exact ⟨[], .islNil, by simp [uBulk, YtdoegkegjaadeaaGreatDoor.Rows.uptoBulk], by simp [uBulk, YtdoegkegjaadeaaGreatDoor.Rows.uptoBulk]⟩
  · simp only [List.cons.injEq, and_true] at hv; subst hv
    rw [hk] at hes
    obtain ⟨l, hll, hlp⟩ := ex_list (p := fun i (a' : α) => ∃ cs y, w.cells? 0 (a.add (i * k)) k = some cs ∧ elems[i]? = some y ∧ sz a' ≤ uBulk y.1 ∧ ∀ (j : Nat) c u, (toV a').cells[j]? = some c → cs[j]? = some u → IRel (fun _ _ => True) w c u) len fun i hi => by
      have h1 := hes i hi
      have h2 : elems[i]? = some (elems[i]'(by omega)) := List.getElem?_eq_getElem (by omega)
      rw [h2] at h1
      obtain ⟨cs, h3, h4⟩ := Option.bind_eq_some_iff.1 h1
      obtain ⟨a', h5, h6⟩ := hd n (by omega) cs _ (cells_of h3).1 h4
      exact ⟨a', cs, _, h3, h2, h5, h6⟩
    have hsum : (l.map sz).sum ≤ uBulks (elems.map (·.1)) := sum_bulk l _ (by simp [hll, hel]) fun i a' d h1 h2 => by
      obtain ⟨cs, y, _, h3, h4, _⟩ := hlp i a' h1
      rw [List.getElem?_map, h3] at h2
      simp only [Option.map_some, Option.some.injEq] at h2; subst h2; exact h4
    have hone : (l.map fun _ => 1).sum ≤ uBulks (elems.map (·.1)) := sum_bulk (sz := fun _ => 1) l _ (by simp [hll, hel]) fun i a' d h1 h2 => by cases d <;> simp [uBulk, YtdoegkegjaadeaaGreatDoor.Rows.uptoBulk] <;> (rename_i q; cases q <;> simp [YtdoegkegjaadeaaGreatDoor.Rows.uptoBulk])
    have hcnt : (l.map fun _ => 1).sum = l.length := by
      clear hone hsum hlp hll
      induction l with
      | nil => rfl
      | cons a l ih => simp only [List.map_cons, List.sum_cons, ih, List.length_cons]; omega
    refine ⟨l, ?_, by simp only [uBulk, YtdoegkegjaadeaaGreatDoor.Rows.uptoBulk]; simp only [uBulks] at hone; omega, by simp only [uBulk, YtdoegkegjaadeaaGreatDoor.Rows.uptoBulk]; simp only [uBulks] at hsum; omega⟩
    by_cases hz : len = 0
    · subst hz
      have : l = [] := List.length_eq_zero_iff.1 hll
      subst this
      exact .islEmpty a cap hcm
    · obtain ⟨b, o, z⟩ := a
      have hz' : z = none := by
        obtain ⟨cs, y, h1, _⟩ := hlp 0 (l[0]'(by omega)) (List.getElem?_eq_getElem (by omega))
        obtain ⟨h2, h3⟩ := cells_of h1
        have := h3 0 (cs[0]'(by omega)) (List.getElem?_eq_getElem (by omega))
        exact addr_zero (by simpa using this)
      subst hz'
      have key : ∀ (i j : Nat) e' c, (l.map toV)[i]? = some e' → e'.cells[j]? = some c → ∃ u, w.cell? ⟨b, o + i * k + j, none⟩ = some u ∧ IRel (fun _ _ => True) w c u := fun i j e' c he hc => by
        rw [List.getElem?_map] at he
        obtain ⟨a', ha, rfl⟩ := Option.map_eq_some_iff.1 he
        obtain ⟨cs, y, h1, _, _, h4⟩ := hlp i a' ha
        obtain ⟨h2, h3⟩ := cells_of h1
        have hj : j < cs.length := by have := (List.getElem?_eq_some_iff.1 hc).1; rw [(hl a').1] at this; omega
        have := h3 j cs[j] (List.getElem?_eq_getElem hj)
        exact ⟨cs[j], addr_cell this, h4 j c _ hc (List.getElem?_eq_getElem hj)⟩
      have := IRel.isl (A := fun _ _ => True) (w := w) (es := l.map toV) (sz := k) (b := b) (o := o) (cap := cap) (fun i j => (w.cell? ⟨b, o + i * k + j, none⟩).getD .nilIface) h0 (by simp; omega) hcm
        (fun e' he => by
          obtain ⟨a', _, rfl⟩ := List.mem_map.1 he
          exact ⟨(hl a').1, (hl a').2.1⟩)
        (fun e' he c hc => by
          obtain ⟨a', _, rfl⟩ := List.mem_map.1 he
          exact (hl a').2.2 c hc)
        (fun i j e' c he hc => by
          obtain ⟨u, h1, _⟩ := key i j e' c he hc
          exact ⟨trivial, by rw [h1]; rfl⟩)
        (fun i j e' c he hc => by
          obtain ⟨u, h1, h2⟩ := key i j e' c he hc
          rw [h1]; exact h2)
      rw [List.length_map, hll] at this
      exact this
/-- The elements of a datum that is a slice; the parts of one that is a struct. -/
def elemsD {H : Type} : DataW H → List (DataW H)
  | .slice es _ => es
  | _ => []
def aggD {H : Type} : DataW H → List (DataW H)
  | .agg ps => ps
  | _ => []
theorem wt_all {H : Type} {P : Program} {e : TypeId} {c : DataW H} {n : Nat} : ∀ {es : List (DataW H)}, c ∈ es → n ∈ c.weights P e → n ∈ DataW.weightsAll P e es
  | [], h, _ => by cases h
  | d :: es, h, hn => by
    rw [DataW.weightsAll, List.mem_append]
    rcases List.mem_cons.1 h with rfl | h
    · exact .inl hn
    · exact .inr (wt_all h hn)
theorem wt_each {H : Type} {P : Program} {t : TypeId} {d : DataW H} {n : Nat} : ∀ {ts : List TypeId} {ds : List (DataW H)} {i : Nat}, ts[i]? = some t → ds[i]? = some d → n ∈ d.weights P t → n ∈ DataW.weightsEach P ts ds
  | [], _, _, h, _, _ => by simp at h
  | _ :: _, [], _, _, h, _ => by simp at h
  | a :: ts, b :: ds, 0, h1, h2, hn => by
    simp only [List.getElem?_cons_zero, Option.some.injEq] at h1 h2
    subst h1; subst h2
    rw [DataW.weightsEach, List.mem_append]; exact .inl hn
  | a :: ts, b :: ds, i + 1, h1, h2, hn => by
    rw [DataW.weightsEach, List.mem_append]
    exact .inr (wt_each (i := i) (by simpa using h1) (by simpa using h2) hn)
/-- What a slice weighs bounds how long it is. -/
theorem wt_slice {H : Type} {P : Program} {t e : TypeId} {N : Nat} (hu : P.underlying t = some (.slice e)) {d : DataW H} (h : ∀ n ∈ d.weights P t, n ≤ N) : (elemsD d).length * P.bytesOf e ≤ N ∧ ∀ c ∈ elemsD d, ∀ n ∈ c.weights P e, n ≤ N := by
  cases d with
  | slice es sp =>
    simp only [DataW.weights, hu] at h
    refine ⟨Nat.le_trans (Nat.mul_le_mul_right _ (Nat.le_add_right _ _)) (h _ List.mem_cons_self), fun c hc n hn => h n ?_⟩
    exact List.mem_cons_of_mem _ (List.mem_append_left _ (wt_all hc hn))
  | _ => exact ⟨by simp [elemsD], fun c hc => by simp [elemsD] at hc⟩
theorem wt_agg {H : Type} {P : Program} {t ty : TypeId} {fs : Array Field} {N : Nat} (hu : P.underlying t = some (.struct fs)) {d y : DataW H} (h : ∀ n ∈ d.weights P t, n ≤ N) {i : Nat} (hy : (aggD d)[i]? = some y) (ht : (fs.toList.map (·.type))[i]? = some ty) : ∀ n ∈ y.weights P ty, n ≤ N := by
  cases d with
  | agg ps =>
    simp only [DataW.weights, hu] at h
    exact fun n hn => h n (wt_each ht hy hn)
  | _ => simp [aggD] at hy
/-- A slice, with what is known of each element. -/
theorem dec_sliceQ {H : Type} {enc : TypeId × Value → H} {P : Program} {w : World} {α : Type} {toV : α → AV} {Q : α → DataW H → Prop} {t e : TypeId} {k fuel : Nat} {v : Value} {x : DataW H × List MemPlace}
    (hu : P.underlying t = some (.slice e)) (hk : P.cellsOf e = k) (h0 : 0 < k) (hl : ∀ a : α, (toV a).cells.length = k ∧ notTuple (toV a) = true ∧ ∀ c ∈ (toV a).cells, c.one = true)
    (hd : ∀ n, n < fuel → ∀ cs y, cs.length = k → DataW.trod enc P w 0 (fun _ => true) true n e cs = some y → ∃ a : α, Q a y.1 ∧ ∀ (j : Nat) c u, (toV a).cells[j]? = some c → cs[j]? = some u → IRel (fun _ _ => True) w c u)
    (h : DataW.trod enc P w 0 (fun _ => true) true fuel t [v] = some x) : ∃ l : List α, IRel (fun _ _ => True) w (.isl (l.map toV) .unk) v ∧ l.length = (elemsD x.1).length ∧ ∀ (i : Nat) a, l[i]? = some a → ∃ d, (elemsD x.1)[i]? = some d ∧ Q a d := by
  rcases DataW.trod_slice hu h with ⟨hv, rfl⟩ | ⟨a, len, cap, elems, rest, n, rfl, hv, rfl, _, hlc, hcm, hel, hes, _, _⟩
  · simp only [List.cons.injEq, and_true] at hv; subst hv
    exact ⟨[], .islNil, rfl, fun i a h => by simp at h⟩
  · simp only [List.cons.injEq, and_true] at hv; subst hv
    rw [hk] at hes
    obtain ⟨l, hll, hlp⟩ := ex_list (p := fun i (a' : α) => ∃ cs y, w.cells? 0 (a.add (i * k)) k = some cs ∧ elems[i]? = some y ∧ Q a' y.1 ∧ ∀ (j : Nat) c u, (toV a').cells[j]? = some c → cs[j]? = some u → IRel (fun _ _ => True) w c u) len fun i hi => by
      have h1 := hes i hi
      have h2 : elems[i]? = some (elems[i]'(by omega)) := List.getElem?_eq_getElem (by omega)
      rw [h2] at h1
      obtain ⟨cs, h3, h4⟩ := Option.bind_eq_some_iff.1 h1
      obtain ⟨a', h5, h6⟩ := hd n (by omega) cs _ (cells_of h3).1 h4
      exact ⟨a', cs, _, h3, h2, h5, h6⟩
    refine ⟨l, ?_, by simp [elemsD, hll, hel], fun i a' ha => by
      obtain ⟨cs, y, _, h3, h4, _⟩ := hlp i a' ha
      exact ⟨y.1, by simp [elemsD, List.getElem?_map, h3], h4⟩⟩
    by_cases hz : len = 0
    · subst hz
      have : l = [] := List.length_eq_zero_iff.1 hll
      subst this
      exact .islEmpty a cap hcm
    · obtain ⟨b, o, z⟩ := a
      have hz' : z = none := by
        obtain ⟨cs, y, h1, _⟩ := hlp 0 (l[0]'(by omega)) (List.getElem?_eq_getElem (by omega))
        obtain ⟨h2, h3⟩ := cells_of h1
        have := h3 0 (cs[0]'(by omega)) (List.getElem?_eq_getElem (by omega))
        exact addr_zero (by simpa using this)
      subst hz'
      have key : ∀ (i j : Nat) e' c, (l.map toV)[i]? = some e' → e'.cells[j]? = some c → ∃ u, w.cell? ⟨b, o + i * k + j, none⟩ = some u ∧ IRel (fun _ _ => True) w c u := fun i j e' c he hc => by
        rw [List.getElem?_map] at he
        obtain ⟨a', ha, rfl⟩ := Option.map_eq_some_iff.1 he
        obtain ⟨cs, y, h1, _, _, h4⟩ := hlp i a' ha
        obtain ⟨h2, h3⟩ := cells_of h1
        have hj : j < cs.length := by have := (List.getElem?_eq_some_iff.1 hc).1; rw [(hl a').1] at this; omega
        have := h3 j cs[j] (List.getElem?_eq_getElem hj)
        exact ⟨cs[j], addr_cell this, h4 j c _ hc (List.getElem?_eq_getElem hj)⟩
      have := IRel.isl (A := fun _ _ => True) (w := w) (es := l.map toV) (sz := k) (b := b) (o := o) (cap := cap) (fun i j => (w.cell? ⟨b, o + i * k + j, none⟩).getD .nilIface) h0 (by simp; omega) hcm
        (fun e' he => by
          obtain ⟨a', _, rfl⟩ := List.mem_map.1 he
          exact ⟨(hl a').1, (hl a').2.1⟩)
        (fun e' he c hc => by
          obtain ⟨a', _, rfl⟩ := List.mem_map.1 he
          exact (hl a').2.2 c hc)
        (fun i j e' c he hc => by
          obtain ⟨u, h1, _⟩ := key i j e' c he hc
          exact ⟨trivial, by rw [h1]; rfl⟩)
        (fun i j e' c he hc => by
          obtain ⟨u, h1, h2⟩ := key i j e' c he hc
          rw [h1]; exact h2)
      rw [List.length_map, hll] at this
      exact this
end Go.VZ
