/- Few of bindings, Get, Put of the document. -/
import Derived.Test.YtdoegkegjaadeaaGreatDoorESbb
namespace Go.VZ
open Go Go.V Go.Proofs TL
theorem b25 : bytesV C.P 25 = some 56 := by kernel_rfl
theorem z25 : zeroOk C.P 25 = true := by kernel_rfl
@[go_sem] theorem is23 : isSliceT C.P 23 = some 25 := by kernel_rfl
theorem szOk_enc (l : List T) : szOk 4 (l.map enc) = true := by cases l <;> simp [szOk, enc_cells]
theorem append23 {h : H} {v : AV} {xs ys : List T} {x : Ext} (o : OwnR 25 h v (xs.map enc)) (hl : (xs.length + ys.length) * 56 ≤ 140737488355328) :
    ∃ v' h', appendW C.P false h 23 v (.isl (ys.map enc) x) = some (v', h') ∧ OwnR 25 h' v' ((xs ++ ys).map enc) ∧ Keep h h' (idOf v) ∧ (idOf v' = idOf v ∨ idOf v = none ∧ idOf v' = some h.length) := by
  have := append_own (x := x) u23 s25 b25 z25 rfl o (szOk_enc xs) (szOk_enc ys) (by simp only [List.length_map]; omega)
  rwa [← List.map_append] at this
theorem dats_encs (l : List T) : dats (l.map enc) = some (l.map enc) := by
  induction l with
  | nil => rfl
  | cons a l ih => simp only [List.map_cons, dats, ih, dat_enc']
@[go_sem] theorem notTuple_enc (a : T) : notTuple (enc a) = true := by rw [enc_eq]; rfl
theorem build23_2 (h : H) (a b : T) : buildSliceV C.P h 23 2 [(0, enc a), (1, enc b)] = some (.isl [enc a, enc b] .full, h) := buildSlice_dats u23 s25 z25 rfl (by omega) rfl (dats_encs [a, b]) (by simp [short_enc]) (by simp) (by simp [elemOkV, enc_cells, notTuple_enc])
theorem build23_1 (h : H) (a : T) : buildSliceV C.P h 23 1 [(0, enc a)] = some (.isl [enc a] .full, h) := buildSlice_dats u23 s25 z25 rfl (by omega) rfl (dats_encs [a]) (by simp [short_enc]) (by simp) (by simp [elemOkV, enc_cells, notTuple_enc])
theorem dat_few' (l : List T) (x : Ext) (c n : Int) : dats [.isl (l.map enc) x, .int .i64 c, .int .i64 n] = some [terms l, .int .i64 c, .int .i64 n] := rfl
theorem call9' (l : List T) (x : Ext) (c n : Int) (hn : n < 4000000) (hn0 : 0 ≤ n) (h : H) : callV C h (.func 9 []) (some [.isl (l.map enc) x, .int .i64 c, .int .i64 n]) = some (.bool (fewT l c n), h) := callV_strip (by kernel_rfl) rfl (dat_few' _ _ _ _) (by simp [short, short_int]) (by simp) (few9 l c n hn hn0)
def flatB (l : List (T × T)) : List T := l.flatMap fun b => [b.1, b.2]
theorem flatB_take {l : List (T × T)} {k : Nat} (hk : k < l.length) : flatB (l.take (k + 1)) = flatB (l.take k) ++ [l[k].1, l[k].2] := by
  rw [← List.take_append_getElem hk, flatB, List.flatMap_append]; simp [flatB]
theorem flatB_len (l : List (T × T)) : (flatB l).length = 2 * l.length := by
  induction l with
  | nil => rfl
  | cons a l ih => simp only [flatB, List.flatMap_cons, List.length_append] at ih ⊢; rw [ih]; simp; omega
def fewB (l : List (T × T)) (c n : Int) : Bool := fewT (flatB l) (2 * c) n
def NI21 (l : List (T × T)) (c n : Int) (m : Nat) (s : PT) (h : H) : Prop := ∃ k : Nat, m = l.length - k ∧ k ≤ l.length ∧ s.get 0 = binds l ∧ s.get 1 = .int .i64 c ∧ s.get 2 = .int .i64 n ∧ s.get 8 = .int .i64 k ∧ OwnR 25 h (s.get 7) ((flatB (l.take k)).map enc)
set_option maxHeartbeats 2000000 in
theorem few21 (l : List (T × T)) (c n : Int) (hn : n < 4000000) (hn0 : 0 ≤ n) (hc : c < 4000000) (hc0 : 0 ≤ c) (hl : l.length * 112 ≤ 140737488355328) : CallP C 21 [binds l, .int .i64 c, .int .i64 n] = some (.bool (fewB l c n)) := by
  refine CallP_W rfl Tryz.func21 rfl (by kernel_rfl) (by simp [Tryz.f21]) fun R hR => ?_
  simp [go_sem, initS]
  refine W_loop (NI21 l c n) l.length ⟨0, rfl, Nat.zero_le _, by simp [go_sem], by simp [go_sem], by simp [go_sem], by simp [go_sem], .inr ⟨0, by simp [go_sem, flatB]⟩⟩ ?_
  rintro m s h ⟨k, rfl, hk, g0, g1, g2, g8, go⟩
  simp only [binds] at g0
  by_cases hlt : k < l.length
  · have hlt' : (k : Int) < l.length := by omega
    have hix := idx46 l k hlt .unk
    have w2 : IntKind.i64.wrap ((k : Int) + 1) = ((k + 1 : Nat) : Int) := by rw [wrap_in (by omega)]; omega
    obtain ⟨v7, e7⟩ : ∃ v, v = s.get 7 := ⟨_, rfl⟩
    rw [← e7] at go
    have hfl := flatB_len (l.take k)
    obtain ⟨v', h', ha, ho, hkp, hid⟩ := append23 (ys := [l[k].1, l[k].2]) (x := .full) go (by simp only [hfl, List.length_take, List.length_cons, List.length_nil]; omega)
    rw [← flatB_take hlt] at ho
    simp only [List.map_cons, List.map_nil] at ha
    simp [go_sem, g0, g1, g2, g8, ← e7, len46, hlt', hix, ld25i0, ld25i4, build23_2, ha, -Int.natCast_add, w2]
    refine W_regionS 5 _ (by simp [mixC]) rfl ?_
    simp [go_sem, g0, g1, g2, g8, ← e7, hix, ld25i0, ld25i4, build23_2, ha, -Int.natCast_add, w2, idsOk, ldIds, apIds, ldId, appId, mslId]
    exact ⟨l.length - (k + 1), by omega, k + 1, rfl, hlt, by simp [go_sem, g0, binds], by simp [go_sem, g1], by simp [go_sem, g2], by simp [go_sem], by simpa [go_sem] using ho⟩
  · have : k = l.length := by omega
    subst this
    rw [List.take_length] at go
    obtain ⟨x, hx⟩ := go.isl
    have w3 : IntKind.i64.wrap (2 * c) = 2 * c := wrap_in (by omega)
    have c9 := call9' (flatB l) x (2 * c) n hn hn0
    simp [go_sem, g0, g1, g2, g8, len46, hx, w3, c9]
    refine hR _ _ _ (.inr rfl) ⟨.bool (fewB l c n), by simp [resultV, resV, Tryz.f21, go_sem, fewB], ?_⟩
    exact snap_dat rfl rfl
theorem dat_few21 (l : List (T × T)) (c n : Int) : dats [binds l, .int .i64 c, .int .i64 n] = some [binds l, .int .i64 c, .int .i64 n] := rfl
theorem call21 (l : List (T × T)) (c n : Int) (hn : n < 4000000) (hn0 : 0 ≤ n) (hc : c < 4000000) (hc0 : 0 ≤ c) (hl : l.length * 112 ≤ 140737488355328) (h : H) : callV C h (.func 21 []) (some [binds l, .int .i64 c, .int .i64 n]) = some (.bool (fewB l c n), h) := callV_strip (by kernel_rfl) rfl (dat_few21 _ _ _) (by simp [short_binds, short_int]) (by simp) (few21 l c n hn hn0 hc hc0 hl)
/-- What a variable is bound to. -/
def getB : List (T × T) → T → T
  | [], v => v
  | b :: l, v => if b.1.cmp v = 0 then b.2 else getB l v
theorem dat_binds2 (l : List (T × T)) (t : T) : dats [binds l, enc t] = some [binds l, enc t] := by rw [enc_eq]; rfl
/-- The cells of no term. -/
def zc : List AV := [.int .i64 0, .str ⟨#[]⟩, .int .i64 0, .isl [] .full]
def NI146 (l : List (T × T)) (v : T) (m : Nat) (s : PT) (h : H) : Prop := ∃ k : Nat, m = l.length - k ∧ k ≤ l.length ∧ s.get 0 = binds l ∧ s.get 3 = .ptr 0 0 ∧ s.get 4 = .ptr 1 0 ∧ s.get 5 = .int .i64 k ∧ h = [.cells (tc v) .live, .cells zc .live] ∧ getB (l.drop k) v = getB l v
theorem st25b (t : T) (a b c d : AV) (x : VObj) : storeV C.P [x, .cells [a, b, c, d] .live] 25 (.ptr 1 0) (enc t) = some [x, .cells (enc t).cells .live] := by
  simp [storeV, s25, enc_cells]; rw [enc_eq]; rfl
set_option maxRecDepth 8000 in
set_option maxHeartbeats 2000000 in
theorem get146 (l : List (T × T)) (v : T) (hs : small l) (hv : v.size < 4000000) (hl : l.length < 4000000) : CallP C 146 [binds l, enc v] = some (enc (getB l v)) := by
  refine CallP_W rfl Tryz.func146 rfl (by kernel_rfl) (by simp [Tryz.f146]) fun R hR => ?_
  simp [go_sem, initS, enc_cells, terms]
  refine W_loop (NI146 l v) l.length ⟨0, rfl, Nat.zero_le _, by simp [go_sem], by simp [go_sem], by simp [go_sem], by simp [go_sem], rfl, rfl⟩ ?_
  rintro m s h ⟨k, rfl, hk, g0, g3, g4, g5, rfl, hd⟩
  simp only [binds] at g0
  have fin : ∀ (s : PT) (t : T) (x : VObj), s.get 4 = .ptr 1 0 → t = getB l v → R .ret s [x, .cells (enc t).cells .live] := fun s t x hs ht => by
    refine hR _ _ _ (.inr rfl) ⟨enc t, ?_, ?_⟩
    · simp [resultV, resV, Tryz.f146, hs, loadV, cellsAt, a25, s25, enc_cells]; rw [enc_eq]
    · rw [← ht]; exact snap_dat (dat_enc' t) (short_enc t)
  by_cases hlt : k < l.length
  · have hlt' : (k : Int) < l.length := by omega
    have hix := idx46 l k hlt .unk
    have hsm := hs _ (List.getElem_mem hlt)
    have w2 : IntKind.i64.wrap ((k : Int) + 1) = ((k + 1 : Nat) : Int) := by rw [wrap_in (by omega)]; omega
    have c1 := call69 l[k].1 v hsm.1 hv
    rw [List.drop_eq_getElem_cons hlt, getB] at hd
    simp [go_sem, g0, g3, g4, g5, len46, hlt', hix, ld25i0, ld25i4, tc, zc, ld25c, c1, st25b, -Int.natCast_add, w2]
    refine Ife_iff.2 ⟨fun h1 => ?_, fun h1 => ?_⟩
    · rw [if_pos h1] at hd
      simp [go_sem, g0, g3, g4, g5, hix, ld25i4, st25b]
      exact fin _ _ _ (by simp [go_sem, g4]) hd
    · rw [if_neg h1] at hd
      simp [go_sem, g0, g3, g4, g5, -Int.natCast_add, w2]
      exact ⟨l.length - (k + 1), by omega, k + 1, rfl, hlt, by simp [go_sem, g0, binds], by simp [go_sem, g3], by simp [go_sem, g4], by simp [go_sem], rfl, hd⟩
  · have : k = l.length := by omega
    subst this
    rw [List.drop_length, getB] at hd
    simp [go_sem, g0, g3, g4, g5, len46, tc, zc, ld25c, st25b]
    exact fin _ _ _ (by simp [go_sem, g4]) hd
theorem call146 (l : List (T × T)) (v : T) (hs : small l) (hv : v.size < 4000000) (hl : l.length < 4000000) (h : H) : callV C h (.func 146 []) (some [binds l, enc v]) = some (enc (getB l v), h) := callV_strip (by kernel_rfl) rfl (dat_binds2 _ _) (by simp [short_binds, short_enc]) (by simp) (get146 l v hs hv hl)
mutual
/-- A term with its variables put. -/
def putB (l : List (T × T)) : T → T
  | .mk k n s m => if k = 1 then getB l (.mk k n s m) else .mk k n s (putBs l m)
def putBs (l : List (T × T)) : List T → List T
  | [] => []
  | t :: m => putB l t :: putBs l m
end
theorem putBs_map (l : List (T × T)) : ∀ m, putBs l m = m.map (putB l)
  | [] => rfl
  | t :: m => by rw [putBs, putBs_map l m]; rfl
theorem putB_eq (l : List (T × T)) (t : T) : putB l t = if t.kind = 1 then getB l t else .mk t.kind t.name t.sort (t.kids.map (putB l)) := by cases t; rw [putB, putBs_map]; rfl
def NI87 (l : List (T × T)) (t : T) (m : Nat) (s : PT) (h : H) : Prop := ∃ k : Nat, ∃ v : AV, m = t.kids.length - k ∧ k ≤ t.kids.length ∧ s.get 0 = binds l ∧ s.get 3 = .ptr 0 0 ∧ s.get 4 = .ptr 1 0 ∧ s.get 5 = .ptr 2 0 ∧ s.get 6 = .int .i64 k ∧ h[0]? = some (.cells (tc t) .live) ∧ h[1]? = some (.cells zc .live) ∧ h[2]? = some (.cells [.int .i64 t.kind, .str t.name, .int .i64 t.sort, v] .live) ∧
  OwnR 25 h v (((t.kids.take k).map (putB l)).map enc)
theorem st25c (t : T) (a b c d : AV) (x y : VObj) : storeV C.P [x, y, .cells [a, b, c, d] .live] 25 (.ptr 2 0) (enc t) = some [x, y, .cells (enc t).cells .live] := by
  simp [storeV, s25, enc_cells]; rw [enc_eq]; rfl
set_option maxRecDepth 8000 in
set_option maxHeartbeats 2000000 in
theorem put87 (l : List (T × T)) (t : T) (hs : small l) (hv : t.size < 4000000) (hl : l.length < 4000000) (hc : ∀ k ∈ t.kids, CallP C 87 [binds l, enc k] = some (enc (putB l k))) : CallP C 87 [binds l, enc t] = some (enc (putB l t)) := by
  refine CallP_W rfl Tryz.func87 rfl (by kernel_rfl) (by simp [Tryz.f87]) fun R hR => ?_
  have fin : ∀ (s : PT) (t' : T) (h : H), s.get 4 = .ptr 1 0 → h[1]? = some (.cells (enc t').cells .live) → t' = putB l t → R .ret s h := fun s t' h hs hh ht => by
    refine hR _ _ _ (.inr rfl) ⟨enc t', ?_, ?_⟩
    · simp [resultV, resV, Tryz.f87, hs, loadV, hh, cellsAt, a25, s25, enc_cells]; rw [enc_eq]
    · rw [← ht]; exact snap_dat (dat_enc' t') (short_enc t')
  have c1 := call146 l t hs hv hl
  have hpe := putB_eq l t
  have hsz := size_kids t
  have hlen := len_sizes t.kids
  simp [go_sem, initS, enc_cells, terms, binds]
  refine Ife_iff.2 ⟨fun h1 => ?_, fun h1 => ?_⟩
  · rw [if_pos h1] at hpe
    simp [go_sem, ld25c, c1, st25b]
    exact fin _ _ _ (by simp [go_sem]) (by simp) hpe.symm
  rw [if_neg h1] at hpe
  have q1 : ∀ (x y : VObj) (a b c : AV), storeV C.P [x, y, .cells [a, b, c, .isl (t.kids.map enc) .unk] .live] 23 (.ptr 2 3) (.isl [] .full) = some [x, y, .cells [a, b, c, .isl [] .full] .live] := fun x y a b c => by simp [storeV, s23, notTuple]
  simp [go_sem, ld25c, st25c, enc_cells, terms, q1]
  refine W_loop (NI87 l t) t.kids.length ⟨0, .isl [] .full, rfl, Nat.zero_le _, by simp [go_sem, initS], by simp [go_sem], by simp [go_sem], by simp [go_sem], by simp [go_sem], rfl, rfl, rfl, .inl rfl⟩ ?_
  rintro m s h ⟨k, v, rfl, hk, g0, g3, g4, g5, g6, m0, m1, m2, go⟩
  have l0 : loadV C.P h 23 (.ptr 0 3) = some (.isl (t.kids.map enc) .unk) := by simp [loadV, m0, tc, cellsAt, a23, s23]
  have l2 : loadV C.P h 23 (.ptr 2 3) = some v := by obtain ⟨x, rfl⟩ := go.isl; simp [loadV, m2, cellsAt, a23, s23, notTuple]
  by_cases hlt : k < t.kids.length
  · have hlt' : (k : Int) < t.kids.length := by omega
    have hix := idx23 t.kids k hlt .unk
    have w2 : IntKind.i64.wrap ((k : Int) + 1) = ((k + 1 : Nat) : Int) := by rw [wrap_in (by omega)]; omega
    have ck : ∀ h, callV C h (.func 87 []) (some [binds l, enc t.kids[k]]) = some (enc (putB l t.kids[k]), h) := fun h => callV_strip (by kernel_rfl) rfl (dat_binds2 _ _) (by simp [short_binds, short_enc]) (by simp) (hc _ (List.getElem_mem hlt))
    obtain ⟨v', h', ha, ho, hkp, hid⟩ := append23 (ys := [putB l t.kids[k]]) (x := .full) go (by simp only [List.length_map, List.length_take, List.length_cons, List.length_nil]; omega)
    have etk : (t.kids.take k).map (putB l) ++ [putB l t.kids[k]] = (t.kids.take (k + 1)).map (putB l) := by
      rw [← List.take_append_getElem hlt, List.map_append]; rfl
    rw [etk] at ho
    simp only [List.map_cons, List.map_nil] at ha
    have hne : ∀ i, idOf v = some i → i ≠ 0 ∧ i ≠ 1 ∧ i ≠ 2 := fun i hi => by
      rcases go with rfl | ⟨id, rfl, hd⟩
      · cases hi
      · simp only [idOf, Option.some.injEq] at hi; subst hi
        exact ⟨fun e => by (rw [e, m0] at hd; cases hd), fun e => by (rw [e, m1] at hd; cases hd), fun e => by (rw [e, m2] at hd; cases hd)⟩
    have m0' := hkp.get m0 (fun e => (hne _ e).1 rfl)
    have m1' := hkp.get m1 (fun e => (hne _ e).2.1 rfl)
    have m2' := hkp.get m2 (fun e => (hne _ e).2.2 rfl)
    have hst : storeV C.P h' 23 (.ptr 2 3) v' = some (h'.set 2 (.cells [.int .i64 t.kind, .str t.name, .int .i64 t.sort, v'] .live)) := by
      obtain ⟨x, rfl⟩ := ho.isl
      simp [storeV, m2', s23, notTuple]
    have ho2 : OwnR 25 (h'.set 2 (.cells [.int .i64 t.kind, .str t.name, .int .i64 t.sort, v'] .live)) v' (((t.kids.take (k + 1)).map (putB l)).map enc) := ho.keep (Keep.set _ _ _) (fun i hi e => by
      rcases hid with h1 | ⟨h1, h2⟩
      · exact (hne i (h1 ▸ hi)).2.2 (by simpa using e.symm)
      · have := (List.getElem?_eq_some_iff.1 m2).1
        rw [h2] at hi; simp only [Option.some.injEq] at hi e; omega)
    have hlen2 := (List.getElem?_eq_some_iff.1 m2').1
    simp [go_sem, g0, g3, g4, g5, g6, l0, l2, len23, hlt', hix, ld25, ck, build23_1, ha, hst, -Int.natCast_add, w2]
    refine W_regionS 8 _ (by simp [mixC]) rfl ?_
    simp [go_sem, g0, g3, g4, g5, g6, l0, l2, len23, hlt', hix, ld25, ck, build23_1, ha, hst, -Int.natCast_add, w2]
    refine ⟨?_, t.kids.length - (k + 1), by omega, k + 1, v', rfl, hlt, by simp [go_sem, g0], by simp [go_sem, g3], by simp [go_sem, g4], by simp [go_sem, g5], by simp [go_sem], ?_, ?_, ?_, ho2⟩
    · rcases go with rfl | ⟨id, rfl, hd⟩
      · simp [go_sem, g0, g3, g5, idsOk, ldIds, apIds, ldId, appId, mslId]
      · have := hne id rfl
        simp [go_sem, g0, g3, g5, idsOk, ldIds, apIds, ldId, appId, mslId]
        (try omega)
    · rw [List.getElem?_set_ne (by omega)]; exact m0'
    · rw [List.getElem?_set_ne (by omega)]; exact m1'
    · rw [List.getElem?_set_self hlen2]
  · have : k = t.kids.length := by omega
    subst this
    rw [List.take_length] at go
    obtain ⟨x, rfl⟩ := go.isl
    have e5 : loadV C.P h 25 (.ptr 2 0) = some (.agg [.int .i64 t.kind, .str t.name, .int .i64 t.sort, .isl ((t.kids.map (putB l)).map enc) x]) := by simp [loadV, m2, cellsAt, a25, s25]
    have e6 : storeV C.P h 25 (.ptr 1 0) (.agg [.int .i64 t.kind, .str t.name, .int .i64 t.sort, .isl ((t.kids.map (putB l)).map enc) x]) = some (h.set 1 (.cells [.int .i64 t.kind, .str t.name, .int .i64 t.sort, .isl ((t.kids.map (putB l)).map enc) x] .live)) := by simp [storeV, m1, s25, zc]
    have e7 := (List.getElem?_eq_some_iff.1 m1).1
    generalize hzz : AV.agg [.int .i64 t.kind, .str t.name, .int .i64 t.sort, .isl ((t.kids.map (putB l)).map enc) x] = zz at e5 e6
    simp [go_sem, g0, g3, g4, g5, g6, l0, l2, len23, e5, e6]
    refine hR _ _ _ (.inr rfl) ⟨zz, ?_, ?_⟩
    · simp [resultV, resV, Tryz.f87, go_sem, g4, loadV, List.getElem?_set_self e7, cellsAt, a25, s25, ← hzz]
    · rw [hpe, enc_eq, ← hzz]; exact snap_dat rfl rfl
theorem put87_all (l : List (T × T)) (hs : small l) (hl : l.length < 4000000) (t : T) : t.size < 4000000 → CallP C 87 [binds l, enc t] = some (enc (putB l t)) := by
  induction t using T.ind with
  | _ t ih => exact fun hv => put87 l t hs hv hl (fun k hk => ih k hk (by have := kid_size hk; omega))
theorem call87 (l : List (T × T)) (t : T) (hs : small l) (hv : t.size < 4000000) (hl : l.length < 4000000) (h : H) : callV C h (.func 87 []) (some [binds l, enc t]) = some (enc (putB l t), h) := callV_strip (by kernel_rfl) rfl (dat_binds2 _ _) (by simp [short_binds, short_enc]) (by simp) (put87_all l hs hl t hv)
end Go.VZ

/- Copies of rows of terms, and of terms. -/
namespace Go.VZ
open Go Go.V Go.Proofs TL
/-- The cells of a row of terms. -/
def cellsT (l : List T) : List AV := l.flatMap fun t => (enc t).cells
theorem cellsT_cons (a : T) (l : List T) : cellsT (a :: l) = [.int .i64 a.kind, .str a.name, .int .i64 a.sort, terms a.kids] ++ cellsT l := by simp [cellsT, enc_cells]
theorem cellsT_len (l : List T) : (cellsT l).length = 4 * l.length := by
  induction l with
  | nil => rfl
  | cons a l ih => rw [cellsT_cons, List.length_append, ih]; simp; omega
theorem dats_append : ∀ {a b a' b' : List AV}, dats a = some a' → dats b = some b' → dats (a ++ b) = some (a' ++ b')
  | [], _, _, _, h1, h2 => by cases h1; exact h2
  | x :: a, b, a', b', h1, h2 => by
    simp only [dats] at h1
    cases hx : dat x <;> cases hy : dats a <;> simp only [hx, hy] at h1 <;> cases h1
    simp only [List.cons_append, dats, hx, dats_append hy h2]
theorem dats_cellsT (l : List T) : dats (cellsT l) = some (cellsT l) := by
  induction l with
  | nil => rfl
  | cons a l ih => rw [cellsT_cons]; exact dats_append rfl ih
theorem short_cellsT (l : List T) : (cellsT l).all short = true := by
  induction l with
  | nil => rfl
  | cons a l ih => rw [cellsT_cons, List.all_append, ih]; rfl
/-- A row of one's own of these terms. -/
def Row (h : H) (v : AV) (l : List T) : Prop := (l = [] ∧ v = .isl [] .full) ∨ ∃ id, v = .msl id 0 4 l.length none ∧ h[id]? = some (.cells (cellsT l) .live)
set_option maxHeartbeats 1000000 in
theorem clone193 (a : T) (l : List T) (hl : (a :: l).length ≤ 20000) : Go.V.Call C 193 [terms (a :: l)] [] = some (.msl 0 0 4 (a :: l).length none, [.cells (cellsT (a :: l)) .live]) := by
  refine Call_W rfl Tryz.func193 rfl (by kernel_rfl) (by simp [Tryz.f193]) fun R hR => ?_
  have hsz := szOk_enc (a :: l)
  have e1 : binV C.P .eql 23 (.tmp 3) (.const (.slice none 0 0)) (terms (a :: l)) (.isl [] .full) = some (.bool false) := by
    simp [binV, terms, toVal, toScalar, nilCmpV, sureV, isNil, isSl, u23, eqSign]
  have e2 : buildSliceV C.P [] 23 0 [] = some (.isl [] .full, []) := buildSlice_dats u23 s25 z25 rfl (by omega) rfl rfl rfl (by simp) rfl
  have e3 : appendW C.P true [] 23 (.isl [] .full) (terms (a :: l)) = some (.msl 0 0 4 (a :: l).length none, [.cells (cellsT (a :: l)) .live]) := by
    have e4 : srcV [] 4 (.isl ((a :: l).map enc) .unk) = some (cellsT (a :: l), (a :: l).length) := by
      simp only [srcV, hsz, if_true, cellsT, List.flatMap_map, List.length_map]
    simp only [appendW, knownCap, Bool.not_true, if_false, Bool.false_eq_true, appendN, u23, s25, b25, z25, terms, e4]
    have h0 : 0 < (a :: l).length := by simp
    generalize (a :: l).length = m at hl h0
    have h1 : ¬ m = 0 := by omega
    have h2 : m * 57 ≤ 35184372088832 := by omega
    simp [szOk, h1, h2]
  simp [go_sem, initS, e1, e2, e3]
  refine hR _ _ _ (.inr rfl) ⟨.msl 0 0 4 (a :: l).length none, by simp [resultV, resV, Tryz.f193, go_sem], rfl⟩
/-- A row of the callee's own, moved. -/
theorem callV_ownM {f : FuncId} {h : H} {args args' : List AV} (hb : hasBody C.P f = true) (hm : C.mode f = .ownM) (hd : dats args = some args') (hs : args.all short = true) (hl : args.length < 90000)
    {id len : Nat} {h1 : H} {cs : List AV} (hc : Go.V.Call C f args' [] = some (.msl id 0 4 len none, h1)) (hid : h1[id]? = some (.cells cs .live)) (hcs : dats cs = some cs) (hsh : cs.all short = true) (hcl : cs.length ≤ 90000) (hlen : len * 4 ≤ cs.length) :
    callV C h (.func f []) (some args) = some (.msl h.length 0 4 len none, h ++ [.cells cs .live]) := by
  obtain ⟨e1, e2⟩ := dats_snap (h := h) hd hs deep (by unfold deep; omega)
  simp only [callV, hb, if_true, List.append_nil]
  unfold applyCall
  rw [hm]
  dsimp only
  rw [e2]
  simp only [Go.V.freeze, e1]
  rw [hc]
  dsimp only
  unfold finishV
  dsimp only
  have f1 := (dats_snap (h := freezeBut h1 id) hcs hsh deep (by unfold deep; omega)).1
  have f2 : adoptR C.P .ownM h1 h (.msl id 0 4 len none) = none := by
    simp only [adoptR, adopt, hid]
    rw [if_neg (by simp)]
  rw [f2]
  simp only [adoptD, adoptM, hid, f1]
  rw [if_pos ⟨by omega, by omega⟩]
theorem call193 (l : List T) (x : Ext) (h : H) (hl : l.length ≤ 20000) : ∃ v h', callV C h (.func 193 []) (some [.isl (l.map enc) x]) = some (v, h') ∧ Row h' v l ∧ Keep h h' none ∧ (v = .isl [] .full ∨ v = .msl h.length 0 4 l.length none) := by
  cases l with
  | nil =>
    refine ⟨.isl [] .full, h, ?_, .inl ⟨rfl, rfl⟩, .refl _ _, .inl rfl⟩
    have e1 := (dats_snap (h := h) (l := [.isl [] x]) (l' := [.isl [] .unk]) rfl rfl deep (by simp [deep]))
    have hbd : hasBody C.P 193 = true := by kernel_rfl
    simp only [callV, hbd, if_true, List.append_nil, List.map_nil]
    unfold applyCall
    rw [show C.mode 193 = .ownM from rfl]
    dsimp only
    rw [e1.2]
    simp only [Go.V.freeze, e1.1]
    have hp : C.prim 193 [.isl [] .unk] [] = some (.isl [] .full, []) := by kernel_rfl
    have hq : Go.V.Call C 193 [.isl [] .unk] [] = some (.isl [] .full, []) := Call_prim (C := C) (fn := Tryz.f193) Tryz.func193 hp
    rw [hq]
    rfl
  | cons a l =>
    refine ⟨.msl h.length 0 4 (a :: l).length none, h ++ [.cells (cellsT (a :: l)) .live], ?_, .inr ⟨_, rfl, by simp⟩, .append _ _ _, .inr rfl⟩
    have hcl := cellsT_len (a :: l)
    exact callV_ownM (by kernel_rfl) rfl (args' := [terms (a :: l)]) rfl rfl (by simp) (clone193 a l hl) rfl (dats_cellsT _) (short_cellsT _) (by omega) (by omega)
theorem cellsT_split {l : List T} {k : Nat} (hk : k < l.length) : cellsT l = cellsT (l.take k) ++ (enc l[k]).cells ++ cellsT (l.drop (k + 1)) := by
  have e : l = l.take k ++ l[k] :: l.drop (k + 1) := by rw [← List.drop_eq_getElem_cons hk, List.take_append_drop]
  have e2 := congrArg cellsT e
  rw [e2]
  unfold cellsT
  rw [List.flatMap_append, List.flatMap_cons, List.append_assoc]
theorem idxRow {id n k : Nat} (hk : k < n) : indexAddrV C.P 23 (.msl id 0 4 n none) (.int .i64 k) = some (.ptr id (4 * k)) := by
  simp [indexAddrV, u23, s25, hk]; omega
theorem loadRow {h : H} {l : List T} {id k : Nat} (hid : h[id]? = some (.cells (cellsT l) .live)) (hk : k < l.length) : loadV C.P h 25 (.ptr id (4 * k)) = some (enc l[k]) := by
  have e1 := cellsT_split hk
  have e2 := cellsT_len (l.take k)
  have e3 : (l.take k).length = k := by simp; omega
  rw [e3] at e2
  have e4 := cellsT_len (l.drop (k + 1))
  have e5 : ((cellsT l).drop (4 * k)).take 4 = (enc l[k]).cells := by
    rw [e1, List.append_assoc, List.drop_append_of_le_length (by omega), ← e2, List.drop_length, List.nil_append, List.take_append_of_le_length (by simp [enc_cells])]
    simp [enc_cells]
  have e6 := cellsT_len l
  simp only [loadV, hid, cellsAt, a25, s25]
  simp only [e5, e6]
  rw [if_pos (by omega)]
  simp only [enc_cells]; rw [enc_eq]
theorem storeRow {h : H} {l : List T} {id k : Nat} (x : T) (hid : h[id]? = some (.cells (cellsT l) .live)) (hk : k < l.length) : storeV C.P h 25 (.ptr id (4 * k)) (enc x) = some (h.set id (.cells (cellsT (l.set k x)) .live)) := by
  have e2 := cellsT_len (l.take k)
  have e3 : (l.take k).length = k := by simp; omega
  rw [e3] at e2
  have e6 := cellsT_len l
  have e7 : cellsT (l.set k x) = (cellsT l).take (4 * k) ++ (enc x).cells ++ (cellsT l).drop (4 * k + 4) := by
    have e1 := cellsT_split hk
    have e8 := cellsT_split (l := l.set k x) (k := k) (by simpa using hk)
    rw [e8]
    have a1 : (cellsT l).take (4 * k) = cellsT (l.take k) := by rw [e1, List.append_assoc, List.take_append_of_le_length (by omega), List.take_of_length_le (by omega)]
    have a2 : (cellsT l).drop (4 * k + 4) = cellsT (l.drop (k + 1)) := by
      rw [e1, List.drop_append]
      have : (cellsT (l.take k) ++ (enc l[k]).cells).length = 4 * k + 4 := by simp [e2, enc_cells]
      rw [this, List.drop_of_length_le (by omega)]; simp
    rw [a1, a2, List.take_set_of_le (by omega), List.drop_set_of_lt (by omega)]; simp
  rw [e7]
  simp only [storeV, hid, s25]
  rw [enc_eq]
  simp only [List.length_cons, List.length_nil]
  rw [if_pos ⟨trivial, by omega⟩]
  rfl
end Go.VZ

/- The program's copy of a term. -/
namespace Go.VZ
open Go Go.V Go.Proofs TL
theorem ldq {h : H} {i : Nat} {a b c v : AV} (hi : h[i]? = some (.cells [a, b, c, v] .live)) (hv : notTuple v = true) : loadV C.P h 23 (.ptr i 3) = some v := by
  simp [loadV, hi, cellsAt, a23, s23]
theorem stq {h : H} {i : Nat} {a b c v : AV} (w : AV) (hi : h[i]? = some (.cells [a, b, c, v] .live)) (hw : w = .isl [] .full ∨ ∃ id n, w = .msl id 0 4 n none) : storeV C.P h 23 (.ptr i 3) w = some (h.set i (.cells [a, b, c, w] .live)) := by
  rcases hw with rfl | ⟨id, n, rfl⟩ <;> simp [storeV, hi, s23]
theorem Row.form {h : H} {v : AV} {l : List T} (r : Row h v l) : v = .isl [] .full ∨ ∃ id n, v = .msl id 0 4 n none := by
  rcases r with ⟨_, rfl⟩ | ⟨id, rfl, _⟩
  · exact .inl rfl
  · exact .inr ⟨_, _, rfl⟩
theorem Row.len {h : H} {v : AV} {l : List T} (r : Row h v l) : lenV C.P 23 v = some (.int .i64 l.length) := by
  rcases r with ⟨rfl, rfl⟩ | ⟨id, rfl, _⟩ <;> simp [lenV, u23]
theorem Row.keep {h h' : H} {v : AV} {l : List T} (r : Row h v l) (k : Keep h h' none) : Row h' v l := by
  rcases r with e | ⟨id, rfl, hid⟩
  · exact .inl e
  · exact .inr ⟨id, rfl, k.get hid (by simp)⟩
theorem st25z (t : T) (h : H) : storeV C.P (h ++ [.cells [.int .i64 0, .str ⟨#[]⟩, .int .i64 0, .isl [] .full] .live]) 25 (.ptr h.length 0) (enc t) = some (h ++ [.cells (enc t).cells .live]) := by
  rw [st25 t _ _ _ _ h, enc_cells]
theorem ldb25z (t : T) (h : H) : loadV C.P (h ++ [.cells (enc t).cells .live]) 25 (.ptr h.length 0) = some (enc t) := by
  rw [enc_cells]; exact ldb25 t h
theorem ld23c (a b c : AV) (es : List AV) (x : Ext) (l : List VObj) : loadV C.P (.cells [a, b, c, .isl es x] .live :: l) 23 (.ptr 0 3) = some (.isl es x) := ldq rfl rfl
theorem chunk_cellsT : ∀ l : List T, chunk 4 l.length (cellsT l) = l.map enc
  | [] => rfl
  | a :: l => by
    have := chunk_cellsT l
    rw [cellsT_cons]
    simp only [List.length_cons, chunk, List.cons_append, List.nil_append, List.take_succ_cons, List.take_zero, List.drop_succ_cons, List.drop_zero, List.map_cons, this, enc_eq]
theorem freezeAll_cells : ∀ {h : H} {i : Nat} {cs : List AV}, h[i]? = some (.cells cs .live) → (freezeAll h)[i]? = some (.cells cs .frozen)
  | [], _, _, e => by simp at e
  | o :: r, 0, cs, e => by simp at e; subst e; rfl
  | o :: r, i + 1, cs, e => by
    have := freezeAll_cells (h := r) (i := i) (cs := cs) (by simpa using e)
    cases o with
    | cells c st => cases st <;> simpa [freezeAll] using this
    | _ => simpa [freezeAll] using this
theorem snap_row_n {h : H} {v : AV} {l : List T} (r : Row h v l) (n : Nat) (hn : 900000 + (cellsT l).length + 3 ≤ n) : snap (freezeAll h) (n + 1) v = some (terms l) := by
  rcases r with ⟨rfl, rfl⟩ | ⟨id, rfl, hid⟩
  · rfl
  · have e1 := freezeAll_cells hid
    have e2 := (dats_snap (h := freezeAll h) (dats_cellsT l) (short_cellsT l) n hn).1
    have e3 := cellsT_len l
    simp only [snap, e1, e2]
    rw [if_pos (by omega), List.drop_zero, chunk_cellsT]; rfl
theorem snap_term_n {h : H} {v : AV} {l : List T} (r : Row h v l) (k s : Int) (nm : ByteArray) (n : Nat) (hn : 900000 + (cellsT l).length + 3 ≤ n) : snap (freezeAll h) (n + 6) (.agg [.int .i64 k, .str nm, .int .i64 s, v]) = some (.agg [.int .i64 k, .str nm, .int .i64 s, terms l]) := by
  have e1 := snap_row_n r n hn
  have k1 : ∀ (m : Nat) (z : Int), snap (freezeAll h) (m + 1) (.int .i64 z) = some (.int .i64 z) := fun _ _ => rfl
  have k2 : ∀ (m : Nat) (z : ByteArray), snap (freezeAll h) (m + 1) (.str z) = some (.str z) := fun _ _ => rfl
  have k3 : snaps (freezeAll h) (n + 5) [.int .i64 k, .str nm, .int .i64 s, v] = some [.int .i64 k, .str nm, .int .i64 s, terms l] := by simp only [snaps, e1, k1, k2]
  have k4 : snap (freezeAll h) (n + 6) (.agg [.int .i64 k, .str nm, .int .i64 s, v]) = (match snaps (freezeAll h) (n + 5) [.int .i64 k, .str nm, .int .i64 s, v] with
    | some l => some (.agg l)
    | none => none) := rfl
  rw [k4, k3]
theorem snap_term {h : H} {v : AV} {l : List T} (r : Row h v l) (k s : Int) (n : ByteArray) (hl : l.length ≤ 20000) : snap (freezeAll h) deep (.agg [.int .i64 k, .str n, .int .i64 s, v]) = some (.agg [.int .i64 k, .str n, .int .i64 s, terms l]) := by
  have e3 := cellsT_len l
  exact snap_term_n r k s n 999994 (by omega)
def NI206 (t : T) (v : AV) (m : Nat) (s : PT) (h : H) : Prop := ∃ k : Nat, m = t.kids.length - k ∧ k ≤ t.kids.length ∧ s.get 1 = .ptr 0 0 ∧ s.get 2 = .ptr 1 0 ∧ s.get 10 = v ∧ s.get 11 = .int .i64 t.kids.length ∧ s.get 12 = .int .i64 k ∧
  h[0]? = some (.cells [.int .i64 t.kind, .str t.name, .int .i64 t.sort, v] .live) ∧ h[1]? = some (.cells zc .live) ∧ Row h v t.kids
set_option maxRecDepth 8000 in
set_option maxHeartbeats 2000000 in
theorem copy206 (t : T) (hv : t.size ≤ 20000) (hc : ∀ k ∈ t.kids, CallP C 206 [enc k] = some (enc k)) : CallP C 206 [enc t] = some (enc t) := by
  refine CallP_W rfl Tryz.func206 rfl (by kernel_rfl) (by simp [Tryz.f206]) fun R hR => ?_
  have hsz := size_kids t
  have hlen := len_sizes t.kids
  obtain ⟨v, h', hcl, hrow, hkp, hform⟩ := call193 t.kids .unk [.cells (tc t) .live, .cells zc .live] (by omega)
  have m0 : h'[0]? = some (.cells (tc t) .live) := hkp.get rfl (by simp)
  have m1 : h'[1]? = some (.cells zc .live) := hkp.get rfl (by simp)
  have hst := stq v m0 hrow.form
  have hl' := (List.getElem?_eq_some_iff.1 m0).1
  have hlq : loadV C.P (h'.set 0 (.cells [.int .i64 t.kind, .str t.name, .int .i64 t.sort, v] .live)) 23 (.ptr 0 3) = some v := ldq (List.getElem?_set_self hl') (by rcases hrow.form with rfl | ⟨_, _, rfl⟩ <;> rfl)
  have hln := hrow.len
  simp only [tc, zc] at hcl
  simp [go_sem, initS, enc_cells, terms, ld23c, hcl, hst, hlq, hln]
  have hrow2 : Row (h'.set 0 (.cells [.int .i64 t.kind, .str t.name, .int .i64 t.sort, v] .live)) v t.kids := by
    rcases hrow with e | ⟨id, rfl, hid⟩
    · exact .inl e
    · refine .inr ⟨id, rfl, ?_⟩
      rw [List.getElem?_set_ne (fun e => ?_)]; exact hid
      subst e
      rw [m0] at hid
      simp only [Option.some.injEq, VObj.cells.injEq, and_true] at hid
      have := congrArg List.length hid
      rcases hform with h1 | h1 <;> simp at h1
  refine W_loop (NI206 t v) t.kids.length ⟨0, rfl, Nat.zero_le _, by simp [go_sem], by simp [go_sem], by simp [go_sem], by simp [go_sem], by simp [go_sem], List.getElem?_set_self hl', by rw [List.getElem?_set_ne (by omega)]; exact m1, hrow2⟩ ?_
  rintro m s h ⟨k, rfl, hk, g1, g2, g10, g11, g12, n0, n1, nr⟩
  by_cases hlt : k < t.kids.length
  · have hlt' : (k : Int) < t.kids.length := by omega
    obtain ⟨id, rfl, hid⟩ : ∃ id, v = .msl id 0 4 t.kids.length none ∧ h[id]? = some (.cells (cellsT t.kids) .live) := by
      rcases nr with ⟨e, _⟩ | e
      · rw [e] at hlt; simp at hlt
      · exact e
    have w2 : IntKind.i64.wrap ((k : Int) + 1) = ((k + 1 : Nat) : Int) := by rw [wrap_in (by omega)]; omega
    have ck : ∀ h, callV C h (.func 206 []) (some [enc t.kids[k]]) = some (enc t.kids[k], h) := fun h => callV_strip (by kernel_rfl) rfl (dat_enc _) (by simp [short_enc]) (by simp) (hc _ (List.getElem_mem hlt))
    have e1 := idxRow (id := id) hlt
    have e2 := loadRow hid hlt
    obtain ⟨h2, eh2⟩ : ∃ g, g = h ++ [.cells (enc t.kids[k]).cells .live] := ⟨_, rfl⟩
    have hid2 : h2[id]? = some (.cells (cellsT t.kids) .live) := by rw [eh2, List.getElem?_append_left (List.getElem?_eq_some_iff.1 hid).1]; exact hid
    have n02 : h2[0]? = some (.cells [.int .i64 t.kind, .str t.name, .int .i64 t.sort, .msl id 0 4 t.kids.length none] .live) := by rw [eh2, List.getElem?_append_left (List.getElem?_eq_some_iff.1 n0).1]; exact n0
    have n12 : h2[1]? = some (.cells zc .live) := by rw [eh2, List.getElem?_append_left (List.getElem?_eq_some_iff.1 n1).1]; exact n1
    have e3 := storeRow t.kids[k] hid2 hlt
    rw [List.set_getElem_self] at e3
    have e3' : h2.set id (.cells (cellsT t.kids) .live) = h2 := by
      have := (List.getElem?_eq_some_iff.1 hid2); rw [← this.2]; exact List.set_getElem_self _
    rw [e3'] at e3
    have e4 := st25z t.kids[k] h
    have e5 := ldb25z t.kids[k] h
    rw [← eh2] at e4 e5
    have e6 := ldq n02 rfl
    simp [go_sem, g1, g2, g10, g11, g12, hlt', e1, e2, e4, e5, e6, ck, e3, -Int.natCast_add, w2]
    exact ⟨t.kids.length - (k + 1), by omega, k + 1, rfl, hlt, by simp [go_sem, g1], by simp [go_sem, g2], by simp [go_sem, g10], by simp [go_sem, g11], by simp [go_sem], n02, n12, .inr ⟨id, rfl, hid2⟩⟩
  · have : k = t.kids.length := by omega
    subst this
    have e5 : loadV C.P h 25 (.ptr 0 0) = some (.agg [.int .i64 t.kind, .str t.name, .int .i64 t.sort, v]) := by simp [loadV, n0, cellsAt, a25, s25]
    have e6 : storeV C.P h 25 (.ptr 1 0) (.agg [.int .i64 t.kind, .str t.name, .int .i64 t.sort, v]) = some (h.set 1 (.cells [.int .i64 t.kind, .str t.name, .int .i64 t.sort, v] .live)) := by simp [storeV, n1, s25, zc]
    have e7 := (List.getElem?_eq_some_iff.1 n1).1
    have nr2 : Row (h.set 1 (.cells [.int .i64 t.kind, .str t.name, .int .i64 t.sort, v] .live)) v t.kids := by
      rcases nr with e | ⟨id, e8, hid⟩
      · exact .inl e
      · refine .inr ⟨id, e8, ?_⟩
        by_cases hi : 1 = id
        · subst hi
          rw [n1] at hid
          simp only [Option.some.injEq, VObj.cells.injEq, and_true] at hid
          rcases hform with h1 | h1
          · rw [h1] at e8; cases e8
          · rw [h1] at e8; simp at e8
        · rw [List.getElem?_set_ne hi]; exact hid
    have e9 := snap_term nr2 t.kind t.sort t.name (by omega)
    generalize hzz : AV.agg [.int .i64 t.kind, .str t.name, .int .i64 t.sort, v] = zz at e5 e6 e9
    simp [go_sem, g1, g2, g10, g11, g12, e5, e6]
    refine hR _ _ _ (.inr rfl) ⟨zz, ?_, ?_⟩
    · simp [resultV, resV, Tryz.f206, go_sem, g2, loadV, List.getElem?_set_self e7, cellsAt, a25, s25, ← hzz]
    · rw [enc_eq]; exact e9
theorem copy206_all (t : T) : t.size ≤ 20000 → CallP C 206 [enc t] = some (enc t) := by
  induction t using T.ind with
  | _ t ih => exact fun hv => copy206 t hv (fun k hk => ih k hk (by have := kid_size hk; omega))
theorem call206 (t : T) (hs : t.size ≤ 20000) (h : H) : callV C h (.func 206 []) (some [enc t]) = some (enc t, h) := callV_strip (by kernel_rfl) rfl (dat_enc _) (by simp [short_enc]) (by simp) (copy206_all t hs)
end Go.VZ
