/- Names: the program's way; a node of a term: the document's way. -/
import Derived.Test.YtdoegkegjaadeaaGreatDoorESa
import Derived.Test.YtdoegkegjaadeaaGreatDoorEV34
namespace Go.VZ
open Go Go.V Go.Proofs TL
theorem eql_str (x y : Operand) (a b : ByteArray) : binV C.P .eql 9 x y (.str a) (.str b) = some (.bool (decide (a = b))) := by
  have e : pureVal C.P (do eqGuard BinOp.eql 9 x y (.string a) (.string b); binOp .eql 9 (.string a) (.string b)) = some (.bool (a.toList == b.toList)) := by
    simp [eqGuard, binOp, Op.stringOp]
    try rfl
  simp only [binV, toVal, toScalar, e, ofConst, ofScalar]
  congr 2
  have : a.toList = b.toList ↔ a = b := by
    have ha : a.toList = a.data.toList := ByteArray.toList_eq a
    have hb : b.toList = b.data.toList := ByteArray.toList_eq b
    rw [ha, hb]; exact name_inj
  by_cases h : a = b
  · subst h; simp
  · have h' : ¬ a.toList = b.toList := fun e => h (this.1 e)
    simp [h, h']
/-- What is wrong with a node alone. -/
def badN (t : T) : Bool := (decide (t.kind ≠ 1) && decide (t.kind ≠ 2) && decide (t.kind ≠ 3)) || decide (t.sort < 0) || decide (5 < t.sort) || (decide (t.kind ≠ 1) && decide (t.kind ≠ 2) && decide (t.sort ≠ 0)) || ((decide (t.kind = 1) || decide (t.kind = 2)) && decide (0 < t.kids.length))
def nodeE (t : T) : Int := if badN t = true then 1 else if nameB t.name = false then 2 else if 8 < t.kids.length then 3 else 0
theorem ld3k (k s : Int) (n : ByteArray) (q : AV) : loadV C.P [.cells [.int .i64 k, .str n, .int .i64 s, q] .live] 3 (.ptr 0 0) = some (.int .i64 k) := by simp [loadV, cellsAt, a3, s3]
theorem ld9n (k s : Int) (n : ByteArray) (q : AV) : loadV C.P [.cells [.int .i64 k, .str n, .int .i64 s, q] .live] 9 (.ptr 0 1) = some (.str n) := by simp [loadV, cellsAt, a9, s9]
theorem ld3s (k s : Int) (n : ByteArray) (q : AV) : loadV C.P [.cells [.int .i64 k, .str n, .int .i64 s, q] .live] 3 (.ptr 0 2) = some (.int .i64 s) := by simp [loadV, cellsAt, a3, s3]
theorem ld23q (k s : Int) (n : ByteArray) (es : List AV) (x : Ext) : loadV C.P [.cells [.int .i64 k, .str n, .int .i64 s, .isl es x] .live] 23 (.ptr 0 3) = some (.isl es x) := by simp [loadV, cellsAt, a23, s23]
theorem callV261 (s : ByteArray) (h : H) : callV C h (.func 261 []) (some [.str s]) = some (.bool (nameB s), h) := callV_strip (by kernel_rfl) rfl rfl rfl (by simp) (isName261 s)
set_option maxHeartbeats 2000000 in
theorem node213 (t : T) : CallP C 213 [enc t] = some (.int .i64 (nodeE t)) := by
  refine CallP_W rfl Tryz.func213 rfl (by kernel_rfl) (by simp [Tryz.f213]) fun R hR => ?_
  have c1 := callV261 t.name
  simp +contextual [go_sem, initS, enc_cells, terms, ld3k, ld9n, ld3s, ld23q, len23, c1]
  refine Ife_iff.2 ⟨fun h1 => ?_, fun h1 => ?_⟩
  · have hb : badN t = true := by simpa [badN] using h1
    simp [go_sem]
    refine hR _ _ _ (.inr rfl) ⟨_, rfl, ?_⟩
    simp [go_sem, nodeE, hb]; exact snap_dat rfl rfl
  have hb : badN t = false := by simpa [badN] using h1
  simp +contextual [go_sem, initS, enc_cells, terms, ld3k, ld9n, ld3s, ld23q, len23, c1]
  refine Ife_iff.2 ⟨fun h2 => ?_, fun h2 => ?_⟩
  · simp [go_sem]
    refine hR _ _ _ (.inr rfl) ⟨_, rfl, ?_⟩
    simp [go_sem, nodeE, hb, h2]; exact snap_dat rfl rfl
  simp at h2
  simp +contextual [go_sem, initS, enc_cells, terms, ld3k, ld9n, ld3s, ld23q, len23, c1]
  refine Ife_iff.2 ⟨fun h3 => ?_, fun h3 => ?_⟩
  · simp [go_sem]
    refine hR _ _ _ (.inr rfl) ⟨_, rfl, ?_⟩
    simp [go_sem, nodeE, hb, h2, show 8 < t.kids.length by omega]; exact snap_dat rfl rfl
  · simp [go_sem]
    refine hR _ _ _ (.inr rfl) ⟨_, rfl, ?_⟩
    simp [go_sem, nodeE, hb, h2, show ¬ 8 < t.kids.length by omega]; exact snap_dat rfl rfl
end Go.VZ

/- Names: the program's way. -/
namespace Go.VZ
open Go Go.V Go.Proofs TL
theorem u8_eq (n : Nat) : (decide ((n : Int) = 95)) = (n == 95) := by rw [Bool.eq_iff_iff]; simp; omega
theorem first_all : (List.range 256).all (fun c => (partB c && !(decide (48 ≤ c) && decide (c ≤ 57)) && !(decide (c = 95)) && !(decide (c = 35))) == letB c) = true := by kernel_rfl
theorem first_part (c : Nat) (hc : c < 256) : (partB c && !(decide (48 ≤ c) && decide (c ≤ 57)) && !(decide (c = 95)) && !(decide (c = 35))) = letB c := eq_of_beq (List.all_eq_true.mp first_all c (List.mem_range.mpr hc))
def NI232 (s : ByteArray) (z n : Nat) (t : PT) (h : H) : Prop := ∃ k : Nat, n = z - k ∧ k ≤ z ∧ h = [] ∧ t.get 0 = .str s ∧ t.get 38 = .int .i64 z ∧ t.get 39 = .int .i64 k ∧ tailB s k (z - k) = nameB s
set_option maxHeartbeats 1000000 in
theorem isName232 (s : ByteArray) : CallP C 232 [.str s] = some (.bool (nameB s)) := by
  refine CallP_W rfl Tryz.func232 rfl (by kernel_rfl) (by simp [Tryz.f232]) fun R hR => ?_
  have hn : nameB s = (decide (s.size ≠ 0) && decide (s.size ≤ 24) && letB (byteAt s 0) && tailB s 0 s.size) := rfl
  have len9 := len9 s
  have hix := index9b s
  have he : (s = ⟨#[]⟩) ↔ s.size = 0 := ⟨fun e => by subst e; rfl, fun e => by cases s; simp [ByteArray.size] at e; simp [e]⟩
  by_cases h0 : s.size = 0
  · have h0' := he.2 h0
    simp +contextual [go_sem, eql_str, len9, h0']
    refine hR _ _ _ (.inr rfl) ⟨_, rfl, ?_⟩
    have : nameB s = false := by simp [hn, h0]
    simp [go_sem, ← h0', this]; exact snap_dat rfl rfl
  have h0' : ¬ s = ⟨#[]⟩ := fun e => h0 (he.1 e)
  have hi0 := hix 0 (by omega)
  have hc0 := call286 (byteAt s 0) (byteAt_lt s 0)
  have hlt := byteAt_lt s 0
  simp only [Int.natCast_zero, show ((0 : Nat) : Int) = 0 from rfl] at hi0
  have hfp := first_part (byteAt s 0) hlt
  generalize s.size = z at len9 hn hix h0
  by_cases h24 : 24 < z
  · have h24' : (24 : Int) < z := by omega
    simp +contextual [go_sem, eql_str, len9, h0', h24']
    refine hR _ _ _ (.inr rfl) ⟨_, rfl, ?_⟩
    have : nameB s = false := by rw [hn, decide_eq_false (show ¬ z ≤ 24 by omega)]; simp
    simp [go_sem, this]; exact snap_dat rfl rfl
  have h24' : ¬ (24 : Int) < z := by omega
  simp +contextual [go_sem, eql_str, len9, h0', h24', hi0, hc0]
  refine Ife_iff.2 ⟨fun h1 => ?_, fun h1 => ?_⟩
  · have hl : letB (byteAt s 0) = false := by
      cases hlb : letB (byteAt s 0) with
      | false => rfl
      | true =>
        rw [hlb] at hfp
        simp at hfp
        rw [hfp.1.1.1] at h1
        simp at h1
        omega
    simp [go_sem]
    refine hR _ _ _ (.inr rfl) ⟨_, rfl, ?_⟩
    have : nameB s = false := by rw [hn, hl]; simp
    simp [go_sem, this]; exact snap_dat rfl rfl
  have hl : letB (byteAt s 0) = true := by
    rw [← hfp]
    simp only [not_or] at h1
    have p1 : partB (byteAt s 0) = true := by simpa using h1.1.1.1
    have p2 := h1.1.1.2
    have p3 := h1.1.2
    have p4 := h1.2
    rw [p1, decide_eq_false (show ¬ byteAt s 0 = 95 by omega), decide_eq_false (show ¬ byteAt s 0 = 35 by omega)]
    by_cases q : 48 ≤ byteAt s 0
    · rw [decide_eq_false (show ¬ byteAt s 0 ≤ 57 by omega)]; simp
    · rw [decide_eq_false q]; simp
  have hn' : nameB s = tailB s 0 z := by rw [hn, hl, decide_eq_true h0, decide_eq_true (show z ≤ 24 by omega)]; simp
  simp +contextual [go_sem, len9]
  refine W_loop (NI232 s z) z ⟨0, rfl, Nat.zero_le _, rfl, by simp [go_sem, initS], by simp [go_sem], by simp [go_sem], by rw [hn']; rfl⟩ ?_
  rintro n t h ⟨k, rfl, hk, rfl, g0, g38, g39, hd⟩
  by_cases hlt : k < z
  · have hlt' : (k : Int) < z := by omega
    have hi := hix k hlt
    have c1 := call286 (byteAt s k) (byteAt_lt s k)
    have w2 : IntKind.i64.wrap ((k : Int) + 1) = ((k + 1 : Nat) : Int) := by rw [wrap_in (by omega)]; omega
    rw [show z - k = (z - (k + 1)) + 1 by omega, tailB] at hd
    cases hp : partB (byteAt s k) with
    | true =>
      rw [hp, Bool.true_and] at hd
      simp [go_sem, g0, g38, g39, hlt', hi, c1, hp, -Int.natCast_add, w2]
      exact ⟨z - (k + 1), by omega, k + 1, rfl, hlt, rfl, by simp [go_sem, g0], by simp [go_sem, g38], by simp [go_sem], hd⟩
    | false =>
      rw [hp, Bool.false_and] at hd
      simp [go_sem, g0, g38, g39, hlt', hi, c1, hp]
      refine hR _ _ _ (.inr rfl) ⟨_, rfl, ?_⟩
      simp [go_sem, ← hd]; exact snap_dat rfl rfl
  · have : k = z := by omega
    subst this
    simp [go_sem, g0, g38, g39]
    refine hR _ _ _ (.inr rfl) ⟨_, rfl, ?_⟩
    rw [Nat.sub_self, tailB] at hd
    simp [go_sem, ← hd]; exact snap_dat rfl rfl
theorem call232 (s : ByteArray) (h : H) : callV C h (.func 232 []) (some [.str s]) = some (.bool (nameB s), h) := callV_strip (by kernel_rfl) rfl rfl rfl (by simp) (isName232 s)
end Go.VZ

/- Validity of terms: the document's way. -/
namespace Go.VZ
open Go Go.V Go.Proofs TL
mutual
def nodesE : T → Int
  | .mk k n s l => thn (nodeE (.mk k n s l)) (nodesEs l)
def nodesEs : List T → Int
  | [] => 0
  | t :: l => thn (nodesE t) (nodesEs l)
end
theorem nodesE_eq (t : T) : nodesE t = thn (nodeE t) (nodesEs t.kids) := by cases t; rw [nodesE]; rfl
def validE (t : T) : Int := thn (nodesE t) (if 400 < t.size ∨ 40 < t.depth then 3 else 0)
theorem depth_eq (t : T) : t.depth = depths t.kids + 1 := by cases t; rw [T.depth]; rfl
/-- The cells of a term. -/
def tc (t : T) : List AV := [.int .i64 t.kind, .str t.name, .int .i64 t.sort, .isl (t.kids.map enc) .unk]
theorem ld25t (t : T) : loadV C.P [.cells [.int .i64 t.kind, .str t.name, .int .i64 t.sort, .isl (t.kids.map enc) .unk] .live] 25 (.ptr 0 0) = some (enc t) := by
  simp [loadV, cellsAt, a25, s25]; rw [enc_eq]; rfl
theorem node_range (t : T) : 0 ≤ nodeE t ∧ nodeE t ≤ 3 := by unfold nodeE; split <;> (try split) <;> (try split) <;> omega
theorem call213 (t : T) (h : H) : callV C h (.func 213 []) (some [enc t]) = some (.int .i64 (nodeE t), h) := callV_strip (by kernel_rfl) rfl (dat_enc _) (by simp [short_enc]) (by simp) (node213 t)
def NI143 (t : T) (n : Nat) (s : PT) (h : H) : Prop := ∃ k : Nat, n = t.kids.length - k ∧ k ≤ t.kids.length ∧ h = [.cells (tc t) .live] ∧ s.get 1 = .ptr 0 0 ∧ s.get 4 = .int .i64 k ∧ nodesEs (t.kids.drop k) = nodesE t
set_option maxHeartbeats 1000000 in
theorem nodes143 (t : T) (hs : t.size < 4000000) (hc : ∀ k ∈ t.kids, CallP C 143 [enc k] = some (.int .i64 (nodesE k))) : CallP C 143 [enc t] = some (.int .i64 (nodesE t)) := by
  refine CallP_W rfl Tryz.func143 rfl (by kernel_rfl) (by simp [Tryz.f143]) fun R hR => ?_
  have c1 := call213 t
  have hq := nodesE_eq t
  by_cases h1 : nodeE t = 0
  · simp +contextual [go_sem, initS, enc_cells, terms, ld25t, c1, h1]
    refine W_loop (NI143 t) t.kids.length ⟨0, rfl, Nat.zero_le _, rfl, by simp [go_sem], by simp [go_sem], by rw [hq, h1]; rfl⟩ ?_
    rintro n s h ⟨k, rfl, hk, rfl, g1, g4, hd⟩
    have hlen := len_sizes t.kids
    have hsz := size_kids t
    by_cases hlt : k < t.kids.length
    · have hlt' : (k : Int) < t.kids.length := by omega
      have hix := idx23 t.kids k hlt .unk
      have ck : ∀ h, callV C h (.func 143 []) (some [enc t.kids[k]]) = some (.int .i64 (nodesE t.kids[k]), h) := fun h => callV_strip (by kernel_rfl) rfl (dat_enc _) (by simp [short_enc]) (by simp) (hc _ (List.getElem_mem hlt))
      have w1 : IntKind.i64.wrap ((k : Int) + 1) = ((k + 1 : Nat) : Int) := by rw [wrap_in (by omega)]; omega
      rw [List.drop_eq_getElem_cons hlt, nodesEs] at hd
      by_cases h2 : nodesE t.kids[k] = 0
      · rw [h2] at hd
        simp [go_sem, tc, ld23q, len23, g1, g4, hlt', hix, ld25, ck, h2, -Int.natCast_add, w1]
        exact ⟨t.kids.length - (k + 1), by omega, k + 1, rfl, hlt, rfl, by simp [go_sem, g1], by simp [go_sem], hd⟩
      · simp [go_sem, tc, ld23q, len23, g1, g4, hlt', hix, ld25, ck, h2]
        refine hR _ _ _ (.inr rfl) ⟨_, rfl, ?_⟩
        simp [go_sem, ← hd, thn, h2]; exact snap_dat rfl rfl
    · have : k = t.kids.length := by omega
      subst this
      simp [go_sem, tc, ld23q, len23, g1, g4]
      refine hR _ _ _ (.inr rfl) ⟨_, rfl, ?_⟩
      rw [List.drop_length, nodesEs] at hd
      simp [go_sem, ← hd]; exact snap_dat rfl rfl
  · simp +contextual [go_sem, initS, enc_cells, terms, ld25t, c1, h1]
    refine hR _ _ _ (.inr rfl) ⟨_, rfl, ?_⟩
    simp [go_sem, hq, thn, h1]; exact snap_dat rfl rfl
theorem nodes143_all (t : T) : t.size < 4000000 → CallP C 143 [enc t] = some (.int .i64 (nodesE t)) := by
  induction t using T.ind with
  | _ t ih => exact fun hs => nodes143 t hs (fun k hk => ih k hk (by have := kid_size hk; omega))
theorem call143 (t : T) (hs : t.size < 4000000) (h : H) : callV C h (.func 143 []) (some [enc t]) = some (.int .i64 (nodesE t), h) := callV_strip (by kernel_rfl) rfl (dat_enc _) (by simp [short_enc]) (by simp) (nodes143_all t hs)
theorem depth_le (t : T) : t.depth ≤ t.size ∧ 0 < t.depth := by
  induction t using T.ind with
  | _ t ih =>
    rw [depth_eq, size_kids]
    have : depths t.kids ≤ sizes t.kids := by
      generalize t.kids = l at ih
      induction l with
      | nil => simp [depths, sizes]
      | cons a l ihl =>
        have h1 := ih a (by simp)
        have h2 := ihl (fun k hk => ih k (by simp [hk]))
        rw [depths, sizes]; omega
    omega
def NI145 (t : T) (n : Nat) (s : PT) (h : H) : Prop := ∃ k c : Nat, n = t.kids.length - k ∧ k ≤ t.kids.length ∧ h = [.cells (tc t) .live] ∧ s.get 1 = .ptr 0 0 ∧ s.get 3 = .int .i64 c ∧ s.get 4 = .int .i64 k ∧ max c (depths (t.kids.drop k)) = depths t.kids
theorem max_int (P : Program) (a b : Int) : minmaxV P true [.int .i64 a, .int .i64 b] = some (.int .i64 (max a b)) := by
  simp only [minmaxV, toList, toScalar]
  have e : pureVal P (Builtin.max_ #[] 0 [Value.int .i64 a, .int .i64 b].toArray) = some (.int .i64 (max a b)) := by
    simp only [Builtin.max_, List.foldlM, Builtin.max2, pureVal_bind, pureVal_pure, Option.bind_some]
    congr 2
    split <;> omega
  simp [e, ofConst, ofScalar]
set_option maxHeartbeats 1000000 in
theorem depth145 (t : T) (hs : t.size < 4000000) (hc : ∀ k ∈ t.kids, CallP C 145 [enc k] = some (.int .i64 k.depth)) : CallP C 145 [enc t] = some (.int .i64 t.depth) := by
  refine CallP_W rfl Tryz.func145 rfl (by kernel_rfl) (by simp [Tryz.f145]) fun R hR => ?_
  simp +contextual [go_sem, initS, enc_cells, terms]
  refine W_loop (NI145 t) t.kids.length ⟨0, 0, rfl, Nat.zero_le _, rfl, by simp [go_sem], by simp [go_sem], by simp [go_sem], by simp⟩ ?_
  rintro n s h ⟨k, c, rfl, hk, rfl, g1, g3, g4, hd⟩
  have hlen := len_sizes t.kids
  have hsz := size_kids t
  have hde := depth_eq t
  have hdl := (depth_le t).1
  by_cases hlt : k < t.kids.length
  · have hlt' : (k : Int) < t.kids.length := by omega
    have hix := idx23 t.kids k hlt .unk
    have ck : ∀ h, callV C h (.func 145 []) (some [enc t.kids[k]]) = some (.int .i64 (t.kids[k].depth : Nat), h) := fun h => callV_strip (by kernel_rfl) rfl (dat_enc _) (by simp [short_enc]) (by simp) (hc _ (List.getElem_mem hlt))
    have w1 : IntKind.i64.wrap ((k : Int) + 1) = ((k + 1 : Nat) : Int) := by rw [wrap_in (by omega)]; omega
    rw [List.drop_eq_getElem_cons hlt, depths, ← Nat.max_assoc] at hd
    simp [go_sem, tc, ld23q, len23, g1, g3, g4, hlt', hix, ld25, ck, max_int, -Int.natCast_add, w1]
    refine ⟨t.kids.length - (k + 1), by omega, k + 1, max c t.kids[k].depth, rfl, hlt, rfl, by simp [go_sem, g1], ?_, by simp [go_sem], hd⟩
    simp [go_sem]; omega
  · have : k = t.kids.length := by omega
    subst this
    rw [List.drop_length, depths] at hd
    have hc0 : c = depths t.kids := by omega
    have w1 : IntKind.i64.wrap ((c : Int) + 1) = (t.depth : Nat) := by rw [wrap_in (by omega)]; omega
    simp [go_sem, tc, ld23q, len23, g1, g3, g4, w1]
    refine hR _ _ _ (.inr rfl) ⟨_, rfl, ?_⟩
    simp [go_sem]; exact snap_dat rfl rfl
theorem depth145_all (t : T) : t.size < 4000000 → CallP C 145 [enc t] = some (.int .i64 t.depth) := by
  induction t using T.ind with
  | _ t ih => exact fun hs => depth145 t hs (fun k hk => ih k hk (by have := kid_size hk; omega))
theorem call145 (t : T) (hs : t.size < 4000000) (h : H) : callV C h (.func 145 []) (some [enc t]) = some (.int .i64 t.depth, h) := callV_strip (by kernel_rfl) rfl (dat_enc _) (by simp [short_enc]) (by simp) (depth145_all t hs)
theorem callS144 (t : T) (hs : t.size < 4000000) (h : H) : callV C h (.func 144 []) (some [enc t]) = some (.int .i64 t.size, h) := callV_strip (by kernel_rfl) rfl (dat_enc _) (by simp [short_enc]) (by simp) (size144_all t hs)
set_option maxHeartbeats 1000000 in
theorem valid86 (t : T) (hs : t.size < 4000000) : CallP C 86 [enc t] = some (.int .i64 (validE t)) := by
  refine CallP_W rfl Tryz.func86 rfl (by kernel_rfl) (by simp [Tryz.f86]) fun R hR => ?_
  have c1 := call143 t hs
  have c2 := callS144 t hs
  have c3 := call145 t hs
  simp +contextual [go_sem, initS, enc_cells, terms, ld25t, c1]
  refine Ife_iff.2 ⟨fun h1 => ?_, fun h1 => ?_⟩
  · simp [go_sem]
    refine hR _ _ _ (.inr rfl) ⟨_, rfl, ?_⟩
    simp [go_sem, validE, thn, h1]; exact snap_dat rfl rfl
  simp only [Decidable.not_not] at h1
  simp +contextual [go_sem, initS, enc_cells, terms, ld25t, c1, c2, c3]
  refine Ife_iff.2 ⟨fun h2 => ?_, fun h2 => ?_⟩
  · simp [go_sem]
    refine hR _ _ _ (.inr rfl) ⟨_, rfl, ?_⟩
    simp [go_sem, validE, thn, h1, show 400 < t.size ∨ 40 < t.depth by omega]; exact snap_dat rfl rfl
  · simp [go_sem]
    refine hR _ _ _ (.inr rfl) ⟨_, rfl, ?_⟩
    simp [go_sem, validE, thn, h1, show ¬ (400 < t.size ∨ 40 < t.depth) by omega]; exact snap_dat rfl rfl
theorem dat_enc' (t : T) : dat (enc t) = some (enc t) := by rw [enc_eq]; rfl
theorem call86 (t : T) (hs : t.size < 4000000) (h : H) : callV C h (.func 86 []) (some [enc t]) = some (.int .i64 (validE t), h) := callV_strip (by kernel_rfl) rfl (dat_enc _) (by simp [short_enc]) (by simp) (valid86 t hs)
end Go.VZ

/- Validity of terms: the program's way. -/
namespace Go.VZ
open Go Go.V Go.Proofs TL
theorem callV_open {f : FuncId} {args : List AV} {h : H} (hb : hasBody C.P f = true) (hm : C.mode f = .openH) : callV C h (.func f []) (some args) = Go.V.Call C f args h := by
  simp only [callV, hb, if_true, List.append_nil]
  unfold applyCall
  rw [hm]
theorem ldp3 {h : H} {p : Nat} {x : AV} {st : OSt} (hp : h[p]? = some (.cells [x] .live)) : loadV C.P h 3 (.ptr p 0) = some x := by simp [loadV, hp, cellsAt, a3, s3]
theorem stp3 {h : H} {p : Nat} {x : AV} (v : Int) (hp : h[p]? = some (.cells [x] .live)) : storeV C.P h 3 (.ptr p 0) (.int .i64 v) = some (h.set p (.cells [.int .i64 v] .live)) := by simp [storeV, hp, s3]
/-- Memory as it was, but for two numbers and what is new. -/
def Two (h h' : H) (p q : Nat) (n d : Int) : Prop := h.length ≤ h'.length ∧ (∀ i, i < h.length → i ≠ p → i ≠ q → h'[i]? = h[i]?) ∧ h'[p]? = some (.cells [.int .i64 n] .live) ∧ h'[q]? = some (.cells [.int .i64 d] .live)
theorem Two.trans {h h1 h2 : H} {p q : Nat} {n d n' d' : Int} (hp : p < h.length) (hq : q < h.length) (a : Two h h1 p q n d) (b : Two h1 h2 p q n' d') : Two h h2 p q n' d' :=
  ⟨Nat.le_trans a.1 b.1, fun i hi h1 h2 => (b.2.1 i (Nat.lt_of_lt_of_le hi a.1) h1 h2).trans (a.2.1 i hi h1 h2), b.2.2.1, b.2.2.2⟩
theorem Two.push {h h1 : H} {p q : Nat} {n d : Int} (a : Two h h1 p q n d) (hp : p < h.length) (hq : q < h.length) (x : List VObj) : Two h (h1 ++ x) p q n d := by
  obtain ⟨a1, a2, a3, a4⟩ := a
  refine ⟨by simp; omega, fun i hi h1' h2' => ?_, ?_, ?_⟩
  · rw [List.getElem?_append_left (by omega)]; exact a2 i hi h1' h2'
  · rw [List.getElem?_append_left (by omega)]; exact a3
  · rw [List.getElem?_append_left (by omega)]; exact a4
theorem fa25 (i : Nat) : ∀ (j o : Nat), (j, o) ∈ [(0,0),(1,1),(2,2),(3,3)] → fieldAddrV C.P 25 (.ptr i 0) j = some (.ptr i o) := by
  intro j o h
  simp at h
  rcases h with ⟨rfl, rfl⟩ | ⟨rfl, rfl⟩ | ⟨rfl, rfl⟩ | ⟨rfl, rfl⟩
  · exact fa25_0 i
  · exact fa25_1 i
  · exact fa25_2 i
  · exact fa25_3 i
theorem ldtc {h : H} {b : Nat} {t : T} (hb : h[b]? = some (.cells (tc t) .live)) : loadV C.P h 3 (.ptr b 0) = some (.int .i64 t.kind) ∧ loadV C.P h 9 (.ptr b 1) = some (.str t.name) ∧ loadV C.P h 3 (.ptr b 2) = some (.int .i64 t.sort) ∧ loadV C.P h 23 (.ptr b 3) = some (.isl (t.kids.map enc) .unk) ∧ loadV C.P h 25 (.ptr b 0) = some (enc t) := by
  refine ⟨?_, ?_, ?_, ?_, ?_⟩
  · simp [loadV, hb, cellsAt, a3, s3, tc]
  · simp [loadV, hb, cellsAt, a9, s9, tc]
  · simp [loadV, hb, cellsAt, a3, s3, tc]
  · simp [loadV, hb, cellsAt, a23, s23, tc]
  · simp [loadV, hb, cellsAt, a25, s25, tc]; rw [enc_eq]; rfl
theorem nilCheck_ptr (P : Program) (s : PT) (d : Option Tmp) (x : Operand) (ty : TypeId) (p : String) (af : Array Edge) (i o : Nat) (hx : ev s x = some (.ptr i o)) : opN P s ⟨d, .nilCheck x, ty, p, af, none⟩ = some (.ptr i o) := by simp [opN, hx]
/-- What a check of nil comes to. -/
def nilV : AV → Option AV
  | .ptr i n => some (.ptr i n)
  | .iptr e n => some (.iptr e n)
  | .func f c => some (.func f c)
  | _ => none
@[go_sem] theorem nilV_ptr (i n : Nat) : nilV (.ptr i n) = some (.ptr i n) := (rfl)
@[go_sem] theorem OWnilCheck {C : Cfg} {cf : FuncId} {ops : Array Oper} {d : Tmp} {ty : TypeId} {p : String} {af : Array Edge} {l : List Oper} {s : PT} {h : H} {K : PT → H → Prop} (x : Operand) :
    OW C cf ops (⟨some d, .nilCheck x, ty, p, af, none⟩ :: l) s h K ↔ bO (bi1 (ev s x) nilV) fun v => OW C cf ops l (s.set d v) h K := OWn (by simp only [opN, bi1, nilV]; cases ev s x <;> first | rfl | (rename_i c; cases c <;> rfl)) rfl rfl
theorem badN_iff (t : T) : badN t = true ↔ (t.kind ≠ 1 ∧ t.kind ≠ 2 ∧ t.kind ≠ 3) ∨ t.sort < 0 ∨ 5 < t.sort ∨ (t.kind ≠ 1 ∧ t.kind ≠ 2 ∧ t.sort ≠ 0) ∨ ((t.kind = 1 ∨ t.kind = 2) ∧ 0 < t.kids.length) := by
  simp only [badN, Bool.or_eq_true, Bool.and_eq_true, decide_eq_true_eq, or_assoc, and_assoc]
theorem bad_false {t : T} (h : ¬ badN t = true) : badN t = false := by simpa using h
def NI170 (t : T) (h0 : H) (p q : Nat) (n d lvl : Int) (m : Nat) (s : PT) (h : H) : Prop := ∃ k : Nat, ∃ cur : Int, m = t.kids.length - k ∧ k ≤ t.kids.length ∧ Two h0 h p q (n + 1 + sizes (t.kids.take k)) cur ∧
  s.get 1 = .int .i64 lvl ∧ s.get 2 = .ptr p 0 ∧ s.get 3 = .ptr q 0 ∧ s.get 57 = .isl (t.kids.map enc) .unk ∧ s.get 58 = .int .i64 t.kids.length ∧ s.get 59 = .int .i64 k ∧ nodesEs (t.kids.drop k) = nodesE t ∧
  lvl ≤ cur ∧ max cur (lvl + depths (t.kids.drop k)) = max d (lvl + depths t.kids)
/-- What the check says. -/
def Chk (t : T) : Prop := ∀ (h : H) (p q : Nat) (n d lvl : Int), p ≠ q → h[p]? = some (.cells [.int .i64 n] .live) → h[q]? = some (.cells [.int .i64 d] .live) → 0 ≤ n → n + t.size < 1000000000 → 0 ≤ d → d < 1000000000 → 0 ≤ lvl → lvl + t.size < 1000000000 →
  ∃ r h', Go.V.Call C 170 [enc t, .int .i64 lvl, .ptr p 0, .ptr q 0] h = some (r, h') ∧ r = .int .i64 (nodesE t) ∧ ∃ n' d', Two h h' p q n' d' ∧ 0 ≤ n' ∧ n' ≤ n + t.size ∧ 0 ≤ d' ∧ d' < 1000000000 ∧ (nodesE t = 0 → n' = n + t.size ∧ d' = max d (lvl + t.depth - 1))
set_option maxHeartbeats 4000000 in
theorem check170 (t : T) (hc : ∀ k ∈ t.kids, Chk k) : Chk t := by
  intro h p q n d lvl hpq hp hq hn0 hn1 hd0 hd1 hl0 hl1
  refine Call_WQ (Q := fun r h' => r = .int .i64 (nodesE t) ∧ ∃ n' d', Two h h' p q n' d' ∧ 0 ≤ n' ∧ n' ≤ n + t.size ∧ 0 ≤ d' ∧ d' < 1000000000 ∧ (nodesE t = 0 → n' = n + t.size ∧ d' = max d (lvl + t.depth - 1))) rfl Tryz.func170 rfl (by kernel_rfl) (by simp [Tryz.f170]) fun R hR => ?_
  have hpl := (List.getElem?_eq_some_iff.1 hp).1
  have hql := (List.getElem?_eq_some_iff.1 hq).1
  have hsz := size_kids t
  have hlen := len_sizes t.kids
  have hde := depth_eq t
  have hdl := (depth_le t).1
  have hne := nodesE_eq t
  have T0 : Two h (h ++ [.cells (tc t) .live]) p q n d := Two.push ⟨Nat.le_refl _, fun i _ _ _ => rfl, hp, hq⟩ hpl hql _
  have hb0 : (h ++ [.cells (tc t) .live])[h.length]? = some (.cells (tc t) .live) := by simp
  obtain ⟨g0, hg0⟩ : ∃ g, g = h ++ [.cells (tc t) .live] := ⟨_, rfl⟩
  have bx : boxV C.P h 25 (enc t) = some (.ptr h.length 0, g0) := by rw [box25, hg0]; rfl
  rw [← hg0] at T0 hb0
  have w1 : IntKind.i64.wrap (n + 1) = n + 1 := wrap_in (by omega)
  have T1 : Two h (g0.set p (.cells [.int .i64 (n + 1)] .live)) p q (n + 1) d := by
    obtain ⟨a1, a2, a3, a4⟩ := T0
    exact ⟨by simpa using a1, fun i hi h1 h2 => by rw [List.getElem?_set_ne (fun e => h1 e.symm)]; exact a2 i hi h1 h2, List.getElem?_set_self (by omega), by rw [List.getElem?_set_ne hpq]; exact a4⟩
  have hb1 : (g0.set p (.cells [.int .i64 (n + 1)] .live))[h.length]? = some (.cells (tc t) .live) := by rw [List.getElem?_set_ne (by omega)]; exact hb0
  have e1 := ldp3 (st := .live) T0.2.2.1
  have e2 := stp3 (n + 1) T0.2.2.1
  obtain ⟨g1, hg1⟩ : ∃ g, g = g0.set p (.cells [.int .i64 (n + 1)] .live) := ⟨_, rfl⟩
  rw [← hg1] at T1 hb1 e2
  have e3 := ldp3 (st := .live) T1.2.2.2
  have e4 := stp3 (max d lvl) T1.2.2.2
  have T2 : Two h (g1.set q (.cells [.int .i64 (max d lvl)] .live)) p q (n + 1) (max d lvl) := by
    obtain ⟨a1, a2, a3, a4⟩ := T1
    exact ⟨by simpa using a1, fun i hi h1 h2 => by rw [List.getElem?_set_ne (fun e => h2 e.symm)]; exact a2 i hi h1 h2, by rw [List.getElem?_set_ne (fun e => hpq e.symm)]; exact a3, List.getElem?_set_self (by omega)⟩
  have hb2 : (g1.set q (.cells [.int .i64 (max d lvl)] .live))[h.length]? = some (.cells (tc t) .live) := by rw [List.getElem?_set_ne (by omega)]; exact hb1
  obtain ⟨g2, hg2⟩ : ∃ g, g = g1.set q (.cells [.int .i64 (max d lvl)] .live) := ⟨_, rfl⟩
  rw [← hg2] at T2 hb2 e4
  obtain ⟨l1, l2, l3, l4, _⟩ := ldtc hb2
  have c1 := call232 t.name
  have fin : ∀ e, nodeE t = e → e ≠ 0 → nodesE t = e := fun e h1 h2 => by rw [hne, h1]; simp [thn, h2]
  have out : ∀ (s : PT), (s.get 8 = .int .i64 (nodesE t)) → nodesE t ≠ 0 → R .ret s g2 := fun s hs hz => by
    refine hR _ _ _ (.inr rfl) ⟨.int .i64 (nodesE t), by simp [resultV, resV, Tryz.f170, hs], rfl, n + 1, max d lvl, T2, by omega, by omega, by omega, by omega, fun e => absurd e hz⟩
  have kk : t.kind = 1 ∨ t.kind = 2 ∨ t.kind = 3 ∨ (t.kind ≠ 1 ∧ t.kind ≠ 2 ∧ t.kind ≠ 3) := by omega
  have bad1 : badN t = true → nodesE t = 1 := fun hb => fin 1 (by simp [nodeE, hb]) (by simp)
  rcases kk with hk | hk | hk | ⟨hk1, hk2, hk3⟩
  rotate_left 3
  · have hb := bad1 ((badN_iff t).2 (.inl ⟨hk1, hk2, hk3⟩))
    simp +contextual [go_sem, bx, e1, e2, e3, e4, w1, max_int, l1, l2, l3, l4, len23, hk1, hk2, hk3]
    exact out _ (by simp [go_sem, hb]) (by rw [hb]; simp)
  all_goals
    simp +contextual [go_sem, bx, e1, e2, e3, e4, w1, max_int, l1, l2, l3, l4, len23, hk]
    refine Ife_iff.2 ⟨fun h1 => ?_, fun h1 => ?_⟩
    · have hb := bad1 ((badN_iff t).2 (by omega))
      simp [go_sem]
      exact out _ (by simp [go_sem, hb]) (by rw [hb]; simp)
    have hnb := bad_false (t := t) (fun hb => by have := (badN_iff t).1 hb; omega)
    simp +contextual [go_sem, l2, c1]
    refine Ife_iff.2 ⟨fun h2 => ?_, fun h2 => ?_⟩
    · have hb := fin 2 (by simp [nodeE, hnb, h2]) (by simp)
      simp [go_sem]
      exact out _ (by simp [go_sem, hb]) (by rw [hb]; simp)
    simp at h2
    simp +contextual [go_sem, l4, len23]
    refine Ife_iff.2 ⟨fun h3 => ?_, fun h3 => ?_⟩
    · have hb := fin 3 (by simp [nodeE, hnb, h2, show 8 < t.kids.length by omega]) (by simp)
      simp [go_sem]
      exact out _ (by simp [go_sem, hb]) (by rw [hb]; simp)
    have hn0' : nodeE t = 0 := by simp [nodeE, hnb, h2, show ¬ 8 < t.kids.length by omega]
    simp +contextual [go_sem, l4, len23]
    refine W_loop (NI170 t h p q n d lvl) t.kids.length ⟨0, max d lvl, rfl, Nat.zero_le _, by simpa [sizes] using T2, by simp [go_sem, initS], by simp [go_sem, initS], by simp [go_sem, initS], by simp [go_sem], by simp [go_sem], by simp [go_sem], by rw [hne, hn0']; rfl, by omega, by simp only [List.drop_zero]; omega⟩ ?_
    rintro m s hh ⟨k, cur, rfl, hkl, TT, g1', g2', g3', g57, g58, g59, hd, hcl, hcm⟩
    by_cases hlt : k < t.kids.length
    · have hlt' : (k : Int) < t.kids.length := by omega
      have hix := idx23 t.kids k hlt .unk
      have t1 := take_sizes hlt
      have t2 := take_sizes_le t.kids (k + 1)
      have ksz := kid_size (List.getElem_mem hlt)
      have w2 : IntKind.i64.wrap ((k : Int) + 1) = ((k + 1 : Nat) : Int) := by rw [wrap_in (by omega)]; omega
      have w3 : IntKind.i64.wrap (lvl + 1) = lvl + 1 := wrap_in (by omega)
      have TT' := TT.push hpl hql [.cells [.int .i64 t.kids[k].kind, .str t.kids[k].name, .int .i64 t.kids[k].sort, terms t.kids[k].kids] .live]
      obtain ⟨hz, ehz⟩ : ∃ g, g = hh ++ [.cells [.int .i64 t.kids[k].kind, .str t.kids[k].name, .int .i64 t.kids[k].sort, terms t.kids[k].kids] .live] := ⟨_, rfl⟩
      rw [← ehz] at TT'
      have hpl' : p < hz.length := by have := TT'.1; omega
      have hql' : q < hz.length := by have := TT'.1; omega
      obtain ⟨r, h', cc, rfl, n', d', T3, u1, u2, u3, u4, u5⟩ := hc _ (List.getElem_mem hlt) hz p q (n + 1 + sizes (t.kids.take k)) cur (lvl + 1) hpq TT'.2.2.1 TT'.2.2.2 (by omega) (by omega) (by omega) (by omega) (by omega) (by omega)
      have cv := (callV_open (f := 170) (by kernel_rfl) rfl).trans cc
      rw [ehz] at cv
      have T4 := Two.trans hpl hql TT' T3
      rw [List.drop_eq_getElem_cons hlt, nodesEs] at hd
      rw [List.drop_eq_getElem_cons hlt, depths] at hcm
      have kdl := depth_le t.kids[k]
      by_cases h4 : nodesE t.kids[k] = 0
      · rw [h4] at hd cv
        obtain ⟨u6, u7⟩ := u5 h4
        simp [go_sem, g1', g2', g3', g57, g58, g59, hlt', hix, ld25, st25, ldb25, -Int.natCast_add, w2, w3, cv]
        exact ⟨t.kids.length - (k + 1), by omega, k + 1, d', rfl, hlt, by rw [show n + 1 + sizes (t.kids.take (k + 1)) = n' by omega]; exact T4, by simp [go_sem, g1'], by simp [go_sem, g2'], by simp [go_sem, g3'], by simp [go_sem, g57], by simp [go_sem, g58], by simp [go_sem], hd, by omega, by omega⟩
      · have hne2 : nodesE t.kids[k] = nodesE t := by rw [← hd]; simp [thn, h4]
        simp [go_sem, g1', g2', g3', g57, g58, g59, hlt', hix, ld25, st25, ldb25, -Int.natCast_add, w2, w3, cv, h4]
        refine hR _ _ _ (.inr rfl) ⟨.int .i64 (nodesE t), by simp [resultV, resV, Tryz.f170, go_sem, hne2], rfl, _, _, T4, by omega, by omega, by omega, by omega, fun e => absurd (hne2.trans e) h4⟩
    · have : k = t.kids.length := by omega
      subst this
      rw [List.take_length] at TT
      rw [List.drop_length, depths] at hcm
      rw [List.drop_length, nodesEs] at hd
      simp [go_sem, g57, g58, g59]
      refine hR _ _ _ (.inr rfl) ⟨.int .i64 (nodesE t), by simp [resultV, resV, Tryz.f170, go_sem, ← hd], rfl, _, _, TT, by omega, by omega, by omega, by omega, fun _ => ⟨by omega, by omega⟩⟩
end Go.VZ
