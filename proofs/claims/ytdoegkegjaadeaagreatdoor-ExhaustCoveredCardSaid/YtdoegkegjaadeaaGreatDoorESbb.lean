/- Valid of terms and Fits, both ways. -/
import Derived.Test.YtdoegkegjaadeaaGreatDoorESb
namespace Go.VZ
open Go Go.V Go.Proofs TL
theorem check170_all (t : T) : Chk t := by
  induction t using T.ind with
  | _ t ih => exact check170 t ih
theorem ld25c (t : T) (l : List VObj) : loadV C.P (.cells [.int .i64 t.kind, .str t.name, .int .i64 t.sort, .isl (t.kids.map enc) .unk] .live :: l) 25 (.ptr 0 0) = some (enc t) := by
  simp [loadV, cellsAt, a25, s25]; rw [enc_eq]; rfl
theorem ld25d (x : VObj) (t : T) (l : List VObj) : loadV C.P (x :: .cells [.int .i64 t.kind, .str t.name, .int .i64 t.sort, .isl (t.kids.map enc) .unk] .live :: l) 25 (.ptr 1 0) = some (enc t) := by
  simp [loadV, cellsAt, a25, s25]; rw [enc_eq]; rfl
@[go_sem] theorem ld3c0 (k s : Int) (n x : AV) (l : List VObj) : loadV C.P (.cells [.int .i64 k, n, .int .i64 s, x] .live :: l) 3 (.ptr 0 0) = some (.int .i64 k) := by simp [loadV, cellsAt, a3, s3]
@[go_sem] theorem ld3c2 (k s : Int) (n x : AV) (l : List VObj) : loadV C.P (.cells [.int .i64 k, n, .int .i64 s, x] .live :: l) 3 (.ptr 0 2) = some (.int .i64 s) := by simp [loadV, cellsAt, a3, s3]
@[go_sem] theorem ld3d0 (k s : Int) (n x : AV) (y : VObj) (l : List VObj) : loadV C.P (y :: .cells [.int .i64 k, n, .int .i64 s, x] .live :: l) 3 (.ptr 1 0) = some (.int .i64 k) := by simp [loadV, cellsAt, a3, s3]
@[go_sem] theorem ld3d2 (k s : Int) (n x : AV) (y : VObj) (l : List VObj) : loadV C.P (y :: .cells [.int .i64 k, n, .int .i64 s, x] .live :: l) 3 (.ptr 1 2) = some (.int .i64 s) := by simp [loadV, cellsAt, a3, s3]
@[go_sem] theorem zv3 : zeroV C.P 3 = some (.int .i64 0) := by kernel_rfl
@[go_sem] theorem cells_int (v : Int) : (AV.int .i64 v).cells = [.int .i64 v] := (rfl)
set_option maxRecDepth 8000 in
set_option maxHeartbeats 1000000 in
theorem valid111 (t : T) (hs : t.size < 4000000) : CallP C 111 [enc t] = some (.int .i64 (validE t)) := by
  refine CallP_W rfl Tryz.func111 rfl (by kernel_rfl) (by simp [Tryz.f111]) fun R hR => ?_
  obtain ⟨r, h', cc, rfl, n', d', T3, u1, u2, u3, u4, u5⟩ := check170_all t [.cells (tc t) .live, .cells [.int .i64 0] .live, .cells [.int .i64 0] .live] 1 2 0 0 1 (by omega) rfl rfl (by omega) (by omega) (by omega) (by omega) (by omega) (by omega)
  have cv := (callV_open (f := 170) (by kernel_rfl) rfl).trans cc
  have l1 := ldp3 (st := .live) T3.2.2.1
  have l2 := ldp3 (st := .live) T3.2.2.2
  have hdp := depth_le t
  simp only [tc] at cv
  have s1 := fun x : VObj => stp3 (h := [x, .cells [.int .i64 0] .live, .cells [.int .i64 0] .live]) (p := 1) (x := .int .i64 0) 0 rfl
  have s2 := fun x : VObj => stp3 (h := [x, .cells [.int .i64 0] .live, .cells [.int .i64 0] .live]) (p := 2) (x := .int .i64 0) 0 rfl
  simp only [List.set] at s1 s2
  simp +contextual [go_sem, initS, enc_cells, terms, ld25c, tc, cv, s1, s2]
  refine Ife_iff.2 ⟨fun h1 => ?_, fun h1 => ?_⟩
  · simp [go_sem]
    refine hR _ _ _ (.inr rfl) ⟨_, rfl, ?_⟩
    simp [go_sem, validE, thn, h1]; exact snap_dat rfl rfl
  simp only [Decidable.not_not] at h1
  obtain ⟨u6, u7⟩ := u5 h1
  simp +contextual [go_sem, l1, l2]
  refine Ife_iff.2 ⟨fun h2 => ?_, fun h2 => ?_⟩
  · simp [go_sem]
    refine hR _ _ _ (.inr rfl) ⟨_, rfl, ?_⟩
    simp [go_sem, validE, thn, h1, show 400 < t.size ∨ 40 < t.depth by omega]; exact snap_dat rfl rfl
  · simp [go_sem]
    refine hR _ _ _ (.inr rfl) ⟨_, rfl, ?_⟩
    simp [go_sem, validE, thn, h1, show ¬ (400 < t.size ∨ 40 < t.depth) by omega]; exact snap_dat rfl rfl
theorem call111 (t : T) (hs : t.size < 4000000) (h : H) : callV C h (.func 111 []) (some [enc t]) = some (.int .i64 (validE t), h) := callV_strip (by kernel_rfl) rfl (dat_enc _) (by simp [short_enc]) (by simp) (valid111 t hs)
theorem kind_valid {t : T} (h : validE t = 0) : t.kind = 1 ∨ t.kind = 2 ∨ t.kind = 3 := by
  by_cases hk : t.kind = 1 ∨ t.kind = 2 ∨ t.kind = 3
  · exact hk
  · have hb : badN t = true := (badN_iff t).2 (.inl (by omega))
    have h1 : nodesE t = 1 := by rw [nodesE_eq]; simp [nodeE, hb, thn]
    simp [validE, h1, thn] at h
/-- What Fits says. -/
def fitsB (a b : T) : Bool := decide (validE a = 0) && decide (validE b = 0) && decide (a.kind = 1) && (decide (a.sort = 0) || (decide (b.kind ≠ 3) && decide (b.sort = a.sort)))
set_option maxRecDepth 8000 in
set_option maxHeartbeats 1000000 in
theorem fits113 (a b : T) (hs : a.size < 4000000) (hb : b.size < 4000000) : CallP C 113 [enc a, enc b] = some (.bool (fitsB a b)) := by
  refine CallP_W rfl Tryz.func113 rfl (by kernel_rfl) (by simp [Tryz.f113]) fun R hR => ?_
  have c1 := call111 a hs
  have c2 := call111 b hb
  simp +contextual [go_sem, initS, enc_cells, terms, ld25c, ld25d, c1, c2]
  refine Ife_iff.2 ⟨fun h1 => ?_, fun h1 => ?_⟩
  · simp +contextual [go_sem]
    refine hR _ _ _ (.inr rfl) ⟨_, rfl, ?_⟩
    have : fitsB a b = false := by
      simp only [fitsB, Bool.and_eq_false_iff, decide_eq_false_iff_not]; omega
    simp [go_sem, this]; exact snap_dat rfl rfl
  · simp +contextual [go_sem]
    refine hR _ _ _ (.inr rfl) ⟨_, rfl, ?_⟩
    simp [go_sem]
    have : fitsB a b = (decide (a.sort = 0) || !decide (b.kind = 3) && decide (b.sort = a.sort)) := by
      simp only [not_or, Decidable.not_not] at h1
      simp [fitsB, h1]
    rw [this]; exact snap_dat rfl rfl
theorem call113 (a b : T) (hs : a.size < 4000000) (hb : b.size < 4000000) (h : H) : callV C h (.func 113 []) (some [enc a, enc b]) = some (.bool (fitsB a b), h) := callV_strip (by kernel_rfl) rfl (dat_enc2 _ _) (by simp [short_enc]) (by simp) (fits113 a b hs hb)
theorem dat_encI (t : T) (n : Int) : dats [enc t, .int .i64 n] = some [enc t, .int .i64 n] := by rw [enc_eq]; rfl
theorem short_int (n : Int) : short (.int .i64 n) = true := rfl
theorem leaf234 (t : T) (n : Int) : CallP C 234 [enc t, .int .i64 n] = some (.bool ((decide (t.kind = 1) || decide (t.kind = 2)) && decide (t.sort = n))) := by
  refine CallP_W rfl Tryz.func234 rfl (by kernel_rfl) (by simp [Tryz.f234]) fun R hR => ?_
  simp +contextual [go_sem, initS, enc_cells, terms]
  refine hR _ _ _ (.inr rfl) ⟨_, rfl, ?_⟩
  simp [go_sem]; exact snap_dat rfl rfl
theorem call234 (t : T) (n : Int) (h : H) : callV C h (.func 234 []) (some [enc t, .int .i64 n]) = some (.bool ((decide (t.kind = 1) || decide (t.kind = 2)) && decide (t.sort = n)), h) := callV_strip (by kernel_rfl) rfl (dat_encI _ _) (by simp [short_enc, short_int]) (by simp) (leaf234 t n)
set_option maxRecDepth 8000 in
set_option maxHeartbeats 1000000 in
theorem fits175 (a b : T) (hs : a.size < 4000000) (hb : b.size < 4000000) : CallP C 175 [enc a, enc b] = some (.bool (fitsB a b)) := by
  refine CallP_W rfl Tryz.func175 rfl (by kernel_rfl) (by simp [Tryz.f175]) fun R hR => ?_
  have c1 := call86 a hs
  have c2 := call86 b hb
  simp +contextual [go_sem, initS, enc_cells, terms, ld25c, ld25d, c1, c2]
  refine Ife_iff.2 ⟨fun h1 => ?_, fun h1 => ?_⟩
  · simp +contextual [go_sem]
    refine hR _ _ _ (.inr rfl) ⟨_, rfl, ?_⟩
    have : fitsB a b = false := by
      simp only [fitsB, Bool.and_eq_false_iff, decide_eq_false_iff_not]; omega
    simp [go_sem, this]; exact snap_dat rfl rfl
  · simp +contextual [go_sem, ld25c, ld25d, call234]
    refine hR _ _ _ (.inr rfl) ⟨_, rfl, ?_⟩
    simp [go_sem]
    have hb0 : validE b = 0 := by omega
    have kb := kind_valid hb0
    have : fitsB a b = (decide (a.sort = 0) || (decide (b.kind = 1) || decide (b.kind = 2)) && decide (b.sort = a.sort)) := by
      simp only [not_or, Decidable.not_not] at h1
      rcases kb with k | k | k <;> simp [fitsB, h1, k]
    rw [this]; exact snap_dat rfl rfl
theorem call175 (a b : T) (hs : a.size < 4000000) (hb : b.size < 4000000) (h : H) : callV C h (.func 175 []) (some [enc a, enc b]) = some (.bool (fitsB a b), h) := callV_strip (by kernel_rfl) rfl (dat_enc2 _ _) (by simp [short_enc]) (by simp) (fits175 a b hs hb)
end Go.VZ

/- Budgets of the document. -/
namespace Go.VZ
open Go Go.V Go.Proofs TL
mutual
def budget : T → Int → Int
  | .mk _ nm _ l, n => if n ≤ 0 ∨ 40 < (nm.size : Int) then -1 else budgets l (n - 1)
def budgets : List T → Int → Int
  | [], n => n
  | t :: l, n => if budget t n < 0 then -1 else budgets l (budget t n)
end
theorem budget_eq (t : T) (n : Int) : budget t n = if n ≤ 0 ∨ 40 < (t.name.size : Int) then -1 else budgets t.kids (n - 1) := by cases t; rw [budget]; rfl
theorem budgets_of {l : List T} (ih : ∀ t ∈ l, ∀ n : Int, -1 ≤ budget t n ∧ (0 ≤ budget t n → budget t n + t.size = n)) : ∀ n : Int, -1 ≤ n → -1 ≤ budgets l n ∧ (0 ≤ budgets l n → budgets l n + sizes l = n) := by
  induction l with
  | nil => intro n hn; rw [budgets, sizes]; exact ⟨hn, fun _ => by omega⟩
  | cons a l ihl =>
    intro n hn
    have h1 := ih a (by simp) n
    have h2 := ihl (fun t ht => ih t (by simp [ht])) (budget a n) h1.1
    rw [budgets, sizes]
    split
    · exact ⟨by omega, fun h => by omega⟩
    · exact ⟨h2.1, fun h => by have := h2.2 h; have := h1.2 (by omega); omega⟩
theorem budget_law (t : T) : ∀ n : Int, -1 ≤ budget t n ∧ (0 ≤ budget t n → budget t n + t.size = n) := by
  induction t using T.ind with
  | _ t ih =>
    intro n
    rw [budget_eq]
    split
    · exact ⟨by omega, fun h => by omega⟩
    · rename_i h
      have hb := budgets_of ih (n - 1) (by omega)
      have := size_kids t
      exact ⟨hb.1, fun h => by have := hb.2 h; omega⟩
theorem budgets_law (l : List T) (n : Int) (hn : -1 ≤ n) : -1 ≤ budgets l n ∧ (0 ≤ budgets l n → budgets l n + sizes l = n) := budgets_of (fun t _ => budget_law t) n hn
/-- What is left after the first k. -/
def NI29 (t : T) (n0 : Int) (m : Nat) (s : PT) (h : H) : Prop := ∃ k : Nat, ∃ n : Int, m = t.kids.length - k ∧ k ≤ t.kids.length ∧ h = [.cells (tc t) .live] ∧ s.get 2 = .ptr 0 0 ∧ s.get 1 = .int .i64 n ∧ s.get 5 = .int .i64 k ∧ 0 ≤ n ∧ n + k ≤ n0 ∧ budgets (t.kids.drop k) n = budget t n0
set_option maxHeartbeats 1000000 in
theorem budget29 (t : T) (hc : ∀ k ∈ t.kids, ∀ n : Int, n < 4000000 → CallP C 29 [enc k, .int .i64 n] = some (.int .i64 (budget k n))) (n : Int) (hn : n < 4000000) : CallP C 29 [enc t, .int .i64 n] = some (.int .i64 (budget t n)) := by
  refine CallP_W rfl Tryz.func29 rfl (by kernel_rfl) (by simp [Tryz.f29]) fun R hR => ?_
  simp +contextual [go_sem, initS, enc_cells, terms, ld9n, len9]
  refine Ife_iff.2 ⟨fun h1 => ?_, fun h1 => ?_⟩
  · simp [go_sem]
    refine hR _ _ _ (.inr rfl) ⟨_, rfl, ?_⟩
    have : budget t n = -1 := by rw [budget_eq, if_pos h1]
    simp [go_sem, this]; exact snap_dat rfl rfl
  have hb : budget t n = budgets t.kids (n - 1) := by rw [budget_eq, if_neg h1]
  have w1 : IntKind.i64.wrap (n - 1) = n - 1 := wrap_in (by omega)
  simp +contextual [go_sem, w1]
  refine W_loop (NI29 t n) t.kids.length ⟨0, n - 1, rfl, Nat.zero_le _, rfl, by simp [go_sem], by simp [go_sem], by simp [go_sem], by omega, by omega, hb.symm⟩ ?_
  rintro m s h ⟨k, c, rfl, hk, rfl, g2, g1, g5, hc0, hcn, hd⟩
  by_cases hlt : k < t.kids.length
  · have hlt' : (k : Int) < t.kids.length := by omega
    have hix := idx23 t.kids k hlt .unk
    have ck : ∀ h, callV C h (.func 29 []) (some [enc t.kids[k], .int .i64 c]) = some (.int .i64 (budget t.kids[k] c), h) := fun h => callV_strip (by kernel_rfl) rfl (dat_encI _ _) (by simp [short_enc, short_int]) (by simp) (hc _ (List.getElem_mem hlt) c (by omega))
    have hbl := budget_law t.kids[k] c
    have w2 : IntKind.i64.wrap ((k : Int) + 1) = ((k + 1 : Nat) : Int) := by rw [wrap_in (by omega)]; omega
    have hsz := size_kids t.kids[k]
    rw [List.drop_eq_getElem_cons hlt, budgets] at hd
    by_cases h2 : budget t.kids[k] c < 0
    · rw [if_pos h2] at hd
      simp [go_sem, tc, ld23q, len23, g1, g2, g5, hlt', hix, ld25, ck, h2]
      refine hR _ _ _ (.inr rfl) ⟨_, rfl, ?_⟩
      simp [go_sem, ← hd]; exact snap_dat rfl rfl
    · rw [if_neg h2] at hd
      have := hbl.2 (by omega)
      simp [go_sem, tc, ld23q, len23, g1, g2, g5, hlt', hix, ld25, ck, h2, -Int.natCast_add, w2]
      exact ⟨t.kids.length - (k + 1), by omega, k + 1, _, rfl, hlt, rfl, by simp [go_sem, g2], by simp [go_sem], by simp [go_sem], by omega, by omega, hd⟩
  · have : k = t.kids.length := by omega
    subst this
    rw [List.drop_length, budgets] at hd
    simp [go_sem, tc, ld23q, len23, g1, g2, g5]
    refine hR _ _ _ (.inr rfl) ⟨_, rfl, ?_⟩
    simp [go_sem, ← hd]; exact snap_dat rfl rfl
theorem budget29_all (t : T) : ∀ n : Int, n < 4000000 → CallP C 29 [enc t, .int .i64 n] = some (.int .i64 (budget t n)) := by
  induction t using T.ind with
  | _ t ih => exact budget29 t ih
theorem call29 (t : T) (n : Int) (hn : n < 4000000) (h : H) : callV C h (.func 29 []) (some [enc t, .int .i64 n]) = some (.int .i64 (budget t n), h) := callV_strip (by kernel_rfl) rfl (dat_encI _ _) (by simp [short_enc, short_int]) (by simp) (budget29_all t n hn)
def fewT (l : List T) (c n : Int) : Bool := decide ((l.length : Int) ≤ c) && decide (0 ≤ budgets l n)
def NI9 (l : List T) (n0 : Int) (m : Nat) (s : PT) (h : H) : Prop := ∃ k : Nat, ∃ n : Int, m = l.length - k ∧ k ≤ l.length ∧ h = [] ∧ s.get 0 = terms l ∧ s.get 2 = .int .i64 n ∧ s.get 7 = .int .i64 k ∧ 0 ≤ n ∧ n + k ≤ n0 ∧ budgets (l.drop k) n = budgets l n0
set_option maxHeartbeats 1000000 in
theorem few9 (l : List T) (c n : Int) (hn : n < 4000000) (hn0 : 0 ≤ n) : CallP C 9 [terms l, .int .i64 c, .int .i64 n] = some (.bool (fewT l c n)) := by
  refine CallP_W rfl Tryz.func9 rfl (by kernel_rfl) (by simp [Tryz.f9]) fun R hR => ?_
  simp +contextual [go_sem, initS, terms, len23]
  refine Ife_iff.2 ⟨fun h1 => ?_, fun h1 => ?_⟩
  · simp [go_sem]
    refine hR _ _ _ (.inr rfl) ⟨_, rfl, ?_⟩
    have : fewT l c n = false := by simp [fewT]; omega
    simp [go_sem, this]; exact snap_dat rfl rfl
  have hb : fewT l c n = decide (0 ≤ budgets l n) := by simp [fewT, show (l.length : Int) ≤ c by omega]
  simp +contextual [go_sem]
  refine W_loop (NI9 l n) l.length ⟨0, n, rfl, Nat.zero_le _, rfl, by simp [go_sem, initS, terms], by simp [go_sem, initS], by simp [go_sem], by omega, by omega, rfl⟩ ?_
  rintro m s h ⟨k, c, rfl, hk, rfl, g0, g2, g7, hc0, hcn, hd⟩
  simp only [terms] at g0
  by_cases hlt : k < l.length
  · have hlt' : (k : Int) < l.length := by omega
    have hix := idx23 l k hlt .unk
    have ck := call29 l[k] c (by omega)
    have hbl := budget_law l[k] c
    have w2 : IntKind.i64.wrap ((k : Int) + 1) = ((k + 1 : Nat) : Int) := by rw [wrap_in (by omega)]; omega
    have hsz := size_kids l[k]
    rw [List.drop_eq_getElem_cons hlt, budgets] at hd
    by_cases h2 : budget l[k] c < 0
    · rw [if_pos h2] at hd
      simp [go_sem, len23, g0, g2, g7, hlt', hix, ld25, ck, h2]
      refine hR _ _ _ (.inr rfl) ⟨_, rfl, ?_⟩
      simp [go_sem, hb, ← hd]; exact snap_dat rfl rfl
    · rw [if_neg h2] at hd
      have := hbl.2 (by omega)
      simp [go_sem, len23, g0, g2, g7, hlt', hix, ld25, ck, h2, -Int.natCast_add, w2]
      exact ⟨l.length - (k + 1), by omega, k + 1, _, rfl, hlt, rfl, by simp [go_sem, g0, terms], by simp [go_sem], by simp [go_sem], by omega, by omega, hd⟩
  · have : k = l.length := by omega
    subst this
    rw [List.drop_length, budgets] at hd
    simp [go_sem, len23, g0, g2, g7]
    refine hR _ _ _ (.inr rfl) ⟨_, rfl, ?_⟩
    simp [go_sem, hb, ← hd, hc0]; exact snap_dat rfl rfl
theorem dat_few (l : List T) (c n : Int) : dats [terms l, .int .i64 c, .int .i64 n] = some [terms l, .int .i64 c, .int .i64 n] := rfl
theorem short_terms (l : List T) : short (terms l) = true := rfl
theorem call9 (l : List T) (c n : Int) (hn : n < 4000000) (hn0 : 0 ≤ n) (h : H) : callV C h (.func 9 []) (some [terms l, .int .i64 c, .int .i64 n]) = some (.bool (fewT l c n), h) := callV_strip (by kernel_rfl) rfl (dat_few _ _ _) (by simp [short_terms, short_int]) (by simp) (few9 l c n hn hn0)
end Go.VZ

/- Bindings: their form, and Valid both ways. -/
namespace Go.VZ
open Go Go.V Go.Proofs TL
def encB (b : T × T) : AV := .agg [.int .i64 b.1.kind, .str b.1.name, .int .i64 b.1.sort, terms b.1.kids, .int .i64 b.2.kind, .str b.2.name, .int .i64 b.2.sort, terms b.2.kids]
def binds (l : List (T × T)) : AV := .isl (l.map encB) .unk
theorem u46 : C.P.underlying 46 = some (.slice 86) := Tryz.underlying46
theorem s86 : sizeV C.P 86 = some 8 := by kernel_rfl
theorem s46 : sizeV C.P 46 = some 1 := by kernel_rfl
theorem a86 : isAggB C.P 86 = some true := by kernel_rfl
theorem a46 : isAggB C.P 46 = some false := by kernel_rfl
attribute [go_sem] u46 s86 s46 a86 a46
theorem fa86_0 (i : Nat) : fieldAddrV C.P 86 (.ptr i 0) 0 = some (.ptr i 0) := by kernel_rfl
theorem fa86_1 (i : Nat) : fieldAddrV C.P 86 (.ptr i 0) 1 = some (.ptr i 4) := by kernel_rfl
theorem fa86i_0 (e : AV) : fieldAddrV C.P 86 (.iptr e 0) 0 = some (.iptr e 0) := by kernel_rfl
theorem fa86i_1 (e : AV) : fieldAddrV C.P 86 (.iptr e 0) 1 = some (.iptr e 4) := by kernel_rfl
attribute [go_sem] fa86_0 fa86_1 fa86i_0 fa86i_1
theorem zv86 : zeroV C.P 86 = some (.agg [.int .i64 0, .str ⟨#[]⟩, .int .i64 0, .isl [] .full, .int .i64 0, .str ⟨#[]⟩, .int .i64 0, .isl [] .full]) := by kernel_rfl
attribute [go_sem] zv86
theorem len46 (es : List AV) (x : Ext) : lenV C.P 46 (.isl es x) = some (.int .i64 es.length) := by simp [lenV, u46]
theorem idx46 (l : List (T × T)) (k : Nat) (hk : k < l.length) (x : Ext) : indexAddrV C.P 46 (.isl (l.map encB) x) (.int .i64 k) = some (.iptr (encB l[k]) 0) := by
  simp [indexAddrV, u46, s86, encB, cells_agg, hk]
theorem ld86 (b : T × T) (h : H) : loadV C.P h 86 (.iptr (encB b) 0) = some (encB b) := by simp [loadV, cellsAt, a86, s86, encB, cells_agg]
theorem ld25i0 (b : T × T) (h : H) : loadV C.P h 25 (.iptr (encB b) 0) = some (enc b.1) := by
  simp [loadV, cellsAt, a25, s25, encB, cells_agg]; rw [enc_eq]
theorem ld25i4 (b : T × T) (h : H) : loadV C.P h 25 (.iptr (encB b) 4) = some (enc b.2) := by
  simp [loadV, cellsAt, a25, s25, encB, cells_agg]; rw [enc_eq]
theorem st86 (b : T × T) (c1 c2 c3 c4 c5 c6 c7 c8 : AV) (h : H) : storeV C.P (h ++ [.cells [c1, c2, c3, c4, c5, c6, c7, c8] .live]) 86 (.ptr h.length 0) (encB b) = some (h ++ [.cells (encB b).cells .live]) := by
  simp [storeV, s86, encB, cells_agg]
theorem box86 (b : T × T) (h : H) : boxV C.P h 86 (encB b) = some (.ptr h.length 0, h ++ [.cells (encB b).cells .live]) := by
  simp [boxV, encB, cells_agg, s86, notTuple]
theorem lb0 (b : T × T) (h : H) : loadV C.P (h ++ [.cells (encB b).cells .live]) 25 (.ptr h.length 0) = some (enc b.1) := by
  simp [loadV, cellsAt, a25, s25, encB, cells_agg]; rw [enc_eq]
theorem lb4 (b : T × T) (h : H) : loadV C.P (h ++ [.cells (encB b).cells .live]) 25 (.ptr h.length 4) = some (enc b.2) := by
  simp [loadV, cellsAt, a25, s25, encB, cells_agg]; rw [enc_eq]
theorem lbk (b : T × T) (h : H) : loadV C.P (h ++ [.cells (encB b).cells .live]) 3 (.ptr h.length 0) = some (.int .i64 b.1.kind) := by
  simp [loadV, cellsAt, a3, s3, encB, cells_agg]
/-- What a binding's check says. -/
def bindE (b : T × T) : Int := thn (validE b.1) (if b.1.kind ≠ 1 ∨ b.1.cmp b.2 = 0 then 1 else thn (validE b.2) (if fitsB b.1 b.2 then 0 else 10))
theorem lb0n (b : T × T) : loadV C.P [.cells (encB b).cells .live] 25 (.ptr 0 0) = some (enc b.1) := lb0 b []
theorem lb4n (b : T × T) : loadV C.P [.cells (encB b).cells .live] 25 (.ptr 0 4) = some (enc b.2) := lb4 b []
theorem lbkn (b : T × T) : loadV C.P [.cells (encB b).cells .live] 3 (.ptr 0 0) = some (.int .i64 b.1.kind) := lbk b []
set_option maxHeartbeats 1000000 in
theorem bind117 (b : T × T) (h1 : b.1.size < 4000000) (h2 : b.2.size < 4000000) : CallP C 117 [encB b] = some (.int .i64 (bindE b)) := by
  refine CallP_W rfl Tryz.func117 rfl (by kernel_rfl) (by simp [Tryz.f117]) fun R hR => ?_
  have c1 := call86 b.1 h1
  have c2 := call86 b.2 h2
  have c3 := call69 b.1 b.2 h1 h2
  have c4 := call175 b.1 b.2 h1 h2
  simp +contextual [go_sem, initS, box86, lb0n, lb4n, lbkn, c1]
  refine Ife_iff.2 ⟨fun k1 => ?_, fun k1 => ?_⟩
  · simp [go_sem]
    refine hR _ _ _ (.inr rfl) ⟨_, rfl, ?_⟩
    simp [go_sem, bindE, thn, k1]; exact snap_dat rfl rfl
  simp only [Decidable.not_not] at k1
  simp +contextual [go_sem, box86, lb0n, lb4n, lbkn, c1, c2, c3, c4]
  refine Ife_iff.2 ⟨fun k2 => ?_, fun k2 => ?_⟩
  · simp [go_sem]
    refine hR _ _ _ (.inr rfl) ⟨_, rfl, ?_⟩
    simp [go_sem, bindE, thn, k1]; rw [if_pos (by simpa using k2)]; exact snap_dat rfl rfl
  simp +contextual [go_sem, box86, lb0n, lb4n, lbkn, c1, c2, c3, c4]
  refine Ife_iff.2 ⟨fun k3 => ?_, fun k3 => ?_⟩
  · simp [go_sem]
    refine hR _ _ _ (.inr rfl) ⟨_, rfl, ?_⟩
    simp [go_sem, bindE, thn, k1, k3]; rw [if_neg (by simpa using k2)]; exact snap_dat rfl rfl
  simp only [Decidable.not_not] at k3
  simp +contextual [go_sem, box86, lb0n, lb4n, lbkn, c1, c2, c3, c4]
  refine Ife_iff.2 ⟨fun k4 => ?_, fun k4 => ?_⟩
  · simp [go_sem]
    refine hR _ _ _ (.inr rfl) ⟨_, rfl, ?_⟩
    simp [go_sem, bindE, thn, k1, k3]; rw [if_neg (by simpa using k2), if_neg (by simpa using k4)]; exact snap_dat rfl rfl
  · simp [go_sem]
    refine hR _ _ _ (.inr rfl) ⟨_, rfl, ?_⟩
    simp [go_sem, bindE, thn, k1, k3]; rw [if_neg (by simpa using k2), if_pos (by simpa using k4)]; exact snap_dat rfl rfl
theorem dat_encB (b : T × T) : dats [encB b] = some [encB b] := rfl
theorem short_encB (b : T × T) : short (encB b) = true := rfl
theorem call117 (b : T × T) (h1 : b.1.size < 4000000) (h2 : b.2.size < 4000000) (h : H) : callV C h (.func 117 []) (some [encB b]) = some (.int .i64 (bindE b), h) := callV_strip (by kernel_rfl) rfl (dat_encB _) (by simp [short_encB]) (by simp) (bind117 b h1 h2)
def small (l : List (T × T)) : Prop := ∀ b ∈ l, b.1.size < 4000000 ∧ b.2.size < 4000000
/-- Not after the one ahead. -/
def later : Option T → T → Bool
  | none, _ => false
  | some q, v => decide (0 ≤ q.cmp v)
def subEs : Option T → List (T × T) → Int
  | _, [] => 0
  | p, b :: l => thn (bindE b) (if later p b.1 = true then 5 else subEs (some b.1) l)
def subE (l : List (T × T)) : Int := if 200 < l.length then 3 else subEs none l
def prev (l : List (T × T)) (k : Nat) : Option T := if k = 0 then none else (l[k - 1]?).map (·.1)
theorem prev_succ {l : List (T × T)} {k : Nat} (hk : k < l.length) : prev l (k + 1) = some l[k].1 := by simp [prev, hk]
def NI67 (l : List (T × T)) (n : Nat) (s : PT) (h : H) : Prop := ∃ k : Nat, n = l.length - k ∧ k ≤ l.length ∧ h = [] ∧ s.get 0 = binds l ∧ s.get 3 = .int .i64 k ∧ subEs (prev l k) (l.drop k) = subEs none l
set_option maxHeartbeats 1000000 in
theorem valid67 (l : List (T × T)) (hs : small l) : CallP C 67 [binds l] = some (.int .i64 (subE l)) := by
  refine CallP_W rfl Tryz.func67 rfl (by kernel_rfl) (by simp [Tryz.f67]) fun R hR => ?_
  simp +contextual [go_sem, initS, binds, len46]
  refine Ife_iff.2 ⟨fun h1 => ?_, fun h1 => ?_⟩
  · simp [go_sem]
    refine hR _ _ _ (.inr rfl) ⟨_, rfl, ?_⟩
    simp [go_sem, subE, show 200 < l.length by omega]; exact snap_dat rfl rfl
  have hb : subE l = subEs none l := by simp [subE, show ¬ 200 < l.length by omega]
  simp +contextual [go_sem]
  refine W_loop (NI67 l) l.length ⟨0, rfl, Nat.zero_le _, rfl, by simp [go_sem, initS, binds], by simp [go_sem], rfl⟩ ?_
  rintro m s h ⟨k, rfl, hk, rfl, g0, g3, hd⟩
  simp only [binds] at g0
  by_cases hlt : k < l.length
  · have hlt' : (k : Int) < l.length := by omega
    have hix := idx46 l k hlt .unk
    have hsm := hs _ (List.getElem_mem hlt)
    have ck := call117 l[k] hsm.1 hsm.2
    have w2 : IntKind.i64.wrap ((k : Int) + 1) = ((k + 1 : Nat) : Int) := by rw [wrap_in (by omega)]; omega
    rw [List.drop_eq_getElem_cons hlt, subEs] at hd
    by_cases h2 : bindE l[k] = 0
    · rw [h2] at hd
      by_cases hz : k = 0
      · have hp : later (prev l k) l[k].1 = false := by simp [prev, hz, later]
        have hd : subEs (some l[k].1) (l.drop (k + 1)) = subEs none l := by simpa [thn, hp] using hd
        simp [go_sem, len46, g0, g3, hlt', hlt, hix, ld86, ck, h2, -Int.natCast_add, w2, show ¬ 0 < k by omega]
        exact ⟨l.length - (k + 1), by omega, k + 1, rfl, hlt, rfl, by simp [go_sem, g0, binds], by simp [go_sem], by rw [prev_succ hlt]; exact hd⟩
      · have hk1 : k - 1 < l.length := by omega
        have hiy := idx46 l (k - 1) hk1 .unk
        have w3 : IntKind.i64.wrap ((k : Int) - 1) = ((k - 1 : Nat) : Int) := by rw [wrap_in (by omega)]; omega
        have hsn := hs _ (List.getElem_mem hk1)
        have cm := call118 l[k - 1].1 l[k].1 hsn.1 hsm.1
        simp [go_sem, len46, g0, g3, hlt', hix, ld86, ck, h2, -Int.natCast_add, w2, show 0 < k by omega, w3, hiy, cm, ld25i0]
        refine Ife_iff.2 ⟨fun h3 => ?_, fun h3 => ?_⟩
        · have hd : 5 = subEs none l := by simpa [thn, prev, hz, hk1, later, h3] using hd
          simp [go_sem]
          refine hR _ _ _ (.inr rfl) ⟨_, rfl, ?_⟩
          simp [go_sem, hb, ← hd]; exact snap_dat rfl rfl
        · have hd : subEs (some l[k].1) (l.drop (k + 1)) = subEs none l := by simpa [thn, prev, hz, hk1, later, h3] using hd
          simp [go_sem, g3, -Int.natCast_add, w2]
          exact ⟨l.length - (k + 1), by omega, k + 1, rfl, hlt, rfl, by simp [go_sem, g0, binds], by simp [go_sem], by rw [prev_succ hlt]; exact hd⟩
    · simp [go_sem, len46, g0, g3, hlt', hix, ld86, ck, h2]
      refine hR _ _ _ (.inr rfl) ⟨_, rfl, ?_⟩
      simp [thn, h2] at hd
      simp [go_sem, hb, ← hd]; exact snap_dat rfl rfl
  · have : k = l.length := by omega
    subst this
    rw [List.drop_length, subEs] at hd
    simp [go_sem, len46, g0, g3]
    refine hR _ _ _ (.inr rfl) ⟨_, rfl, ?_⟩
    simp [go_sem, hb, ← hd]; exact snap_dat rfl rfl
theorem dat_binds (l : List (T × T)) : dats [binds l] = some [binds l] := rfl
theorem short_binds (l : List (T × T)) : short (binds l) = true := rfl
theorem call67 (l : List (T × T)) (hs : small l) (h : H) : callV C h (.func 67 []) (some [binds l]) = some (.int .i64 (subE l), h) := callV_strip (by kernel_rfl) rfl (dat_binds _) (by simp [short_binds]) (by simp) (valid67 l hs)
def NI59 (l : List (T × T)) (n : Nat) (s : PT) (h : H) : Prop := ∃ k : Nat, n = l.length - k ∧ k ≤ l.length ∧ s.get 0 = binds l ∧ s.get 10 = binds l ∧ s.get 11 = .int .i64 l.length ∧ s.get 12 = .int .i64 k ∧ subEs (prev l k) (l.drop k) = subEs none l
set_option maxRecDepth 8000 in
set_option maxHeartbeats 2000000 in
theorem valid59 (l : List (T × T)) (hs : small l) : CallP C 59 [binds l] = some (.int .i64 (subE l)) := by
  refine CallP_W rfl Tryz.func59 rfl (by kernel_rfl) (by simp [Tryz.f59]) fun R hR => ?_
  simp +contextual [go_sem, initS, binds, len46]
  refine Ife_iff.2 ⟨fun h1 => ?_, fun h1 => ?_⟩
  · simp [go_sem]
    refine hR _ _ _ (.inr rfl) ⟨_, rfl, ?_⟩
    simp [go_sem, subE, show 200 < l.length by omega]; exact snap_dat rfl rfl
  have hb : subE l = subEs none l := by simp [subE, show ¬ 200 < l.length by omega]
  simp +contextual [go_sem, len46, binds]
  refine W_loop (NI59 l) l.length ⟨0, rfl, Nat.zero_le _, by simp [go_sem, initS, binds], by simp [go_sem, binds], by simp [go_sem], by simp [go_sem], rfl⟩ ?_
  rintro m s h ⟨k, rfl, hk, g0, g10, g11, g12, hd⟩
  simp only [binds] at g0 g10
  by_cases hlt : k < l.length
  · have hlt' : (k : Int) < l.length := by omega
    have hix := idx46 l k hlt .unk
    have hsm := hs _ (List.getElem_mem hlt)
    obtain ⟨b, hbe⟩ : ∃ b, b = l[k] := ⟨_, rfl⟩
    rw [← hbe] at hix hsm
    have c1 := call111 b.1 hsm.1
    have c2 := call111 b.2 hsm.2
    have c3 := call112 b.1 b.2 hsm.1 hsm.2
    have c4 := call113 b.1 b.2 hsm.1 hsm.2
    have w2 : IntKind.i64.wrap ((k : Int) + 1) = ((k + 1 : Nat) : Int) := by rw [wrap_in (by omega)]; omega
    rw [List.drop_eq_getElem_cons hlt, subEs, ← hbe] at hd
    have out : ∀ (s : PT) (h : H) (e : Int), s.get 2 = .int .i64 e → bindE b = e → e ≠ 0 → R .ret s h := fun s h e hs he hz => by
      refine hR _ _ _ (.inr rfl) ⟨.int .i64 e, by simp [resultV, resV, Tryz.f59, hs], ?_⟩
      simp [thn, he, hz] at hd
      rw [hb, ← hd]; exact snap_dat rfl rfl
    simp +contextual [go_sem, g0, g10, g11, g12, hlt', hix, ld86, st86, lb0, lb4, lbk, c1, c2, c3, c4]
    refine Ife_iff.2 ⟨fun k1 => ?_, fun k1 => ?_⟩
    · simp [go_sem]
      exact out _ _ (validE b.1) (by simp [go_sem]) (by simp [bindE, thn, k1]) k1
    simp only [Decidable.not_not] at k1
    simp +contextual [go_sem, lb0, lb4, lbk, c1, c2, c3, c4]
    refine Ife_iff.2 ⟨fun k2 => ?_, fun k2 => ?_⟩
    · simp [go_sem]
      exact out _ _ 1 (by simp [go_sem]) (by simp only [bindE, k1, thn]; rw [if_pos trivial, if_pos (by simpa using k2)]) (by simp)
    simp +contextual [go_sem, lb0, lb4, lbk, c1, c2, c3, c4]
    refine Ife_iff.2 ⟨fun k3 => ?_, fun k3 => ?_⟩
    · simp [go_sem]
      exact out _ _ (validE b.2) (by simp [go_sem]) (by simp only [bindE, k1, thn]; rw [if_pos trivial, if_neg (by simpa using k2), if_neg k3]) k3
    simp only [Decidable.not_not] at k3
    simp +contextual [go_sem, lb0, lb4, lbk, c1, c2, c3, c4]
    refine Ife_iff.2 ⟨fun k4 => ?_, fun k4 => ?_⟩
    · simp [go_sem]
      exact out _ _ 10 (by simp [go_sem]) (by simp only [bindE, k1, k3, thn]; rw [if_pos trivial, if_neg (by simpa using k2), if_pos trivial, if_neg (by simpa using k4)]) (by simp)
    have h2 : bindE b = 0 := by simp only [bindE, k1, k3, thn]; rw [if_pos trivial, if_neg (by simpa using k2), if_pos trivial, if_pos (by simpa using k4)]
    rw [h2] at hd
    by_cases hz : k = 0
    · have hp : later (prev l k) b.1 = false := by simp [prev, hz, later]
      have hd : subEs (some b.1) (l.drop (k + 1)) = subEs none l := by simpa [thn, hp] using hd
      simp +contextual [go_sem, g0, g10, g11, g12, -Int.natCast_add, w2, show ¬ 0 < k by omega]
      exact ⟨l.length - (k + 1), by omega, k + 1, rfl, hlt, by simp [go_sem, g0, binds], by simp [go_sem, g10, binds], by simp [go_sem, g11], by simp [go_sem], by rw [prev_succ hlt, ← hbe]; exact hd⟩
    · have hk1 : k - 1 < l.length := by omega
      have hiy := idx46 l (k - 1) hk1 .unk
      have w3 : IntKind.i64.wrap ((k : Int) - 1) = ((k - 1 : Nat) : Int) := by rw [wrap_in (by omega)]; omega
      have hsn := hs _ (List.getElem_mem hk1)
      have cm := call112 l[k - 1].1 b.1 hsn.1 hsm.1
      simp +contextual [go_sem, g0, g10, g11, g12, -Int.natCast_add, w2, show 0 < k by omega, w3, hiy, cm, ld25i0, lb0, lb4]
      refine Ife_iff.2 ⟨fun h3 => ?_, fun h3 => ?_⟩
      · have hd : 5 = subEs none l := by simpa [thn, prev, hz, hk1, later, h3] using hd
        simp [go_sem]
        refine hR _ _ _ (.inr rfl) ⟨.int .i64 5, by simp [resultV, resV, Tryz.f59, go_sem], ?_⟩
        rw [hb, ← hd]; exact snap_dat rfl rfl
      · have hd : subEs (some b.1) (l.drop (k + 1)) = subEs none l := by simpa [thn, prev, hz, hk1, later, h3] using hd
        simp [go_sem, g12, -Int.natCast_add, w2]
        exact ⟨l.length - (k + 1), by omega, k + 1, rfl, hlt, by simp [go_sem, g0, binds], by simp [go_sem, g10, binds], by simp [go_sem, g11], by simp [go_sem], by rw [prev_succ hlt, ← hbe]; exact hd⟩
  · have : k = l.length := by omega
    subst this
    rw [List.drop_length, subEs] at hd
    simp [go_sem, g0, g10, g11, g12]
    refine hR _ _ _ (.inr rfl) ⟨.int .i64 0, by simp [resultV, resV, Tryz.f59, go_sem], ?_⟩
    rw [hb, ← hd]; exact snap_dat rfl rfl
theorem call59 (l : List (T × T)) (hs : small l) (h : H) : callV C h (.func 59 []) (some [binds l]) = some (.int .i64 (subE l), h) := callV_strip (by kernel_rfl) rfl (dat_binds _) (by simp [short_binds]) (by simp) (valid59 l hs)
end Go.VZ
