/- Validity of terms: the program's way. -/
import Derived.Test.YtdoegkegjaadeaaGreatDoorQSa
namespace Go.VZ
open Go Go.V Go.Proofs TL
theorem callV_open {f : FuncId} {args : List AV} {h : H} (hb : hasBody C.P f = true) (hm : C.mode f = .openH) : callV C h (.func f []) (some args) = Go.V.Call C f args h := by
  simp only [callV, hb, if_true, List.append_nil]
  unfold applyCall
  rw [hm]
theorem ldp3 {h : H} {p : Nat} {x : AV} {_st : OSt} (hp : h[p]? = some (.cells [x] .live)) : loadV C.P h 3 (.ptr p 0) = some x := by simp [loadV, hp, cellsAt, a3, s3]
theorem stp3 {h : H} {p : Nat} {x : AV} (v : Int) (hp : h[p]? = some (.cells [x] .live)) : storeV C.P h 3 (.ptr p 0) (.int .i64 v) = some (h.set p (.cells [.int .i64 v] .live)) := by simp [storeV, hp, s3]
/-- Memory as it was, but for two numbers and what is new. -/
def Two (h h' : H) (p q : Nat) (n d : Int) : Prop := h.length ≤ h'.length ∧ (∀ i, i < h.length → i ≠ p → i ≠ q → h'[i]? = h[i]?) ∧ h'[p]? = some (.cells [.int .i64 n] .live) ∧ h'[q]? = some (.cells [.int .i64 d] .live)
theorem Two.trans {h h1 h2 : H} {p q : Nat} {n d n' d' : Int} (_hp : p < h.length) (_hq : q < h.length) (a : Two h h1 p q n d) (b : Two h1 h2 p q n' d') : Two h h2 p q n' d' :=
  ⟨Nat.le_trans a.1 b.1, fun i hi h1 h2 => (b.2.1 i (Nat.lt_of_lt_of_le hi a.1) h1 h2).trans (a.2.1 i hi h1 h2), b.2.2.1, b.2.2.2⟩
theorem Two.push {h h1 : H} {p q : Nat} {n d : Int} (a : Two h h1 p q n d) (hp : p < h.length) (hq : q < h.length) (x : List VObj) : Two h (h1 ++ x) p q n d := by
  obtain ⟨a1, a2, a3, a4⟩ := a
  refine ⟨by simp; omega, fun i hi h1' h2' => ?_, ?_, ?_⟩
  · rw [List.getElem?_append_left (by omega)]; exact a2 i hi h1' h2'
  · rw [List.getElem?_append_left (by omega)]; exact a3
  · rw [List.getElem?_append_left (by omega)]; exact a4
theorem fa25 (i : Nat) : ∀ (j o : Nat), (j, o) ∈ [(0,0),(1,1),(2,2),(3,3)] → fieldAddrV C.P 25 (.ptr i 0) j = some (.ptr i o) := by
  intro j o h
  simp at h
  rcases h with ⟨rfl, rfl⟩ | ⟨rfl, rfl⟩ | ⟨rfl, rfl⟩ | ⟨rfl, rfl⟩
  · exact fa25_0 i
  · exact fa25_1 i
  · exact fa25_2 i
  · exact fa25_3 i
theorem ldtc {h : H} {b : Nat} {t : T} (hb : h[b]? = some (.cells (tc t) .live)) : loadV C.P h 3 (.ptr b 0) = some (.int .i64 t.kind) ∧ loadV C.P h 9 (.ptr b 1) = some (.str t.name) ∧ loadV C.P h 3 (.ptr b 2) = some (.int .i64 t.sort) ∧ loadV C.P h 23 (.ptr b 3) = some (.isl (t.kids.map enc) .unk) ∧ loadV C.P h 25 (.ptr b 0) = some (enc t) := by
  refine ⟨?_, ?_, ?_, ?_, ?_⟩
  · simp [loadV, hb, cellsAt, a3, s3, tc]
  · simp [loadV, hb, cellsAt, a9, s9, tc]
  · simp [loadV, hb, cellsAt, a3, s3, tc]
  · simp [loadV, hb, cellsAt, a23, s23, tc]
  · simp [loadV, hb, cellsAt, a25, s25, tc]; rw [enc_eq]; rfl
theorem nilCheck_ptr (P : Program) (s : PT) (d : Option Tmp) (x : Operand) (ty : TypeId) (p : String) (af : Array Edge) (i o : Nat) (hx : ev s x = some (.ptr i o)) : opN P s ⟨d, .nilCheck x, ty, p, af, none⟩ = some (.ptr i o) := by simp [opN, hx]
/-- What a check of nil comes to. -/
def nilV : AV → Option AV
  | .ptr i n => some (.ptr i n)
  | .iptr e n => some (.iptr e n)
  | .func f c => some (.func f c)
  | _ => none
@[go_sem] theorem nilV_ptr (i n : Nat) : nilV (.ptr i n) = some (.ptr i n) := (rfl)
@[go_sem] theorem OWnilCheck {C : Cfg} {cf : FuncId} {ops : Array Oper} {d : Tmp} {ty : TypeId} {p : String} {af : Array Edge} {l : List Oper} {s : PT} {h : H} {K : PT → H → Prop} (x : Operand) :
    OW C cf ops (⟨some d, .nilCheck x, ty, p, af, none⟩ :: l) s h K ↔ bO (bi1 (ev s x) nilV) fun v => OW C cf ops l (s.set d v) h K := OWn (by simp only [opN, bi1, nilV]; cases ev s x <;> first | rfl | (rename_i c; cases c <;> rfl)) rfl rfl
theorem badN_iff (t : T) : badN t = true ↔ (t.kind ≠ 1 ∧ t.kind ≠ 2 ∧ t.kind ≠ 3) ∨ t.sort < 0 ∨ 5 < t.sort ∨ (t.kind ≠ 1 ∧ t.kind ≠ 2 ∧ t.sort ≠ 0) ∨ ((t.kind = 1 ∨ t.kind = 2) ∧ 0 < t.kids.length) := by
  simp only [badN, Bool.or_eq_true, Bool.and_eq_true, decide_eq_true_eq, or_assoc, and_assoc]
theorem bad_false {t : T} (h : ¬ badN t = true) : badN t = false := by simpa using h
def NI170 (t : T) (h0 : H) (p q : Nat) (n d lvl : Int) (m : Nat) (s : PT) (h : H) : Prop := ∃ k : Nat, ∃ cur : Int, m = t.kids.length - k ∧ k ≤ t.kids.length ∧ Two h0 h p q (n + 1 + sizes (t.kids.take k)) cur ∧
  s.get 1 = .int .i64 lvl ∧ s.get 2 = .ptr p 0 ∧ s.get 3 = .ptr q 0 ∧ s.get 57 = .isl (t.kids.map enc) .unk ∧ s.get 58 = .int .i64 t.kids.length ∧ s.get 59 = .int .i64 k ∧ nodesEs (t.kids.drop k) = nodesE t ∧
  lvl ≤ cur ∧ max cur (lvl + depths (t.kids.drop k)) = max d (lvl + depths t.kids)
/-- What the check says. -/
def Chk (t : T) : Prop := ∀ (h : H) (p q : Nat) (n d lvl : Int), p ≠ q → h[p]? = some (.cells [.int .i64 n] .live) → h[q]? = some (.cells [.int .i64 d] .live) → 0 ≤ n → n + t.size < 1000000000 → 0 ≤ d → d < 1000000000 → 0 ≤ lvl → lvl + t.size < 1000000000 →
  ∃ r h', Go.V.Call C 170 [enc t, .int .i64 lvl, .ptr p 0, .ptr q 0] h = some (r, h') ∧ r = .int .i64 (nodesE t) ∧ ∃ n' d', Two h h' p q n' d' ∧ 0 ≤ n' ∧ n' ≤ n + t.size ∧ 0 ≤ d' ∧ d' < 1000000000 ∧ (nodesE t = 0 → n' = n + t.size ∧ d' = max d (lvl + t.depth - 1))
set_option maxHeartbeats 4000000 in
theorem check170 (t : T) (hc : ∀ k ∈ t.kids, Chk k) : Chk t := by
  intro h p q n d lvl hpq hp hq hn0 hn1 hd0 hd1 hl0 hl1
  refine Call_WQ (Q := fun r h' => r = .int .i64 (nodesE t) ∧ ∃ n' d', Two h h' p q n' d' ∧ 0 ≤ n' ∧ n' ≤ n + t.size ∧ 0 ≤ d' ∧ d' < 1000000000 ∧ (nodesE t = 0 → n' = n + t.size ∧ d' = max d (lvl + t.depth - 1))) rfl Tryz.func170 rfl (by kernel_rfl) (by simp [Tryz.f170]) fun R hR => ?_
  have hpl := (List.getElem?_eq_some_iff.1 hp).1
  have hql := (List.getElem?_eq_some_iff.1 hq).1
  have hsz := size_kids t
  have hlen := len_sizes t.kids
  have hde := depth_eq t
  have hdl := (depth_le t).1
  have hne := nodesE_eq t
  have T0 : Two h (h ++ [.cells (tc t) .live]) p q n d := Two.push ⟨Nat.le_refl _, fun i _ _ _ => rfl, hp, hq⟩ hpl hql _
  have hb0 : (h ++ [.cells (tc t) .live])[h.length]? = some (.cells (tc t) .live) := by simp
  obtain ⟨g0, hg0⟩ : ∃ g, g = h ++ [.cells (tc t) .live] := ⟨_, rfl⟩
  have bx : boxV C.P h 25 (enc t) = some (.ptr h.length 0, g0) := by rw [box25, hg0]; rfl
  rw [← hg0] at T0 hb0
  have w1 : IntKind.i64.wrap (n + 1) = n + 1 := wrap_in (by omega)
  have T1 : Two h (g0.set p (.cells [.int .i64 (n + 1)] .live)) p q (n + 1) d := by
    obtain ⟨a1, a2, a3, a4⟩ := T0
    exact ⟨by simpa using a1, fun i hi h1 h2 => by rw [List.getElem?_set_ne (fun e => h1 e.symm)]; exact a2 i hi h1 h2, List.getElem?_set_self (by omega), by rw [List.getElem?_set_ne hpq]; exact a4⟩
  have hb1 : (g0.set p (.cells [.int .i64 (n + 1)] .live))[h.length]? = some (.cells (tc t) .live) := by rw [List.getElem?_set_ne (by omega)]; exact hb0
  have e1 := ldp3 (_st := .live) T0.2.2.1
  have e2 := stp3 (n + 1) T0.2.2.1
  obtain ⟨g1, hg1⟩ : ∃ g, g = g0.set p (.cells [.int .i64 (n + 1)] .live) := ⟨_, rfl⟩
  rw [← hg1] at T1 hb1 e2
  have e3 := ldp3 (_st := .live) T1.2.2.2
  have e4 := stp3 (max d lvl) T1.2.2.2
  have T2 : Two h (g1.set q (.cells [.int .i64 (max d lvl)] .live)) p q (n + 1) (max d lvl) := by
    obtain ⟨a1, a2, a3, a4⟩ := T1
    exact ⟨by simpa using a1, fun i hi h1 h2 => by rw [List.getElem?_set_ne (fun e => h2 e.symm)]; exact a2 i hi h1 h2, by rw [List.getElem?_set_ne (fun e => hpq e.symm)]; exact a3, List.getElem?_set_self (by omega)⟩
  have hb2 : (g1.set q (.cells [.int .i64 (max d lvl)] .live))[h.length]? = some (.cells (tc t) .live) := by rw [List.getElem?_set_ne (by omega)]; exact hb1
  obtain ⟨g2, hg2⟩ : ∃ g, g = g1.set q (.cells [.int .i64 (max d lvl)] .live) := ⟨_, rfl⟩
  rw [← hg2] at T2 hb2 e4
  obtain ⟨l1, l2, l3, l4, _⟩ := ldtc hb2
  have c1 := call232 t.name
  have fin : ∀ e, nodeE t = e → e ≠ 0 → nodesE t = e := fun e h1 h2 => by rw [hne, h1]; simp [thn, h2]
  have out : ∀ (s : PT), (s.get 8 = .int .i64 (nodesE t)) → nodesE t ≠ 0 → R .ret s g2 := fun s hs hz => by
    refine hR _ _ _ (.inr rfl) ⟨.int .i64 (nodesE t), by simp [resultV, resV, Tryz.f170, hs], rfl, n + 1, max d lvl, T2, by omega, by omega, by omega, by omega, fun e => absurd e hz⟩
  have kk : t.kind = 1 ∨ t.kind = 2 ∨ t.kind = 3 ∨ (t.kind ≠ 1 ∧ t.kind ≠ 2 ∧ t.kind ≠ 3) := by omega
  have bad1 : badN t = true → nodesE t = 1 := fun hb => fin 1 (by simp [nodeE, hb]) (by simp)
  rcases kk with hk | hk | hk | ⟨hk1, hk2, hk3⟩
  rotate_left 3
  · have hb := bad1 ((badN_iff t).2 (.inl ⟨hk1, hk2, hk3⟩))
    simp +contextual [go_sem, bx, e1, e2, e3, e4, w1, max_int, l1, hk1, hk2, hk3]
    exact out _ (by simp [go_sem, hb]) (by rw [hb]; simp)
  all_goals
    simp +contextual [go_sem, bx, e1, e2, e3, e4, w1, max_int, l1, l3, l4, len23, hk]
    refine Ife_iff.2 ⟨fun h1 => ?_, fun h1 => ?_⟩
    · have hb := bad1 ((badN_iff t).2 (by omega))
      simp [go_sem]
      exact out _ (by simp [go_sem, hb]) (by rw [hb]; simp)
    have hnb := bad_false (t := t) (fun hb => by have := (badN_iff t).1 hb; omega)
    simp +contextual [go_sem, l2, c1]
    refine Ife_iff.2 ⟨fun h2 => ?_, fun h2 => ?_⟩
    · have hb := fin 2 (by simp [nodeE, hnb, h2]) (by simp)
      simp [go_sem]
      exact out _ (by simp [go_sem, hb]) (by rw [hb]; simp)
    simp at h2
    simp +contextual [go_sem, l4, len23]
    refine Ife_iff.2 ⟨fun h3 => ?_, fun h3 => ?_⟩
    · have hb := fin 3 (by simp [nodeE, hnb, h2, show 8 < t.kids.length by omega]) (by simp)
      simp [go_sem]
      exact out _ (by simp [go_sem, hb]) (by rw [hb]; simp)
    have hn0' : nodeE t = 0 := by simp [nodeE, hnb, h2, show ¬ 8 < t.kids.length by omega]
    simp +contextual [go_sem, l4, len23]
    refine W_loop (NI170 t h p q n d lvl) t.kids.length ⟨0, max d lvl, rfl, Nat.zero_le _, by simpa [sizes] using T2, by simp [go_sem], by simp [go_sem], by simp [go_sem], by simp [go_sem], by simp [go_sem], by simp [go_sem], by rw [hne, hn0']; rfl, by omega, by simp only [List.drop_zero]; omega⟩ ?_
    rintro m s hh ⟨k, cur, rfl, hkl, TT, g1', g2', g3', g57, g58, g59, hd, hcl, hcm⟩
    by_cases hlt : k < t.kids.length
    · have hlt' : (k : Int) < t.kids.length := by omega
      have hix := idx23 t.kids k hlt .unk
      have t1 := take_sizes hlt
      have t2 := take_sizes_le t.kids (k + 1)
      have ksz := kid_size (List.getElem_mem hlt)
      have w2 : IntKind.i64.wrap ((k : Int) + 1) = ((k + 1 : Nat) : Int) := by rw [wrap_in (by omega)]; omega
      have w3 : IntKind.i64.wrap (lvl + 1) = lvl + 1 := wrap_in (by omega)
      have TT' := TT.push hpl hql [.cells [.int .i64 t.kids[k].kind, .str t.kids[k].name, .int .i64 t.kids[k].sort, terms t.kids[k].kids] .live]
      obtain ⟨hz, ehz⟩ : ∃ g, g = hh ++ [.cells [.int .i64 t.kids[k].kind, .str t.kids[k].name, .int .i64 t.kids[k].sort, terms t.kids[k].kids] .live] := ⟨_, rfl⟩
      rw [← ehz] at TT'
      have hpl' : p < hz.length := by have := TT'.1; omega
      have hql' : q < hz.length := by have := TT'.1; omega
      obtain ⟨r, h', cc, rfl, n', d', T3, u1, u2, u3, u4, u5⟩ := hc _ (List.getElem_mem hlt) hz p q (n + 1 + sizes (t.kids.take k)) cur (lvl + 1) hpq TT'.2.2.1 TT'.2.2.2 (by omega) (by omega) (by omega) (by omega) (by omega) (by omega)
      have cv := (callV_open (f := 170) (by kernel_rfl) rfl).trans cc
      rw [ehz] at cv
      have T4 := Two.trans hpl hql TT' T3
      rw [List.drop_eq_getElem_cons hlt, nodesEs] at hd
      rw [List.drop_eq_getElem_cons hlt, depths] at hcm
      have kdl := depth_le t.kids[k]
      by_cases h4 : nodesE t.kids[k] = 0
      · rw [h4] at hd cv
        obtain ⟨u6, u7⟩ := u5 h4
        simp [go_sem, g1', g2', g3', g57, g58, g59, hlt', hix, ld25, st25, ldb25, -Int.natCast_add, w2, w3, cv]
        exact ⟨t.kids.length - (k + 1), by omega, k + 1, d', rfl, hlt, by rw [show n + 1 + sizes (t.kids.take (k + 1)) = n' by omega]; exact T4, by simp [go_sem, g1'], by simp [go_sem, g2'], by simp [go_sem, g3'], by simp [go_sem, g57], by simp [go_sem, g58], by simp [go_sem], hd, by omega, by omega⟩
      · have hne2 : nodesE t.kids[k] = nodesE t := by rw [← hd]; simp [thn, h4]
        simp [go_sem, g1', g2', g3', g57, g58, g59, hlt', hix, ld25, st25, ldb25, -Int.natCast_add, w3, cv, h4]
        refine hR _ _ _ (.inr rfl) ⟨.int .i64 (nodesE t), by simp [resultV, resV, Tryz.f170, go_sem, hne2], rfl, _, _, T4, by omega, by omega, by omega, by omega, fun e => absurd (hne2.trans e) h4⟩
    · have : k = t.kids.length := by omega
      subst this
      rw [List.take_length] at TT
      rw [List.drop_length, depths] at hcm
      rw [List.drop_length, nodesEs] at hd
      simp [go_sem, g58, g59]
      refine hR _ _ _ (.inr rfl) ⟨.int .i64 (nodesE t), by simp [resultV, resV, Tryz.f170, go_sem, ← hd], rfl, _, _, TT, by omega, by omega, by omega, by omega, fun _ => ⟨by omega, by omega⟩⟩
end Go.VZ

/- Valid of terms and Fits, both ways. -/
namespace Go.VZ
open Go Go.V Go.Proofs TL
theorem check170_all (t : T) : Chk t := by
  induction t using T.ind with
  | _ t ih => exact check170 t ih
theorem ld25c (t : T) (l : List VObj) : loadV C.P (.cells [.int .i64 t.kind, .str t.name, .int .i64 t.sort, .isl (t.kids.map enc) .unk] .live :: l) 25 (.ptr 0 0) = some (enc t) := by
  simp [loadV, cellsAt, a25, s25]; rw [enc_eq]; rfl
theorem ld25d (x : VObj) (t : T) (l : List VObj) : loadV C.P (x :: .cells [.int .i64 t.kind, .str t.name, .int .i64 t.sort, .isl (t.kids.map enc) .unk] .live :: l) 25 (.ptr 1 0) = some (enc t) := by
  simp [loadV, cellsAt, a25, s25]; rw [enc_eq]; rfl
@[go_sem] theorem ld3c0 (k s : Int) (n x : AV) (l : List VObj) : loadV C.P (.cells [.int .i64 k, n, .int .i64 s, x] .live :: l) 3 (.ptr 0 0) = some (.int .i64 k) := by simp [loadV, cellsAt, a3, s3]
@[go_sem] theorem ld3c2 (k s : Int) (n x : AV) (l : List VObj) : loadV C.P (.cells [.int .i64 k, n, .int .i64 s, x] .live :: l) 3 (.ptr 0 2) = some (.int .i64 s) := by simp [loadV, cellsAt, a3, s3]
@[go_sem] theorem ld3d0 (k s : Int) (n x : AV) (y : VObj) (l : List VObj) : loadV C.P (y :: .cells [.int .i64 k, n, .int .i64 s, x] .live :: l) 3 (.ptr 1 0) = some (.int .i64 k) := by simp [loadV, cellsAt, a3, s3]
@[go_sem] theorem ld3d2 (k s : Int) (n x : AV) (y : VObj) (l : List VObj) : loadV C.P (y :: .cells [.int .i64 k, n, .int .i64 s, x] .live :: l) 3 (.ptr 1 2) = some (.int .i64 s) := by simp [loadV, cellsAt, a3, s3]
@[go_sem] theorem zv3 : zeroV C.P 3 = some (.int .i64 0) := by kernel_rfl
@[go_sem] theorem cells_int (v : Int) : (AV.int .i64 v).cells = [.int .i64 v] := (rfl)
set_option maxRecDepth 8000 in
set_option maxHeartbeats 1000000 in
theorem valid111 (t : T) (hs : t.size < 4000000) : CallP C 111 [enc t] = some (.int .i64 (validE t)) := by
  refine CallP_W rfl Tryz.func111 rfl (by kernel_rfl) (by simp [Tryz.f111]) fun R hR => ?_
  obtain ⟨r, h', cc, rfl, n', d', T3, u1, u2, u3, u4, u5⟩ := check170_all t [.cells (tc t) .live, .cells [.int .i64 0] .live, .cells [.int .i64 0] .live] 1 2 0 0 1 (by omega) rfl rfl (by omega) (by omega) (by omega) (by omega) (by omega) (by omega)
  have cv := (callV_open (f := 170) (by kernel_rfl) rfl).trans cc
  have l1 := ldp3 (_st := .live) T3.2.2.1
  have l2 := ldp3 (_st := .live) T3.2.2.2
  have hdp := depth_le t
  simp only [tc] at cv
  have s1 := fun x : VObj => stp3 (h := [x, .cells [.int .i64 0] .live, .cells [.int .i64 0] .live]) (p := 1) (x := .int .i64 0) 0 rfl
  have s2 := fun x : VObj => stp3 (h := [x, .cells [.int .i64 0] .live, .cells [.int .i64 0] .live]) (p := 2) (x := .int .i64 0) 0 rfl
  simp only [List.set] at s1 s2
  simp +contextual [go_sem, terms, ld25c, cv, s1, s2]
  refine Ife_iff.2 ⟨fun h1 => ?_, fun h1 => ?_⟩
  · simp [go_sem]
    refine hR _ _ _ (.inr rfl) ⟨_, rfl, ?_⟩
    simp [go_sem, validE, thn, h1]; exact snap_dat rfl rfl
  simp only [Decidable.not_not] at h1
  obtain ⟨u6, u7⟩ := u5 h1
  simp +contextual [go_sem, l1, l2]
  refine Ife_iff.2 ⟨fun h2 => ?_, fun h2 => ?_⟩
  · simp [go_sem]
    refine hR _ _ _ (.inr rfl) ⟨_, rfl, ?_⟩
    simp [go_sem, validE, thn, h1, show 400 < t.size ∨ 40 < t.depth by omega]; exact snap_dat rfl rfl
  · simp [go_sem]
    refine hR _ _ _ (.inr rfl) ⟨_, rfl, ?_⟩
    simp [go_sem, validE, thn, h1, show ¬ (400 < t.size ∨ 40 < t.depth) by omega]; exact snap_dat rfl rfl
theorem call111 (t : T) (hs : t.size < 4000000) (h : H) : callV C h (.func 111 []) (some [enc t]) = some (.int .i64 (validE t), h) := callV_strip (by kernel_rfl) rfl (dat_enc _) (by simp [short_enc]) (by simp) (valid111 t hs)
theorem kind_valid {t : T} (h : validE t = 0) : t.kind = 1 ∨ t.kind = 2 ∨ t.kind = 3 := by
  by_cases hk : t.kind = 1 ∨ t.kind = 2 ∨ t.kind = 3
  · exact hk
  · have hb : badN t = true := (badN_iff t).2 (.inl (by omega))
    have h1 : nodesE t = 1 := by rw [nodesE_eq]; simp [nodeE, hb, thn]
    simp [validE, h1, thn] at h
/-- What Fits says. -/
def fitsB (a b : T) : Bool := decide (validE a = 0) && decide (validE b = 0) && decide (a.kind = 1) && (decide (a.sort = 0) || (decide (b.kind ≠ 3) && decide (b.sort = a.sort)))
set_option maxRecDepth 8000 in
set_option maxHeartbeats 1000000 in
theorem fits113 (a b : T) (hs : a.size < 4000000) (hb : b.size < 4000000) : CallP C 113 [enc a, enc b] = some (.bool (fitsB a b)) := by
  refine CallP_W rfl Tryz.func113 rfl (by kernel_rfl) (by simp [Tryz.f113]) fun R hR => ?_
  have c1 := call111 a hs
  have c2 := call111 b hb
  simp +contextual [go_sem, terms, ld25c, ld25d, c1, c2]
  refine Ife_iff.2 ⟨fun h1 => ?_, fun h1 => ?_⟩
  · simp +contextual [go_sem]
    refine hR _ _ _ (.inr rfl) ⟨_, rfl, ?_⟩
    have : fitsB a b = false := by
      simp only [fitsB, Bool.and_eq_false_iff, decide_eq_false_iff_not]; omega
    simp [go_sem, this]; exact snap_dat rfl rfl
  · simp +contextual [go_sem]
    refine hR _ _ _ (.inr rfl) ⟨_, rfl, ?_⟩
    simp [go_sem]
    have : fitsB a b = (decide (a.sort = 0) || !decide (b.kind = 3) && decide (b.sort = a.sort)) := by
      simp only [not_or, Decidable.not_not] at h1
      simp [fitsB, h1]
    rw [this]; exact snap_dat rfl rfl
theorem call113 (a b : T) (hs : a.size < 4000000) (hb : b.size < 4000000) (h : H) : callV C h (.func 113 []) (some [enc a, enc b]) = some (.bool (fitsB a b), h) := callV_strip (by kernel_rfl) rfl (dat_enc2 _ _) (by simp [short_enc]) (by simp) (fits113 a b hs hb)
theorem dat_encI (t : T) (n : Int) : dats [enc t, .int .i64 n] = some [enc t, .int .i64 n] := by rw [enc_eq]; rfl
theorem short_int (n : Int) : short (.int .i64 n) = true := rfl
theorem leaf234 (t : T) (n : Int) : CallP C 234 [enc t, .int .i64 n] = some (.bool ((decide (t.kind = 1) || decide (t.kind = 2)) && decide (t.sort = n))) := by
  refine CallP_W rfl Tryz.func234 rfl (by kernel_rfl) (by simp [Tryz.f234]) fun R hR => ?_
  simp +contextual [go_sem, initS, terms]
  refine hR _ _ _ (.inr rfl) ⟨_, rfl, ?_⟩
  simp [go_sem]; exact snap_dat rfl rfl
theorem call234 (t : T) (n : Int) (h : H) : callV C h (.func 234 []) (some [enc t, .int .i64 n]) = some (.bool ((decide (t.kind = 1) || decide (t.kind = 2)) && decide (t.sort = n)), h) := callV_strip (by kernel_rfl) rfl (dat_encI _ _) (by simp [short_enc, short_int]) (by simp) (leaf234 t n)
set_option maxRecDepth 8000 in
set_option maxHeartbeats 1000000 in
theorem fits175 (a b : T) (hs : a.size < 4000000) (hb : b.size < 4000000) : CallP C 175 [enc a, enc b] = some (.bool (fitsB a b)) := by
  refine CallP_W rfl Tryz.func175 rfl (by kernel_rfl) (by simp [Tryz.f175]) fun R hR => ?_
  have c1 := call86 a hs
  have c2 := call86 b hb
  simp +contextual [go_sem, terms, ld25c, ld25d, c1, c2]
  refine Ife_iff.2 ⟨fun h1 => ?_, fun h1 => ?_⟩
  · simp +contextual [go_sem]
    refine hR _ _ _ (.inr rfl) ⟨_, rfl, ?_⟩
    have : fitsB a b = false := by
      simp only [fitsB, Bool.and_eq_false_iff, decide_eq_false_iff_not]; omega
    simp [go_sem, this]; exact snap_dat rfl rfl
  · simp +contextual [go_sem, ld25d, call234]
    refine hR _ _ _ (.inr rfl) ⟨_, rfl, ?_⟩
    simp [go_sem]
    have hb0 : validE b = 0 := by omega
    have kb := kind_valid hb0
    have : fitsB a b = (decide (a.sort = 0) || (decide (b.kind = 1) || decide (b.kind = 2)) && decide (b.sort = a.sort)) := by
      simp only [not_or, Decidable.not_not] at h1
      rcases kb with k | k | k <;> simp [fitsB, h1, k]
    rw [this]; exact snap_dat rfl rfl
theorem call175 (a b : T) (hs : a.size < 4000000) (hb : b.size < 4000000) (h : H) : callV C h (.func 175 []) (some [enc a, enc b]) = some (.bool (fitsB a b), h) := callV_strip (by kernel_rfl) rfl (dat_enc2 _ _) (by simp [short_enc]) (by simp) (fits175 a b hs hb)
end Go.VZ

/- Budgets of the document. -/
namespace Go.VZ
open Go Go.V Go.Proofs TL
mutual
def budget : T → Int → Int
  | .mk _ nm _ l, n => if n ≤ 0 ∨ 40 < (nm.size : Int) then -1 else budgets l (n - 1)
def budgets : List T → Int → Int
  | [], n => n
  | t :: l, n => if budget t n < 0 then -1 else budgets l (budget t n)
end
theorem budget_eq (t : T) (n : Int) : budget t n = if n ≤ 0 ∨ 40 < (t.name.size : Int) then -1 else budgets t.kids (n - 1) := by cases t; rw [budget]; rfl
theorem budgets_of {l : List T} (ih : ∀ t ∈ l, ∀ n : Int, -1 ≤ budget t n ∧ (0 ≤ budget t n → budget t n + t.size = n)) : ∀ n : Int, -1 ≤ n → -1 ≤ budgets l n ∧ (0 ≤ budgets l n → budgets l n + sizes l = n) := by
  induction l with
  | nil => intro n hn; rw [budgets, sizes]; exact ⟨hn, fun _ => by omega⟩
  | cons a l ihl =>
    intro n hn
    have h1 := ih a (by simp) n
    have h2 := ihl (fun t ht => ih t (by simp [ht])) (budget a n) h1.1
    rw [budgets, sizes]
    split
    · exact ⟨by omega, fun h => by omega⟩
    · exact ⟨h2.1, fun h => by have := h2.2 h; have := h1.2 (by omega); omega⟩
theorem budget_law (t : T) : ∀ n : Int, -1 ≤ budget t n ∧ (0 ≤ budget t n → budget t n + t.size = n) := by
  induction t using T.ind with
  | _ t ih =>
    intro n
    rw [budget_eq]
    split
    · exact ⟨by omega, fun h => by omega⟩
    · rename_i h
      have hb := budgets_of ih (n - 1) (by omega)
      have := size_kids t
      exact ⟨hb.1, fun h => by have := hb.2 h; omega⟩
theorem budgets_law (l : List T) (n : Int) (hn : -1 ≤ n) : -1 ≤ budgets l n ∧ (0 ≤ budgets l n → budgets l n + sizes l = n) := budgets_of (fun t _ => budget_law t) n hn
/-- What is left after the first k. -/
def NI29 (t : T) (n0 : Int) (m : Nat) (s : PT) (h : H) : Prop := ∃ k : Nat, ∃ n : Int, m = t.kids.length - k ∧ k ≤ t.kids.length ∧ h = [.cells (tc t) .live] ∧ s.get 2 = .ptr 0 0 ∧ s.get 1 = .int .i64 n ∧ s.get 5 = .int .i64 k ∧ 0 ≤ n ∧ n + k ≤ n0 ∧ budgets (t.kids.drop k) n = budget t n0
set_option maxHeartbeats 1000000 in
theorem budget29 (t : T) (hc : ∀ k ∈ t.kids, ∀ n : Int, n < 4000000 → CallP C 29 [enc k, .int .i64 n] = some (.int .i64 (budget k n))) (n : Int) (hn : n < 4000000) : CallP C 29 [enc t, .int .i64 n] = some (.int .i64 (budget t n)) := by
  refine CallP_W rfl Tryz.func29 rfl (by kernel_rfl) (by simp [Tryz.f29]) fun R hR => ?_
  simp +contextual [go_sem, terms, ld9n, len9]
  refine Ife_iff.2 ⟨fun h1 => ?_, fun h1 => ?_⟩
  · simp [go_sem]
    refine hR _ _ _ (.inr rfl) ⟨_, rfl, ?_⟩
    have : budget t n = -1 := by rw [budget_eq, if_pos h1]
    simp [go_sem, this]; exact snap_dat rfl rfl
  have hb : budget t n = budgets t.kids (n - 1) := by rw [budget_eq, if_neg h1]
  have w1 : IntKind.i64.wrap (n - 1) = n - 1 := wrap_in (by omega)
  simp +contextual [go_sem, w1]
  refine W_loop (NI29 t n) t.kids.length ⟨0, n - 1, rfl, Nat.zero_le _, rfl, by simp [go_sem], by simp [go_sem], by simp [go_sem], by omega, by omega, hb.symm⟩ ?_
  rintro m s h ⟨k, c, rfl, hk, rfl, g2, g1, g5, hc0, hcn, hd⟩
  by_cases hlt : k < t.kids.length
  · have hlt' : (k : Int) < t.kids.length := by omega
    have hix := idx23 t.kids k hlt .unk
    have ck : ∀ h, callV C h (.func 29 []) (some [enc t.kids[k], .int .i64 c]) = some (.int .i64 (budget t.kids[k] c), h) := fun h => callV_strip (by kernel_rfl) rfl (dat_encI _ _) (by simp [short_enc, short_int]) (by simp) (hc _ (List.getElem_mem hlt) c (by omega))
    have hbl := budget_law t.kids[k] c
    have w2 : IntKind.i64.wrap ((k : Int) + 1) = ((k + 1 : Nat) : Int) := by rw [wrap_in (by omega)]; omega
    have hsz := size_kids t.kids[k]
    rw [List.drop_eq_getElem_cons hlt, budgets] at hd
    by_cases h2 : budget t.kids[k] c < 0
    · rw [if_pos h2] at hd
      simp [go_sem, tc, ld23q, len23, g1, g2, g5, hlt', hix, ld25, ck, h2]
      refine hR _ _ _ (.inr rfl) ⟨_, rfl, ?_⟩
      simp [go_sem, ← hd]; exact snap_dat rfl rfl
    · rw [if_neg h2] at hd
      have := hbl.2 (by omega)
      simp [go_sem, tc, ld23q, len23, g1, g2, g5, hlt', hix, ld25, ck, h2, -Int.natCast_add, w2]
      exact ⟨t.kids.length - (k + 1), by omega, k + 1, _, rfl, hlt, rfl, by simp [go_sem, g2], by simp [go_sem], by simp [go_sem], by omega, by omega, hd⟩
  · have : k = t.kids.length := by omega
    subst this
    rw [List.drop_length, budgets] at hd
    simp [go_sem, tc, ld23q, len23, g1, g2, g5]
    refine hR _ _ _ (.inr rfl) ⟨_, rfl, ?_⟩
    simp [go_sem, ← hd]; exact snap_dat rfl rfl
theorem budget29_all (t : T) : ∀ n : Int, n < 4000000 → CallP C 29 [enc t, .int .i64 n] = some (.int .i64 (budget t n)) := by
  induction t using T.ind with
  | _ t ih => exact budget29 t ih
theorem call29 (t : T) (n : Int) (hn : n < 4000000) (h : H) : callV C h (.func 29 []) (some [enc t, .int .i64 n]) = some (.int .i64 (budget t n), h) := callV_strip (by kernel_rfl) rfl (dat_encI _ _) (by simp [short_enc, short_int]) (by simp) (budget29_all t n hn)
def fewT (l : List T) (c n : Int) : Bool := decide ((l.length : Int) ≤ c) && decide (0 ≤ budgets l n)
def NI9 (l : List T) (n0 : Int) (m : Nat) (s : PT) (h : H) : Prop := ∃ k : Nat, ∃ n : Int, m = l.length - k ∧ k ≤ l.length ∧ h = [] ∧ s.get 0 = terms l ∧ s.get 2 = .int .i64 n ∧ s.get 7 = .int .i64 k ∧ 0 ≤ n ∧ n + k ≤ n0 ∧ budgets (l.drop k) n = budgets l n0
set_option maxHeartbeats 1000000 in
theorem few9 (l : List T) (c n : Int) (hn : n < 4000000) (hn0 : 0 ≤ n) : CallP C 9 [terms l, .int .i64 c, .int .i64 n] = some (.bool (fewT l c n)) := by
  refine CallP_W rfl Tryz.func9 rfl (by kernel_rfl) (by simp [Tryz.f9]) fun R hR => ?_
  simp +contextual [go_sem, terms, len23]
  refine Ife_iff.2 ⟨fun h1 => ?_, fun h1 => ?_⟩
  · simp [go_sem]
    refine hR _ _ _ (.inr rfl) ⟨_, rfl, ?_⟩
    have : fewT l c n = false := by simp [fewT]; omega
    simp [go_sem, this]; exact snap_dat rfl rfl
  have hb : fewT l c n = decide (0 ≤ budgets l n) := by simp [fewT, show (l.length : Int) ≤ c by omega]
  simp +contextual [go_sem]
  refine W_loop (NI9 l n) l.length ⟨0, n, rfl, Nat.zero_le _, rfl, by simp [go_sem, terms], by simp [go_sem], by simp [go_sem], by omega, by omega, rfl⟩ ?_
  rintro m s h ⟨k, c, rfl, hk, rfl, g0, g2, g7, hc0, hcn, hd⟩
  simp only [terms] at g0
  by_cases hlt : k < l.length
  · have hlt' : (k : Int) < l.length := by omega
    have hix := idx23 l k hlt .unk
    have ck := call29 l[k] c (by omega)
    have hbl := budget_law l[k] c
    have w2 : IntKind.i64.wrap ((k : Int) + 1) = ((k + 1 : Nat) : Int) := by rw [wrap_in (by omega)]; omega
    have hsz := size_kids l[k]
    rw [List.drop_eq_getElem_cons hlt, budgets] at hd
    by_cases h2 : budget l[k] c < 0
    · rw [if_pos h2] at hd
      simp [go_sem, len23, g0, g2, g7, hlt', hix, ld25, ck, h2]
      refine hR _ _ _ (.inr rfl) ⟨_, rfl, ?_⟩
      simp [go_sem, hb, ← hd]; exact snap_dat rfl rfl
    · rw [if_neg h2] at hd
      have := hbl.2 (by omega)
      simp [go_sem, len23, g0, g2, g7, hlt', hix, ld25, ck, h2, -Int.natCast_add, w2]
      exact ⟨l.length - (k + 1), by omega, k + 1, _, rfl, hlt, rfl, by simp [go_sem, g0, terms], by simp [go_sem], by simp [go_sem], by omega, by omega, hd⟩
  · have : k = l.length := by omega
    subst this
    rw [List.drop_length, budgets] at hd
    simp [go_sem, len23, g0, g7]
    refine hR _ _ _ (.inr rfl) ⟨_, rfl, ?_⟩
    simp [go_sem, hb, ← hd, hc0]; exact snap_dat rfl rfl
theorem dat_few (l : List T) (c n : Int) : dats [terms l, .int .i64 c, .int .i64 n] = some [terms l, .int .i64 c, .int .i64 n] := rfl
theorem short_terms (l : List T) : short (terms l) = true := rfl
theorem call9 (l : List T) (c n : Int) (hn : n < 4000000) (hn0 : 0 ≤ n) (h : H) : callV C h (.func 9 []) (some [terms l, .int .i64 c, .int .i64 n]) = some (.bool (fewT l c n), h) := callV_strip (by kernel_rfl) rfl (dat_few _ _ _) (by simp [short_terms, short_int]) (by simp) (few9 l c n hn hn0)
end Go.VZ

/- Bindings: their form, and Valid both ways. -/
namespace Go.VZ
open Go Go.V Go.Proofs TL
def encB (b : T × T) : AV := .agg [.int .i64 b.1.kind, .str b.1.name, .int .i64 b.1.sort, terms b.1.kids, .int .i64 b.2.kind, .str b.2.name, .int .i64 b.2.sort, terms b.2.kids]
def binds (l : List (T × T)) : AV := .isl (l.map encB) .unk
theorem u46 : C.P.underlying 46 = some (.slice 86) := Tryz.underlying46
theorem s86 : sizeV C.P 86 = some 8 := by kernel_rfl
theorem s46 : sizeV C.P 46 = some 1 := by kernel_rfl
theorem a86 : isAggB C.P 86 = some true := by kernel_rfl
theorem a46 : isAggB C.P 46 = some false := by kernel_rfl
attribute [go_sem] u46 s86 s46 a86 a46
theorem fa86_0 (i : Nat) : fieldAddrV C.P 86 (.ptr i 0) 0 = some (.ptr i 0) := by kernel_rfl
theorem fa86_1 (i : Nat) : fieldAddrV C.P 86 (.ptr i 0) 1 = some (.ptr i 4) := by kernel_rfl
theorem fa86i_0 (e : AV) : fieldAddrV C.P 86 (.iptr e 0) 0 = some (.iptr e 0) := by kernel_rfl
theorem fa86i_1 (e : AV) : fieldAddrV C.P 86 (.iptr e 0) 1 = some (.iptr e 4) := by kernel_rfl
attribute [go_sem] fa86_0 fa86_1 fa86i_0 fa86i_1
theorem zv86 : zeroV C.P 86 = some (.agg [.int .i64 0, .str ⟨#[]⟩, .int .i64 0, .isl [] .full, .int .i64 0, .str ⟨#[]⟩, .int .i64 0, .isl [] .full]) := by kernel_rfl
attribute [go_sem] zv86
theorem len46 (es : List AV) (x : Ext) : lenV C.P 46 (.isl es x) = some (.int .i64 es.length) := by simp [lenV, u46]
theorem idx46 (l : List (T × T)) (k : Nat) (hk : k < l.length) (x : Ext) : indexAddrV C.P 46 (.isl (l.map encB) x) (.int .i64 k) = some (.iptr (encB l[k]) 0) := by
  simp [indexAddrV, u46, s86, encB, cells_agg, hk]
theorem ld86 (b : T × T) (h : H) : loadV C.P h 86 (.iptr (encB b) 0) = some (encB b) := by simp [loadV, cellsAt, a86, s86, encB, cells_agg]
theorem ld25i0 (b : T × T) (h : H) : loadV C.P h 25 (.iptr (encB b) 0) = some (enc b.1) := by
  simp [loadV, cellsAt, a25, s25, encB, cells_agg]; rw [enc_eq]
theorem ld25i4 (b : T × T) (h : H) : loadV C.P h 25 (.iptr (encB b) 4) = some (enc b.2) := by
  simp [loadV, cellsAt, a25, s25, encB, cells_agg]; rw [enc_eq]
theorem st86 (b : T × T) (c1 c2 c3 c4 c5 c6 c7 c8 : AV) (h : H) : storeV C.P (h ++ [.cells [c1, c2, c3, c4, c5, c6, c7, c8] .live]) 86 (.ptr h.length 0) (encB b) = some (h ++ [.cells (encB b).cells .live]) := by
  simp [storeV, s86, encB, cells_agg]
theorem box86 (b : T × T) (h : H) : boxV C.P h 86 (encB b) = some (.ptr h.length 0, h ++ [.cells (encB b).cells .live]) := by
  simp [boxV, encB, cells_agg, s86, notTuple]
theorem lb0 (b : T × T) (h : H) : loadV C.P (h ++ [.cells (encB b).cells .live]) 25 (.ptr h.length 0) = some (enc b.1) := by
  simp [loadV, cellsAt, a25, s25, encB, cells_agg]; rw [enc_eq]
theorem lb4 (b : T × T) (h : H) : loadV C.P (h ++ [.cells (encB b).cells .live]) 25 (.ptr h.length 4) = some (enc b.2) := by
  simp [loadV, cellsAt, a25, s25, encB, cells_agg]; rw [enc_eq]
theorem lbk (b : T × T) (h : H) : loadV C.P (h ++ [.cells (encB b).cells .live]) 3 (.ptr h.length 0) = some (.int .i64 b.1.kind) := by
  simp [loadV, cellsAt, a3, s3, encB, cells_agg]
/-- What a binding's check says. -/
def bindE (b : T × T) : Int := thn (validE b.1) (if b.1.kind ≠ 1 ∨ b.1.cmp b.2 = 0 then 1 else thn (validE b.2) (if fitsB b.1 b.2 then 0 else 10))
theorem lb0n (b : T × T) : loadV C.P [.cells (encB b).cells .live] 25 (.ptr 0 0) = some (enc b.1) := lb0 b []
theorem lb4n (b : T × T) : loadV C.P [.cells (encB b).cells .live] 25 (.ptr 0 4) = some (enc b.2) := lb4 b []
theorem lbkn (b : T × T) : loadV C.P [.cells (encB b).cells .live] 3 (.ptr 0 0) = some (.int .i64 b.1.kind) := lbk b []
set_option maxHeartbeats 1000000 in
theorem bind117 (b : T × T) (h1 : b.1.size < 4000000) (h2 : b.2.size < 4000000) : CallP C 117 [encB b] = some (.int .i64 (bindE b)) := by
  refine CallP_W rfl Tryz.func117 rfl (by kernel_rfl) (by simp [Tryz.f117]) fun R hR => ?_
  have c1 := call86 b.1 h1
  have c2 := call86 b.2 h2
  have c3 := call69 b.1 b.2 h1 h2
  have c4 := call175 b.1 b.2 h1 h2
  simp +contextual [go_sem, box86, lb0n, c1]
  refine Ife_iff.2 ⟨fun k1 => ?_, fun k1 => ?_⟩
  · simp [go_sem]
    refine hR _ _ _ (.inr rfl) ⟨_, rfl, ?_⟩
    simp [go_sem, bindE, thn, k1]; exact snap_dat rfl rfl
  simp only [Decidable.not_not] at k1
  simp +contextual [go_sem, lb0n, lb4n, lbkn, c3]
  refine Ife_iff.2 ⟨fun k2 => ?_, fun k2 => ?_⟩
  · simp [go_sem]
    refine hR _ _ _ (.inr rfl) ⟨_, rfl, ?_⟩
    simp [go_sem, bindE, thn, k1]; rw [if_pos (by simpa using k2)]; exact snap_dat rfl rfl
  simp +contextual [go_sem, lb4n, c2]
  refine Ife_iff.2 ⟨fun k3 => ?_, fun k3 => ?_⟩
  · simp [go_sem]
    refine hR _ _ _ (.inr rfl) ⟨_, rfl, ?_⟩
    simp [go_sem, bindE, thn, k1, k3]; rw [if_neg (by simpa using k2)]; exact snap_dat rfl rfl
  simp only [Decidable.not_not] at k3
  simp +contextual [go_sem, lb0n, lb4n, c4]
  refine Ife_iff.2 ⟨fun k4 => ?_, fun k4 => ?_⟩
  · simp [go_sem]
    refine hR _ _ _ (.inr rfl) ⟨_, rfl, ?_⟩
    simp [go_sem, bindE, thn, k1, k3]; rw [if_neg (by simpa using k2), if_neg (by simpa using k4)]; exact snap_dat rfl rfl
  · simp [go_sem]
    refine hR _ _ _ (.inr rfl) ⟨_, rfl, ?_⟩
    simp [go_sem, bindE, thn, k1, k3]; rw [if_neg (by simpa using k2), if_pos (by simpa using k4)]; exact snap_dat rfl rfl
theorem dat_encB (b : T × T) : dats [encB b] = some [encB b] := rfl
theorem short_encB (b : T × T) : short (encB b) = true := rfl
theorem call117 (b : T × T) (h1 : b.1.size < 4000000) (h2 : b.2.size < 4000000) (h : H) : callV C h (.func 117 []) (some [encB b]) = some (.int .i64 (bindE b), h) := callV_strip (by kernel_rfl) rfl (dat_encB _) (by simp [short_encB]) (by simp) (bind117 b h1 h2)
def small (l : List (T × T)) : Prop := ∀ b ∈ l, b.1.size < 4000000 ∧ b.2.size < 4000000
/-- Not after the one ahead. -/
def later : Option T → T → Bool
  | none, _ => false
  | some q, v => decide (0 ≤ q.cmp v)
def subEs : Option T → List (T × T) → Int
  | _, [] => 0
  | p, b :: l => thn (bindE b) (if later p b.1 = true then 5 else subEs (some b.1) l)
def subE (l : List (T × T)) : Int := if 200 < l.length then 3 else subEs none l
def prev (l : List (T × T)) (k : Nat) : Option T := if k = 0 then none else (l[k - 1]?).map (·.1)
theorem prev_succ {l : List (T × T)} {k : Nat} (hk : k < l.length) : prev l (k + 1) = some l[k].1 := by simp [prev, hk]
def NI67 (l : List (T × T)) (n : Nat) (s : PT) (h : H) : Prop := ∃ k : Nat, n = l.length - k ∧ k ≤ l.length ∧ h = [] ∧ s.get 0 = binds l ∧ s.get 3 = .int .i64 k ∧ subEs (prev l k) (l.drop k) = subEs none l
set_option maxHeartbeats 1000000 in
theorem valid67 (l : List (T × T)) (hs : small l) : CallP C 67 [binds l] = some (.int .i64 (subE l)) := by
  refine CallP_W rfl Tryz.func67 rfl (by kernel_rfl) (by simp [Tryz.f67]) fun R hR => ?_
  simp +contextual [go_sem, binds, len46]
  refine Ife_iff.2 ⟨fun h1 => ?_, fun h1 => ?_⟩
  · simp [go_sem]
    refine hR _ _ _ (.inr rfl) ⟨_, rfl, ?_⟩
    simp [go_sem, subE, show 200 < l.length by omega]; exact snap_dat rfl rfl
  have hb : subE l = subEs none l := by simp [subE, show ¬ 200 < l.length by omega]
  simp +contextual [go_sem]
  refine W_loop (NI67 l) l.length ⟨0, rfl, Nat.zero_le _, rfl, by simp [go_sem, binds], by simp [go_sem], rfl⟩ ?_
  rintro m s h ⟨k, rfl, hk, rfl, g0, g3, hd⟩
  simp only [binds] at g0
  by_cases hlt : k < l.length
  · have hlt' : (k : Int) < l.length := by omega
    have hix := idx46 l k hlt .unk
    have hsm := hs _ (List.getElem_mem hlt)
    have ck := call117 l[k] hsm.1 hsm.2
    have w2 : IntKind.i64.wrap ((k : Int) + 1) = ((k + 1 : Nat) : Int) := by rw [wrap_in (by omega)]; omega
    rw [List.drop_eq_getElem_cons hlt, subEs] at hd
    by_cases h2 : bindE l[k] = 0
    · rw [h2] at hd
      by_cases hz : k = 0
      · have hp : later (prev l k) l[k].1 = false := by simp [prev, hz, later]
        have hd : subEs (some l[k].1) (l.drop (k + 1)) = subEs none l := by simpa [thn, hp] using hd
        simp [go_sem, len46, g0, g3, hlt', hix, ld86, ck, h2, -Int.natCast_add, w2, show ¬ 0 < k by omega]
        exact ⟨l.length - (k + 1), by omega, k + 1, rfl, hlt, rfl, by simp [go_sem, g0, binds], by simp [go_sem], by rw [prev_succ hlt]; exact hd⟩
      · have hk1 : k - 1 < l.length := by omega
        have hiy := idx46 l (k - 1) hk1 .unk
        have w3 : IntKind.i64.wrap ((k : Int) - 1) = ((k - 1 : Nat) : Int) := by rw [wrap_in (by omega)]; omega
        have hsn := hs _ (List.getElem_mem hk1)
        have cm := call118 l[k - 1].1 l[k].1 hsn.1 hsm.1
        simp [go_sem, len46, g0, g3, hlt', hix, ld86, ck, h2, -Int.natCast_add, show 0 < k by omega, w3, hiy, cm, ld25i0]
        refine Ife_iff.2 ⟨fun h3 => ?_, fun h3 => ?_⟩
        · have hd : 5 = subEs none l := by simpa [thn, prev, hz, hk1, later, h3] using hd
          simp [go_sem]
          refine hR _ _ _ (.inr rfl) ⟨_, rfl, ?_⟩
          simp [go_sem, hb, ← hd]; exact snap_dat rfl rfl
        · have hd : subEs (some l[k].1) (l.drop (k + 1)) = subEs none l := by simpa [thn, prev, hz, hk1, later, h3] using hd
          simp [go_sem, g3, -Int.natCast_add, w2]
          exact ⟨l.length - (k + 1), by omega, k + 1, rfl, hlt, rfl, by simp [go_sem, g0, binds], by simp [go_sem], by rw [prev_succ hlt]; exact hd⟩
    · simp [go_sem, len46, g0, g3, hlt', hix, ld86, ck, h2]
      refine hR _ _ _ (.inr rfl) ⟨_, rfl, ?_⟩
      simp [thn, h2] at hd
      simp [go_sem, hb, ← hd]; exact snap_dat rfl rfl
  · have : k = l.length := by omega
    subst this
    rw [List.drop_length, subEs] at hd
    simp [go_sem, len46, g0, g3]
    refine hR _ _ _ (.inr rfl) ⟨_, rfl, ?_⟩
    simp [go_sem, hb, ← hd]; exact snap_dat rfl rfl
theorem dat_binds (l : List (T × T)) : dats [binds l] = some [binds l] := rfl
theorem short_binds (l : List (T × T)) : short (binds l) = true := rfl
theorem call67 (l : List (T × T)) (hs : small l) (h : H) : callV C h (.func 67 []) (some [binds l]) = some (.int .i64 (subE l), h) := callV_strip (by kernel_rfl) rfl (dat_binds _) (by simp [short_binds]) (by simp) (valid67 l hs)
def NI59 (l : List (T × T)) (n : Nat) (s : PT) (_h : H) : Prop := ∃ k : Nat, n = l.length - k ∧ k ≤ l.length ∧ s.get 0 = binds l ∧ s.get 10 = binds l ∧ s.get 11 = .int .i64 l.length ∧ s.get 12 = .int .i64 k ∧ subEs (prev l k) (l.drop k) = subEs none l
set_option maxRecDepth 8000 in
set_option maxHeartbeats 2000000 in
theorem valid59 (l : List (T × T)) (hs : small l) : CallP C 59 [binds l] = some (.int .i64 (subE l)) := by
  refine CallP_W rfl Tryz.func59 rfl (by kernel_rfl) (by simp [Tryz.f59]) fun R hR => ?_
  simp +contextual [go_sem, binds, len46]
  refine Ife_iff.2 ⟨fun h1 => ?_, fun h1 => ?_⟩
  · simp [go_sem]
    refine hR _ _ _ (.inr rfl) ⟨_, rfl, ?_⟩
    simp [go_sem, subE, show 200 < l.length by omega]; exact snap_dat rfl rfl
  have hb : subE l = subEs none l := by simp [subE, show ¬ 200 < l.length by omega]
  simp +contextual [go_sem, len46, binds]
  refine W_loop (NI59 l) l.length ⟨0, rfl, Nat.zero_le _, by simp [go_sem, binds], by simp [go_sem, binds], by simp [go_sem], by simp [go_sem], rfl⟩ ?_
  rintro m s h ⟨k, rfl, hk, g0, g10, g11, g12, hd⟩
  simp only [binds] at g0 g10
  by_cases hlt : k < l.length
  · have hlt' : (k : Int) < l.length := by omega
    have hix := idx46 l k hlt .unk
    have hsm := hs _ (List.getElem_mem hlt)
    obtain ⟨b, hbe⟩ : ∃ b, b = l[k] := ⟨_, rfl⟩
    rw [← hbe] at hix hsm
    have c1 := call111 b.1 hsm.1
    have c2 := call111 b.2 hsm.2
    have c3 := call112 b.1 b.2 hsm.1 hsm.2
    have c4 := call113 b.1 b.2 hsm.1 hsm.2
    have w2 : IntKind.i64.wrap ((k : Int) + 1) = ((k + 1 : Nat) : Int) := by rw [wrap_in (by omega)]; omega
    rw [List.drop_eq_getElem_cons hlt, subEs, ← hbe] at hd
    have out : ∀ (s : PT) (h : H) (e : Int), s.get 2 = .int .i64 e → bindE b = e → e ≠ 0 → R .ret s h := fun s h e hs he hz => by
      refine hR _ _ _ (.inr rfl) ⟨.int .i64 e, by simp [resultV, resV, Tryz.f59, hs], ?_⟩
      simp [thn, he, hz] at hd
      rw [hb, ← hd]; exact snap_dat rfl rfl
    simp +contextual [go_sem, g10, g11, g12, hlt', hix, ld86, st86, lb0, c1]
    refine Ife_iff.2 ⟨fun k1 => ?_, fun k1 => ?_⟩
    · simp [go_sem]
      exact out _ _ (validE b.1) (by simp [go_sem]) (by simp [bindE, thn, k1]) k1
    simp only [Decidable.not_not] at k1
    simp +contextual [go_sem, lb0, lb4, lbk, c3]
    refine Ife_iff.2 ⟨fun k2 => ?_, fun k2 => ?_⟩
    · simp [go_sem]
      exact out _ _ 1 (by simp [go_sem]) (by simp only [bindE, k1, thn]; rw [if_pos trivial, if_pos (by simpa using k2)]) (by simp)
    simp +contextual [go_sem, lb4, c2]
    refine Ife_iff.2 ⟨fun k3 => ?_, fun k3 => ?_⟩
    · simp [go_sem]
      exact out _ _ (validE b.2) (by simp [go_sem]) (by simp only [bindE, k1, thn]; rw [if_pos trivial, if_neg (by simpa using k2), if_neg k3]) k3
    simp only [Decidable.not_not] at k3
    simp +contextual [go_sem, lb0, lb4, c4]
    refine Ife_iff.2 ⟨fun k4 => ?_, fun k4 => ?_⟩
    · simp [go_sem]
      exact out _ _ 10 (by simp [go_sem]) (by simp only [bindE, k1, k3, thn]; rw [if_pos trivial, if_neg (by simpa using k2), if_pos trivial, if_neg (by simpa using k4)]) (by simp)
    have h2 : bindE b = 0 := by simp only [bindE, k1, k3, thn]; rw [if_pos trivial, if_neg (by simpa using k2), if_pos trivial, if_pos (by simpa using k4)]
    rw [h2] at hd
    by_cases hz : k = 0
    · have hp : later (prev l k) b.1 = false := by simp [prev, hz, later]
      have hd : subEs (some b.1) (l.drop (k + 1)) = subEs none l := by simpa [thn, hp] using hd
      simp +contextual [go_sem, g0, g12, -Int.natCast_add, w2, show ¬ 0 < k by omega]
      exact ⟨l.length - (k + 1), by omega, k + 1, rfl, hlt, by simp [go_sem, g0, binds], by simp [go_sem, g10, binds], by simp [go_sem, g11], by simp [go_sem], by rw [prev_succ hlt, ← hbe]; exact hd⟩
    · have hk1 : k - 1 < l.length := by omega
      have hiy := idx46 l (k - 1) hk1 .unk
      have w3 : IntKind.i64.wrap ((k : Int) - 1) = ((k - 1 : Nat) : Int) := by rw [wrap_in (by omega)]; omega
      have hsn := hs _ (List.getElem_mem hk1)
      have cm := call112 l[k - 1].1 b.1 hsn.1 hsm.1
      simp +contextual [go_sem, g0, -Int.natCast_add, show 0 < k by omega, w3, hiy, cm, ld25i0, lb0]
      refine Ife_iff.2 ⟨fun h3 => ?_, fun h3 => ?_⟩
      · have hd : 5 = subEs none l := by simpa [thn, prev, hz, hk1, later, h3] using hd
        simp [go_sem]
        refine hR _ _ _ (.inr rfl) ⟨.int .i64 5, by simp [resultV, resV, Tryz.f59, go_sem], ?_⟩
        rw [hb, ← hd]; exact snap_dat rfl rfl
      · have hd : subEs (some b.1) (l.drop (k + 1)) = subEs none l := by simpa [thn, prev, hz, hk1, later, h3] using hd
        simp [go_sem, g12, -Int.natCast_add, w2]
        exact ⟨l.length - (k + 1), by omega, k + 1, rfl, hlt, by simp [go_sem, g0, binds], by simp [go_sem, g10, binds], by simp [go_sem, g11], by simp [go_sem], by rw [prev_succ hlt, ← hbe]; exact hd⟩
  · have : k = l.length := by omega
    subst this
    rw [List.drop_length, subEs] at hd
    simp [go_sem, g11, g12]
    refine hR _ _ _ (.inr rfl) ⟨.int .i64 0, by simp [resultV, resV, Tryz.f59, go_sem], ?_⟩
    rw [hb, ← hd]; exact snap_dat rfl rfl
theorem call59 (l : List (T × T)) (hs : small l) (h : H) : callV C h (.func 59 []) (some [binds l]) = some (.int .i64 (subE l), h) := callV_strip (by kernel_rfl) rfl (dat_binds _) (by simp [short_binds]) (by simp) (valid59 l hs)
end Go.VZ

/- Few of bindings, Get, Put of the document. -/
namespace Go.VZ
open Go Go.V Go.Proofs TL
theorem b25 : bytesV C.P 25 = some 56 := by kernel_rfl
theorem z25 : zeroOk C.P 25 = true := by kernel_rfl
@[go_sem] theorem is23 : isSliceT C.P 23 = some 25 := by kernel_rfl
theorem szOk_enc (l : List T) : szOk 4 (l.map enc) = true := by cases l <;> simp [szOk, enc_cells]
theorem append23 {h : H} {v : AV} {xs ys : List T} {x : Ext} (o : OwnR 25 h v (xs.map enc)) (hl : (xs.length + ys.length) * 56 ≤ 140737488355328) :
    ∃ v' h', appendW C.P false h 23 v (.isl (ys.map enc) x) = some (v', h') ∧ OwnR 25 h' v' ((xs ++ ys).map enc) ∧ Keep h h' (idOf v) ∧ (idOf v' = idOf v ∨ idOf v = none ∧ idOf v' = some h.length) := by
  have := append_own (x := x) u23 s25 b25 z25 rfl o (szOk_enc xs) (szOk_enc ys) (by simp only [List.length_map]; omega)
  rwa [← List.map_append] at this
theorem dats_encs (l : List T) : dats (l.map enc) = some (l.map enc) := by
  induction l with
  | nil => rfl
  | cons a l ih => simp only [List.map_cons, dats, ih, dat_enc']
@[go_sem] theorem notTuple_enc (a : T) : notTuple (enc a) = true := by rw [enc_eq]; rfl
theorem build23_2 (h : H) (a b : T) : buildSliceV C.P h 23 2 [(0, enc a), (1, enc b)] = some (.isl [enc a, enc b] .full, h) := buildSlice_dats u23 s25 z25 rfl (by omega) rfl (dats_encs [a, b]) (by simp [short_enc]) (by simp) (by simp [elemOkV, enc_cells, notTuple_enc])
theorem build23_1 (h : H) (a : T) : buildSliceV C.P h 23 1 [(0, enc a)] = some (.isl [enc a] .full, h) := buildSlice_dats u23 s25 z25 rfl (by omega) rfl (dats_encs [a]) (by simp [short_enc]) (by simp) (by simp [elemOkV, enc_cells, notTuple_enc])
theorem dat_few' (l : List T) (x : Ext) (c n : Int) : dats [.isl (l.map enc) x, .int .i64 c, .int .i64 n] = some [terms l, .int .i64 c, .int .i64 n] := rfl
theorem call9' (l : List T) (x : Ext) (c n : Int) (hn : n < 4000000) (hn0 : 0 ≤ n) (h : H) : callV C h (.func 9 []) (some [.isl (l.map enc) x, .int .i64 c, .int .i64 n]) = some (.bool (fewT l c n), h) := callV_strip (by kernel_rfl) rfl (dat_few' _ _ _ _) (by simp [short]) (by simp) (few9 l c n hn hn0)
def flatB (l : List (T × T)) : List T := l.flatMap fun b => [b.1, b.2]
theorem flatB_take {l : List (T × T)} {k : Nat} (hk : k < l.length) : flatB (l.take (k + 1)) = flatB (l.take k) ++ [l[k].1, l[k].2] := by
  rw [← List.take_append_getElem hk, flatB, List.flatMap_append]; simp [flatB]
theorem flatB_len (l : List (T × T)) : (flatB l).length = 2 * l.length := by
  induction l with
  | nil => rfl
  | cons a l ih => simp only [flatB, List.flatMap_cons, List.length_append] at ih ⊢; rw [ih]; simp; omega
def fewB (l : List (T × T)) (c n : Int) : Bool := fewT (flatB l) (2 * c) n
def NI21 (l : List (T × T)) (c n : Int) (m : Nat) (s : PT) (h : H) : Prop := ∃ k : Nat, m = l.length - k ∧ k ≤ l.length ∧ s.get 0 = binds l ∧ s.get 1 = .int .i64 c ∧ s.get 2 = .int .i64 n ∧ s.get 8 = .int .i64 k ∧ OwnR 25 h (s.get 7) ((flatB (l.take k)).map enc)
set_option maxHeartbeats 2000000 in
theorem few21 (l : List (T × T)) (c n : Int) (hn : n < 4000000) (hn0 : 0 ≤ n) (hc : c < 4000000) (hc0 : 0 ≤ c) (hl : l.length * 112 ≤ 140737488355328) : CallP C 21 [binds l, .int .i64 c, .int .i64 n] = some (.bool (fewB l c n)) := by
  refine CallP_W rfl Tryz.func21 rfl (by kernel_rfl) (by simp [Tryz.f21]) fun R hR => ?_
  simp [go_sem]
  refine W_loop (NI21 l c n) l.length ⟨0, rfl, Nat.zero_le _, by simp [go_sem], by simp [go_sem], by simp [go_sem], by simp [go_sem], .inr ⟨0, by simp [go_sem, flatB]⟩⟩ ?_
  rintro m s h ⟨k, rfl, hk, g0, g1, g2, g8, go⟩
  simp only [binds] at g0
  by_cases hlt : k < l.length
  · have hlt' : (k : Int) < l.length := by omega
    have hix := idx46 l k hlt .unk
    have w2 : IntKind.i64.wrap ((k : Int) + 1) = ((k + 1 : Nat) : Int) := by rw [wrap_in (by omega)]; omega
    obtain ⟨v7, e7⟩ : ∃ v, v = s.get 7 := ⟨_, rfl⟩
    rw [← e7] at go
    have hfl := flatB_len (l.take k)
    obtain ⟨v', h', ha, ho, hkp, hid⟩ := append23 (ys := [l[k].1, l[k].2]) (x := .full) go (by simp only [hfl, List.length_take, List.length_cons, List.length_nil]; omega)
    rw [← flatB_take hlt] at ho
    simp only [List.map_cons, List.map_nil] at ha
    simp [go_sem, g0, g8, len46, hlt', -Int.natCast_add]
    refine W_regionS 5 _ (by simp [mixC]) rfl ?_
    simp [go_sem, g0, g8, ← e7, hix, ld25i0, ld25i4, build23_2, ha, -Int.natCast_add, w2, idsOk, ldIds, apIds, ldId, appId, mslId]
    exact ⟨l.length - (k + 1), by omega, k + 1, rfl, hlt, by simp [go_sem, g0, binds], by simp [go_sem, g1], by simp [go_sem, g2], by simp [go_sem], by simpa [go_sem] using ho⟩
  · have : k = l.length := by omega
    subst this
    rw [List.take_length] at go
    obtain ⟨x, hx⟩ := go.isl
    have w3 : IntKind.i64.wrap (2 * c) = 2 * c := wrap_in (by omega)
    have c9 := call9' (flatB l) x (2 * c) n hn hn0
    simp [go_sem, g0, g1, g2, g8, len46, hx, w3, c9]
    refine hR _ _ _ (.inr rfl) ⟨.bool (fewB l c n), by simp [resultV, resV, Tryz.f21, go_sem, fewB], ?_⟩
    exact snap_dat rfl rfl
theorem dat_few21 (l : List (T × T)) (c n : Int) : dats [binds l, .int .i64 c, .int .i64 n] = some [binds l, .int .i64 c, .int .i64 n] := rfl
theorem call21 (l : List (T × T)) (c n : Int) (hn : n < 4000000) (hn0 : 0 ≤ n) (hc : c < 4000000) (hc0 : 0 ≤ c) (hl : l.length * 112 ≤ 140737488355328) (h : H) : callV C h (.func 21 []) (some [binds l, .int .i64 c, .int .i64 n]) = some (.bool (fewB l c n), h) := callV_strip (by kernel_rfl) rfl (dat_few21 _ _ _) (by simp [short_binds, short_int]) (by simp) (few21 l c n hn hn0 hc hc0 hl)
/-- What a variable is bound to. -/
def getB : List (T × T) → T → T
  | [], v => v
  | b :: l, v => if b.1.cmp v = 0 then b.2 else getB l v
theorem dat_binds2 (l : List (T × T)) (t : T) : dats [binds l, enc t] = some [binds l, enc t] := by rw [enc_eq]; rfl
/-- The cells of no term. -/
def zc : List AV := [.int .i64 0, .str ⟨#[]⟩, .int .i64 0, .isl [] .full]
def NI146 (l : List (T × T)) (v : T) (m : Nat) (s : PT) (h : H) : Prop := ∃ k : Nat, m = l.length - k ∧ k ≤ l.length ∧ s.get 0 = binds l ∧ s.get 3 = .ptr 0 0 ∧ s.get 4 = .ptr 1 0 ∧ s.get 5 = .int .i64 k ∧ h = [.cells (tc v) .live, .cells zc .live] ∧ getB (l.drop k) v = getB l v
theorem st25b (t : T) (a b c d : AV) (x : VObj) : storeV C.P [x, .cells [a, b, c, d] .live] 25 (.ptr 1 0) (enc t) = some [x, .cells (enc t).cells .live] := by
  simp [storeV, s25, enc_cells]; rw [enc_eq]; rfl
set_option maxRecDepth 8000 in
set_option maxHeartbeats 2000000 in
theorem get146 (l : List (T × T)) (v : T) (hs : small l) (hv : v.size < 4000000) (hl : l.length < 4000000) : CallP C 146 [binds l, enc v] = some (enc (getB l v)) := by
  refine CallP_W rfl Tryz.func146 rfl (by kernel_rfl) (by simp [Tryz.f146]) fun R hR => ?_
  simp [go_sem, terms]
  refine W_loop (NI146 l v) l.length ⟨0, rfl, Nat.zero_le _, by simp [go_sem], by simp [go_sem], by simp [go_sem], by simp [go_sem], rfl, rfl⟩ ?_
  rintro m s h ⟨k, rfl, hk, g0, g3, g4, g5, rfl, hd⟩
  simp only [binds] at g0
  have fin : ∀ (s : PT) (t : T) (x : VObj), s.get 4 = .ptr 1 0 → t = getB l v → R .ret s [x, .cells (enc t).cells .live] := fun s t x hs ht => by
    refine hR _ _ _ (.inr rfl) ⟨enc t, ?_, ?_⟩
    · simp [resultV, resV, Tryz.f146, hs, loadV, cellsAt, a25, s25, enc_cells]; rw [enc_eq]
    · rw [← ht]; exact snap_dat (dat_enc' t) (short_enc t)
  by_cases hlt : k < l.length
  · have hlt' : (k : Int) < l.length := by omega
    have hix := idx46 l k hlt .unk
    have hsm := hs _ (List.getElem_mem hlt)
    have w2 : IntKind.i64.wrap ((k : Int) + 1) = ((k + 1 : Nat) : Int) := by rw [wrap_in (by omega)]; omega
    have c1 := call69 l[k].1 v hsm.1 hv
    rw [List.drop_eq_getElem_cons hlt, getB] at hd
    simp [go_sem, g0, g3, g5, len46, hlt', hix, ld25i0, tc, zc, ld25c, c1, -Int.natCast_add]
    refine Ife_iff.2 ⟨fun h1 => ?_, fun h1 => ?_⟩
    · rw [if_pos h1] at hd
      simp [go_sem, g0, g4, g5, hix, ld25i4, st25b]
      exact fin _ _ _ (by simp [go_sem, g4]) hd
    · rw [if_neg h1] at hd
      simp [go_sem, g5, -Int.natCast_add, w2]
      exact ⟨l.length - (k + 1), by omega, k + 1, rfl, hlt, by simp [go_sem, g0, binds], by simp [go_sem, g3], by simp [go_sem, g4], by simp [go_sem], rfl, hd⟩
  · have : k = l.length := by omega
    subst this
    rw [List.drop_length, getB] at hd
    simp [go_sem, g0, g3, g4, g5, len46, tc, zc, ld25c, st25b]
    exact fin _ _ _ (by simp [go_sem, g4]) hd
theorem call146 (l : List (T × T)) (v : T) (hs : small l) (hv : v.size < 4000000) (hl : l.length < 4000000) (h : H) : callV C h (.func 146 []) (some [binds l, enc v]) = some (enc (getB l v), h) := callV_strip (by kernel_rfl) rfl (dat_binds2 _ _) (by simp [short_binds, short_enc]) (by simp) (get146 l v hs hv hl)
mutual
/-- A term with its variables put. -/
def putB (l : List (T × T)) : T → T
  | .mk k n s m => if k = 1 then getB l (.mk k n s m) else .mk k n s (putBs l m)
def putBs (l : List (T × T)) : List T → List T
  | [] => []
  | t :: m => putB l t :: putBs l m
end
theorem putBs_map (l : List (T × T)) : ∀ m, putBs l m = m.map (putB l)
  | [] => rfl
  | t :: m => by rw [putBs, putBs_map l m]; rfl
theorem putB_eq (l : List (T × T)) (t : T) : putB l t = if t.kind = 1 then getB l t else .mk t.kind t.name t.sort (t.kids.map (putB l)) := by cases t; rw [putB, putBs_map]; rfl
def NI87 (l : List (T × T)) (t : T) (m : Nat) (s : PT) (h : H) : Prop := ∃ k : Nat, ∃ v : AV, m = t.kids.length - k ∧ k ≤ t.kids.length ∧ s.get 0 = binds l ∧ s.get 3 = .ptr 0 0 ∧ s.get 4 = .ptr 1 0 ∧ s.get 5 = .ptr 2 0 ∧ s.get 6 = .int .i64 k ∧ h[0]? = some (.cells (tc t) .live) ∧ h[1]? = some (.cells zc .live) ∧ h[2]? = some (.cells [.int .i64 t.kind, .str t.name, .int .i64 t.sort, v] .live) ∧
  OwnR 25 h v (((t.kids.take k).map (putB l)).map enc)
theorem st25c (t : T) (a b c d : AV) (x y : VObj) : storeV C.P [x, y, .cells [a, b, c, d] .live] 25 (.ptr 2 0) (enc t) = some [x, y, .cells (enc t).cells .live] := by
  simp [storeV, s25, enc_cells]; rw [enc_eq]; rfl
set_option maxRecDepth 8000 in
set_option maxHeartbeats 2000000 in
theorem put87 (l : List (T × T)) (t : T) (hs : small l) (hv : t.size < 4000000) (hl : l.length < 4000000) (hc : ∀ k ∈ t.kids, CallP C 87 [binds l, enc k] = some (enc (putB l k))) : CallP C 87 [binds l, enc t] = some (enc (putB l t)) := by
  refine CallP_W rfl Tryz.func87 rfl (by kernel_rfl) (by simp [Tryz.f87]) fun R hR => ?_
  have fin : ∀ (s : PT) (t' : T) (h : H), s.get 4 = .ptr 1 0 → h[1]? = some (.cells (enc t').cells .live) → t' = putB l t → R .ret s h := fun s t' h hs hh ht => by
    refine hR _ _ _ (.inr rfl) ⟨enc t', ?_, ?_⟩
    · simp [resultV, resV, Tryz.f87, hs, loadV, hh, cellsAt, a25, s25, enc_cells]; rw [enc_eq]
    · rw [← ht]; exact snap_dat (dat_enc' t') (short_enc t')
  have c1 := call146 l t hs hv hl
  have hpe := putB_eq l t
  have hsz := size_kids t
  have hlen := len_sizes t.kids
  simp [go_sem, terms]
  refine Ife_iff.2 ⟨fun h1 => ?_, fun h1 => ?_⟩
  · rw [if_pos h1] at hpe
    simp [go_sem, ld25c, c1, st25b]
    exact fin _ _ _ (by simp [go_sem]) (by simp) hpe.symm
  rw [if_neg h1] at hpe
  have q1 : ∀ (x y : VObj) (a b c : AV), storeV C.P [x, y, .cells [a, b, c, .isl (t.kids.map enc) .unk] .live] 23 (.ptr 2 3) (.isl [] .full) = some [x, y, .cells [a, b, c, .isl [] .full] .live] := fun x y a b c => by simp [storeV, s23]
  simp [go_sem, ld25c, st25c, enc_cells, terms, q1]
  refine W_loop (NI87 l t) t.kids.length ⟨0, .isl [] .full, rfl, Nat.zero_le _, by simp [go_sem], by simp [go_sem], by simp [go_sem], by simp [go_sem], by simp [go_sem], rfl, rfl, rfl, .inl rfl⟩ ?_
  rintro m s h ⟨k, v, rfl, hk, g0, g3, g4, g5, g6, m0, m1, m2, go⟩
  have l0 : loadV C.P h 23 (.ptr 0 3) = some (.isl (t.kids.map enc) .unk) := by simp [loadV, m0, tc, cellsAt, a23, s23]
  have l2 : loadV C.P h 23 (.ptr 2 3) = some v := by obtain ⟨x, rfl⟩ := go.isl; simp [loadV, m2, cellsAt, a23, s23]
  by_cases hlt : k < t.kids.length
  · have hlt' : (k : Int) < t.kids.length := by omega
    have hix := idx23 t.kids k hlt .unk
    have w2 : IntKind.i64.wrap ((k : Int) + 1) = ((k + 1 : Nat) : Int) := by rw [wrap_in (by omega)]; omega
    have ck : ∀ h, callV C h (.func 87 []) (some [binds l, enc t.kids[k]]) = some (enc (putB l t.kids[k]), h) := fun h => callV_strip (by kernel_rfl) rfl (dat_binds2 _ _) (by simp [short_binds, short_enc]) (by simp) (hc _ (List.getElem_mem hlt))
    obtain ⟨v', h', ha, ho, hkp, hid⟩ := append23 (ys := [putB l t.kids[k]]) (x := .full) go (by simp only [List.length_map, List.length_take, List.length_cons, List.length_nil]; omega)
    have etk : (t.kids.take k).map (putB l) ++ [putB l t.kids[k]] = (t.kids.take (k + 1)).map (putB l) := by
      rw [← List.take_append_getElem hlt, List.map_append]; rfl
    rw [etk] at ho
    simp only [List.map_cons, List.map_nil] at ha
    have hne : ∀ i, idOf v = some i → i ≠ 0 ∧ i ≠ 1 ∧ i ≠ 2 := fun i hi => by
      rcases go with rfl | ⟨id, rfl, hd⟩
      · cases hi
      · simp only [idOf, Option.some.injEq] at hi; subst hi
        exact ⟨fun e => by (rw [e, m0] at hd; cases hd), fun e => by (rw [e, m1] at hd; cases hd), fun e => by (rw [e, m2] at hd; cases hd)⟩
    have m0' := hkp.get m0 (fun e => (hne _ e).1 rfl)
    have m1' := hkp.get m1 (fun e => (hne _ e).2.1 rfl)
    have m2' := hkp.get m2 (fun e => (hne _ e).2.2 rfl)
    have hst : storeV C.P h' 23 (.ptr 2 3) v' = some (h'.set 2 (.cells [.int .i64 t.kind, .str t.name, .int .i64 t.sort, v'] .live)) := by
      obtain ⟨x, rfl⟩ := ho.isl
      simp [storeV, m2', s23]
    have ho2 : OwnR 25 (h'.set 2 (.cells [.int .i64 t.kind, .str t.name, .int .i64 t.sort, v'] .live)) v' (((t.kids.take (k + 1)).map (putB l)).map enc) := ho.keep (Keep.set _ _ _) (fun i hi e => by
      rcases hid with h1 | ⟨h1, h2⟩
      · exact (hne i (h1 ▸ hi)).2.2 (by simpa using e.symm)
      · have := (List.getElem?_eq_some_iff.1 m2).1
        rw [h2] at hi; simp only [Option.some.injEq] at hi e; omega)
    have hlen2 := (List.getElem?_eq_some_iff.1 m2').1
    simp [go_sem, g3, g6, l0, len23, hlt', -Int.natCast_add]
    refine W_regionS 8 _ (by simp [mixC]) rfl ?_
    simp [go_sem, g0, g3, g5, g6, l0, l2, hix, ld25, ck, build23_1, ha, hst, -Int.natCast_add, w2]
    refine ⟨?_, t.kids.length - (k + 1), by omega, k + 1, v', rfl, hlt, by simp [go_sem, g0], by simp [go_sem, g3], by simp [go_sem, g4], by simp [go_sem, g5], by simp [go_sem], ?_, ?_, ?_, ho2⟩
    · rcases go with rfl | ⟨id, rfl, hd⟩
      · simp [go_sem, idsOk, ldIds, apIds, ldId, appId, mslId]
      · have := hne id rfl
        simp [go_sem, idsOk, ldIds, apIds, ldId, appId, mslId]
        (try omega)
    · rw [List.getElem?_set_ne (by omega)]; exact m0'
    · rw [List.getElem?_set_ne (by omega)]; exact m1'
    · rw [List.getElem?_set_self hlen2]
  · have : k = t.kids.length := by omega
    subst this
    rw [List.take_length] at go
    obtain ⟨x, rfl⟩ := go.isl
    have e5 : loadV C.P h 25 (.ptr 2 0) = some (.agg [.int .i64 t.kind, .str t.name, .int .i64 t.sort, .isl ((t.kids.map (putB l)).map enc) x]) := by simp [loadV, m2, cellsAt, a25, s25]
    have e6 : storeV C.P h 25 (.ptr 1 0) (.agg [.int .i64 t.kind, .str t.name, .int .i64 t.sort, .isl ((t.kids.map (putB l)).map enc) x]) = some (h.set 1 (.cells [.int .i64 t.kind, .str t.name, .int .i64 t.sort, .isl ((t.kids.map (putB l)).map enc) x] .live)) := by simp [storeV, m1, s25, zc]
    have e7 := (List.getElem?_eq_some_iff.1 m1).1
    generalize hzz : AV.agg [.int .i64 t.kind, .str t.name, .int .i64 t.sort, .isl ((t.kids.map (putB l)).map enc) x] = zz at e5 e6
    simp [go_sem, g3, g4, g5, g6, l0, len23, e5, e6]
    refine hR _ _ _ (.inr rfl) ⟨zz, ?_, ?_⟩
    · simp [resultV, resV, Tryz.f87, go_sem, g4, loadV, List.getElem?_set_self e7, cellsAt, a25, s25, ← hzz]
    · rw [hpe, enc_eq, ← hzz]; exact snap_dat rfl rfl
theorem put87_all (l : List (T × T)) (hs : small l) (hl : l.length < 4000000) (t : T) : t.size < 4000000 → CallP C 87 [binds l, enc t] = some (enc (putB l t)) := by
  induction t using T.ind with
  | _ t ih => exact fun hv => put87 l t hs hv hl (fun k hk => ih k hk (by have := kid_size hk; omega))
theorem call87 (l : List (T × T)) (t : T) (hs : small l) (hv : t.size < 4000000) (hl : l.length < 4000000) (h : H) : callV C h (.func 87 []) (some [binds l, enc t]) = some (enc (putB l t), h) := callV_strip (by kernel_rfl) rfl (dat_binds2 _ _) (by simp [short_binds, short_enc]) (by simp) (put87_all l hs hl t hv)
end Go.VZ
