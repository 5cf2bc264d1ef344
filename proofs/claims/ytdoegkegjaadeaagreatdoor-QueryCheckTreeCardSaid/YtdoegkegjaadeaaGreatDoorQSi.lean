/- Whether a tree is right: both ways walked. -/
import Derived.Test.YtdoegkegjaadeaaGreatDoorQSh
import Derived.Test.YtdoegkegjaadeaaGreatDoorQSd
import Derived.MakeChecks
namespace Go.VZ
open Go Go.V Go.Proofs TL
theorem size_mem : ∀ {l : List T} {t : T}, t ∈ l → t.size ≤ sizes l
  | a :: l, t, h => by
    rw [sizes]
    rcases List.mem_cons.1 h with rfl | h
    · omega
    · have := size_mem h; omega
def validCs (l : List Cl) : Bool := l.all fun c => decide (clauseE c = 0)
def infsFrom (l : List Cl) (t : List Inf) : List Inf → Nat → Bool
  | [], _ => true
  | x :: r, i => infOk l t i x && infsFrom l t r (i + 1)
def treeOk (l : List Cl) (t : List Inf) : Bool := if 60 < l.length ∨ t.length = 0 ∨ 400 < t.length then false else validCs l && infsFrom l t t 0
theorem few_size {c : Cl} {n : Int} (h : fewCl c n = true) (hn : 0 ≤ n) : c.body.length ≤ 14 ∧ (∀ f ∈ factsOf c, f.terms.length ≤ 12) ∧ (sizes (termsOf c) : Int) ≤ n := by
  unfold fewCl at h
  split at h
  · cases h
  · split at h
    · cases h
    · rename_i h1 h2
      simp only [fewT, Bool.and_eq_true, decide_eq_true_eq] at h
      have := (budgets_law (termsOf c) n (by omega)).2 h.2
      exact ⟨by omega, shortF_len (by simpa using h2), by omega⟩
theorem few_fact {c : Cl} {n : Int} (h : fewCl c n = true) (hn : 0 ≤ n) (hm : n < 4000000) : ∀ f ∈ factsOf c, smallT f.terms := fun f hf => by
  obtain ⟨_, h2, h3⟩ := few_size h hn
  refine ⟨by have := h2 f hf; omega, fun t ht => ?_⟩
  have : t ∈ allTerms (factsOf c) := List.mem_flatMap.2 ⟨f, hf, ht⟩
  have := size_mem ((terms_facts c t).1 this)
  omega
theorem few_okF {c : Cl} {n : Int} (h : fewCl c n = true) (hn : 0 ≤ n) (hm : n < 4000000) : okF (factsOf c) := fun f hf => ⟨(few_fact h hn hm f hf).2, (few_fact h hn hm f hf).1⟩
theorem validsE_zero : ∀ {l : List T}, validsE l = 0 → ∀ t ∈ l, validE t = 0
  | [], _, t, ht => by simp at ht
  | a :: l, h, t, ht => by
    rw [validsE] at h
    by_cases e : validE a = 0
    · rw [if_neg (by simpa using e)] at h
      rcases List.mem_cons.1 ht with rfl | ht
      · exact e
      · exact validsE_zero h t ht
    · rw [if_pos e] at h; exact absurd h e
theorem factsE_zero : ∀ {l : List Fa}, factsE l = 0 → ∀ f ∈ l, factE f = 0
  | [], _, t, ht => by simp at ht
  | a :: l, h, t, ht => by
    rw [factsE] at h
    by_cases e : factE a = 0
    · rw [if_neg (by simpa using e)] at h
      rcases List.mem_cons.1 ht with rfl | ht
      · exact e
      · exact factsE_zero h t ht
    · rw [if_pos e] at h; exact absurd h e
theorem factE_zero {f : Fa} (h : factE f = 0) : f.terms ≠ [] ∧ f.terms.length ≤ 8 ∧ ∀ t ∈ f.terms, validE t = 0 := by
  unfold factE at h
  split at h
  · cases h
  · split at h
    · cases h
    · split at h
      · cases h
      · split at h
        · cases h
        · rename_i h1 h2
          exact ⟨fun e => h1 (by rw [e]; rfl), by omega, validsE_zero h⟩
theorem clause_facts {c : Cl} (h : clauseE c = 0) : c.body.length ≤ 12 ∧ ∀ f ∈ factsOf c, factE f = 0 := by
  unfold clauseE at h
  split at h
  · cases h
  · exact ⟨by omega, factsE_zero h⟩
theorem okC_of {c : Cl} (h : clauseE c = 0) (hf : fewCl c 60 = true) : okC c := by
  obtain ⟨h1, h2⟩ := clause_facts h
  obtain ⟨_, _, h3⟩ := few_size hf (by omega)
  refine ⟨h1, by omega, fun f hm => ?_⟩
  obtain ⟨a, b, d⟩ := factE_zero (h2 f hm)
  exact ⟨a, b, fun t ht => (nodes_zero (d t ht)).2.1⟩
def NA17 (l : List Cl) (t : List Inf) (m : Nat) (s : PT) (_ : H) : Prop := ∃ k : Nat, m = l.length - k ∧ k ≤ l.length ∧ (∀ c ∈ l.take k, clauseE c = 0) ∧ s.get 0 = clsV l ∧ s.get 1 = infs t ∧ s.get 21 = clsV l ∧ s.get 22 = .int .i64 l.length ∧ s.get 23 = .int .i64 k ∧ validCs l = (l.drop k).all fun c => decide (clauseE c = 0)
def NB17 (l : List Cl) (t : List Inf) (m : Nat) (s : PT) (_ : H) : Prop := ∃ k : Nat, m = t.length - k ∧ k ≤ t.length ∧ s.get 0 = clsV l ∧ s.get 1 = infs t ∧ s.get 32 = .int .i64 t.length ∧ s.get 33 = .int .i64 k ∧ infsFrom l t t 0 = infsFrom l t (t.drop k) k
theorem valid_take {l : List Cl} {k : Nat} (hk : k < l.length) (h : ∀ c ∈ l.take k, clauseE c = 0) (h1 : clauseE l[k] = 0) : ∀ c ∈ l.take (k + 1), clauseE c = 0 := fun c hc => by
  rw [← List.take_append_getElem hk] at hc
  rcases List.mem_append.1 hc with hc | hc
  · exact h c hc
  · simp only [List.mem_singleton] at hc; subst hc; exact h1
set_option maxRecDepth 8000 in
set_option maxHeartbeats 4000000 in
theorem check17 (l : List Cl) (t : List Inf) (hC : ∀ c ∈ l, fewCl c 60 = true) (hT : ∀ y ∈ t, okI y) (hl : l.length ≤ 10000) (ht : t.length ≤ 10000) : CallP C 17 [clsV l, infs t] = some (.bool (treeOk l t)) := by
  refine CallP_W rfl Tryz.func17 rfl (by kernel_rfl) (by simp [Tryz.f17]) fun R hR => ?_
  have fin : ∀ (st : PT) (h : H) (e : Bool), st.get 4 = .bool e → treeOk l t = e → R .ret st h := fun st h e h2 he => hR _ _ _ (.inr rfl) ⟨.bool e, by simp [resultV, resV, Tryz.f17, h2], by rw [he]; exact snap_dat rfl rfl⟩
  have hln := len22c l
  have hlt := len42i t
  by_cases q1 : 60 < l.length
  · have q1' : (60 : Int) < l.length := by omega
    simp [go_sem, initS, hln, q1']
    exact fin _ _ false (by simp [go_sem]) (by rw [treeOk, if_pos (.inl q1)])
  have q1' : ¬ (60 : Int) < l.length := by omega
  by_cases q2 : t = []
  · subst q2
    simp [go_sem, initS, hln, hlt, q1']
    exact fin _ _ false (by simp [go_sem]) (by rw [treeOk, if_pos (.inr (.inl rfl))])
  have q2' : ¬ t.length = 0 := fun e => q2 (List.length_eq_zero_iff.1 e)
  by_cases q3 : 400 < t.length
  · have q3' : (400 : Int) < t.length := by omega
    simp [go_sem, initS, hln, hlt, q1', q2, q3']
    exact fin _ _ false (by simp [go_sem]) (by rw [treeOk, if_pos (.inr (.inr q3))])
  have q3' : ¬ (400 : Int) < t.length := by omega
  have he : treeOk l t = (validCs l && infsFrom l t t 0) := by rw [treeOk, if_neg (by omega)]
  rw [he] at fin
  simp [go_sem, hln, hlt, q1', q2, q3']
  refine W_loop (NA17 l t) l.length ⟨0, rfl, Nat.zero_le _, by simp, by simp [go_sem], by simp [go_sem], by simp [go_sem], by simp [go_sem], by simp [go_sem], rfl⟩ ?_
  rintro m s h ⟨k, rfl, hk, hv, g0, g1, g21, g22, g23, hd⟩
  by_cases hkl : k < l.length
  · have hkl' : (k : Int) < l.length := by omega
    have hix := idx22 l k hkl
    have w2 : IntKind.i64.wrap ((k : Int) + 1) = ((k + 1 : Nat) : Int) := by rw [wrap_in (by omega)]; omega
    have l37 := ld37i l[k]
    have e2 := st37y l[k] h
    obtain ⟨h2, eh2⟩ : ∃ g, g = h ++ [.cells (clC l[k]) .live] := ⟨_, rfl⟩
    have pb : h2[h.length]? = some (.cells (clC l[k]) .live) := by rw [eh2]; simp
    have d37 := ld37c pb
    rw [← eh2] at e2
    have c35 := call35 l[k] (few_okF (hC _ (List.getElem_mem hkl)) (by omega) (by omega))
    rw [List.drop_eq_getElem_cons hkl, List.all_cons] at hd
    by_cases hz : clauseE l[k] = 0
    · rw [decide_eq_true hz, Bool.true_and] at hd
      simp [go_sem, g21, g22, g23, hkl', hix, l37, zv37, cells_agg, e2, d37, c35, hz, -Int.natCast_add, w2]
      exact ⟨l.length - (k + 1), by omega, k + 1, rfl, hkl, valid_take hkl hv hz, by simp [go_sem, g0], by simp [go_sem, g1], by simp [go_sem, g21], by simp [go_sem, g22], by simp [go_sem], hd⟩
    · rw [decide_eq_false hz, Bool.false_and] at hd
      rw [hd, Bool.false_and] at fin
      simp [go_sem, g21, g22, g23, hkl', hix, l37, zv37, cells_agg, e2, d37, c35, hz]
      exact fin _ _ false (by simp [go_sem]) rfl
  have : k = l.length := by omega
  subst this
  rw [List.take_length] at hv
  rw [List.drop_length, List.all_nil] at hd
  rw [hd, Bool.true_and] at fin
  simp [go_sem, g1, g22, g23, hlt]
  refine W_loop (NB17 l t) t.length ⟨0, rfl, Nat.zero_le _, by simp [go_sem, g0], by simp [go_sem, g1], by simp [go_sem], by simp [go_sem], rfl⟩ ?_
  clear hd g23 g22 g21 g1 g0 s h
  rintro m s h ⟨k, rfl, hk, g0, g1, g32, g33, hd⟩
  by_cases hkt : k < t.length
  · have hkt' : (k : Int) < t.length := by omega
    have w2 : IntKind.i64.wrap ((k : Int) + 1) = ((k + 1 : Nat) : Int) := by rw [wrap_in (by omega)]; omega
    have c36 := call36 l t k hkt (fun c hc => okC_of (hv c hc) (hC c hc)) hT hl ht
    rw [List.drop_eq_getElem_cons hkt, infsFrom] at hd
    by_cases hz : infOk l t k t[k] = true
    · rw [hz, Bool.true_and] at hd
      simp [go_sem, g0, g1, g32, g33, hkt', c36, hz, -Int.natCast_add, w2]
      exact ⟨t.length - (k + 1), by omega, k + 1, rfl, hkt, by simp [go_sem, g0], by simp [go_sem, g1], by simp [go_sem, g32], by simp [go_sem], hd⟩
    · have hz' : infOk l t k t[k] = false := by simpa using hz
      rw [hz', Bool.false_and] at hd
      simp [go_sem, g0, g1, g32, g33, hkt', c36, hz']
      exact fin _ _ false (by simp [go_sem]) hd
  have : k = t.length := by omega
  subst this
  rw [List.drop_length, infsFrom] at hd
  simp [go_sem, g32, g33]
  exact fin _ _ true (by simp [go_sem]) hd
def NA19 (l : List Cl) (t : List Inf) (m : Nat) (s : PT) (_ : H) : Prop := ∃ k : Nat, m = l.length - k ∧ k ≤ l.length ∧ (∀ c ∈ l.take k, clauseE c = 0) ∧ s.get 0 = clsV l ∧ s.get 1 = infs t ∧ s.get 5 = .int .i64 k ∧ validCs l = (l.drop k).all fun c => decide (clauseE c = 0)
def NB19 (l : List Cl) (t : List Inf) (m : Nat) (s : PT) (_ : H) : Prop := ∃ k : Nat, m = t.length - k ∧ k ≤ t.length ∧ s.get 0 = clsV l ∧ s.get 1 = infs t ∧ s.get 6 = .int .i64 k ∧ infsFrom l t t 0 = infsFrom l t (t.drop k) k
set_option maxRecDepth 8000 in
set_option maxHeartbeats 4000000 in
theorem check19 (l : List Cl) (t : List Inf) (hC : ∀ c ∈ l, fewCl c 60 = true) (hT : ∀ y ∈ t, okI y) (hl : l.length ≤ 10000) (ht : t.length ≤ 10000) : CallP C 19 [clsV l, infs t] = some (.bool (treeOk l t)) := by
  refine CallP_W rfl Tryz.func19 rfl (by kernel_rfl) (by simp [Tryz.f19]) fun R hR => ?_
  have fin : ∀ (st : PT) (h : H) (e : Bool), st.get 4 = .bool e → treeOk l t = e → R .ret st h := fun st h e h2 he => hR _ _ _ (.inr rfl) ⟨.bool e, by simp [resultV, resV, Tryz.f19, h2], by rw [he]; exact snap_dat rfl rfl⟩
  have hln := len22c l
  have hlt := len42i t
  by_cases q1 : 60 < l.length
  · have q1' : (60 : Int) < l.length := by omega
    simp [go_sem, initS, hln, q1']
    exact fin _ _ false (by simp [go_sem]) (by rw [treeOk, if_pos (.inl q1)])
  have q1' : ¬ (60 : Int) < l.length := by omega
  by_cases q2 : t = []
  · subst q2
    simp [go_sem, initS, hln, hlt, q1']
    exact fin _ _ false (by simp [go_sem]) (by rw [treeOk, if_pos (.inr (.inl rfl))])
  have q2' : ¬ t.length = 0 := fun e => q2 (List.length_eq_zero_iff.1 e)
  by_cases q3 : 400 < t.length
  · have q3' : (400 : Int) < t.length := by omega
    simp [go_sem, initS, hln, hlt, q1', q2, q3']
    exact fin _ _ false (by simp [go_sem]) (by rw [treeOk, if_pos (.inr (.inr q3))])
  have q3' : ¬ (400 : Int) < t.length := by omega
  have he : treeOk l t = (validCs l && infsFrom l t t 0) := by rw [treeOk, if_neg (by omega)]
  rw [he] at fin
  simp [go_sem, hln, hlt, q1', q2, q3']
  refine W_loop (NA19 l t) l.length ⟨0, rfl, Nat.zero_le _, by simp, by simp [go_sem], by simp [go_sem], by simp [go_sem], rfl⟩ ?_
  rintro m s h ⟨k, rfl, hk, hv, g0, g1, g5, hd⟩
  by_cases hkl : k < l.length
  · have hkl' : (k : Int) < l.length := by omega
    have hix := idx22 l k hkl
    have w2 : IntKind.i64.wrap ((k : Int) + 1) = ((k + 1 : Nat) : Int) := by rw [wrap_in (by omega)]; omega
    have l37 := ld37i l[k]
    have c37 := call37 l[k] (few_okF (hC _ (List.getElem_mem hkl)) (by omega) (by omega))
    rw [List.drop_eq_getElem_cons hkl, List.all_cons] at hd
    by_cases hz : clauseE l[k] = 0
    · rw [decide_eq_true hz, Bool.true_and] at hd
      simp [go_sem, g0, g5, hln, hkl', hix, l37, c37, hz, -Int.natCast_add, w2]
      exact ⟨l.length - (k + 1), by omega, k + 1, rfl, hkl, valid_take hkl hv hz, by simp [go_sem, g0], by simp [go_sem, g1], by simp [go_sem], hd⟩
    · rw [decide_eq_false hz, Bool.false_and] at hd
      rw [hd, Bool.false_and] at fin
      simp [go_sem, g0, g5, hln, hkl', hix, l37, c37, hz]
      exact fin _ _ false (by simp [go_sem]) rfl
  have : k = l.length := by omega
  subst this
  rw [List.take_length] at hv
  rw [List.drop_length, List.all_nil] at hd
  rw [hd, Bool.true_and] at fin
  simp [go_sem, g0, g5, hln]
  refine W_loop (NB19 l t) t.length ⟨0, rfl, Nat.zero_le _, by simp [go_sem, g0], by simp [go_sem, g1], by simp [go_sem], rfl⟩ ?_
  clear hd g5 g1 g0 s h
  rintro m s h ⟨k, rfl, hk, g0, g1, g6, hd⟩
  by_cases hkt : k < t.length
  · have hkt' : (k : Int) < t.length := by omega
    have w2 : IntKind.i64.wrap ((k : Int) + 1) = ((k + 1 : Nat) : Int) := by rw [wrap_in (by omega)]; omega
    have c38 := call38 l t k hkt (fun c hc => okC_of (hv c hc) (hC c hc)) hT hl ht
    rw [List.drop_eq_getElem_cons hkt, infsFrom] at hd
    by_cases hz : infOk l t k t[k] = true
    · rw [hz, Bool.true_and] at hd
      simp [go_sem, g0, g1, g6, hlt, hkt', c38, hz, -Int.natCast_add, w2]
      exact ⟨t.length - (k + 1), by omega, k + 1, rfl, hkt, by simp [go_sem, g0], by simp [go_sem, g1], by simp [go_sem], hd⟩
    · have hz' : infOk l t k t[k] = false := by simpa using hz
      rw [hz', Bool.false_and] at hd
      simp [go_sem, g0, g1, g6, hlt, hkt', c38, hz']
      exact fin _ _ false (by simp [go_sem]) hd
  have : k = t.length := by omega
  subst this
  rw [List.drop_length, infsFrom] at hd
  simp [go_sem, g1, g6, hlt]
  exact fin _ _ true (by simp [go_sem]) hd
theorem call19 (l : List Cl) (t : List Inf) (hC : ∀ c ∈ l, fewCl c 60 = true) (hT : ∀ y ∈ t, okI y) (hl : l.length ≤ 10000) (ht : t.length ≤ 10000) (h : H) : callV C h (.func 19 []) (some [clsV l, infs t]) = some (.bool (treeOk l t), h) := callV_strip (by kernel_rfl) rfl (args' := [clsV l, infs t]) rfl rfl (by simp) (check19 l t hC hT hl ht)
theorem call17 (l : List Cl) (t : List Inf) (x y : Ext) (hC : ∀ c ∈ l, fewCl c 60 = true) (hT : ∀ y ∈ t, okI y) (hl : l.length ≤ 10000) (ht : t.length ≤ 10000) (h : H) : callV C h (.func 17 []) (some [.isl (l.map encCl) x, .isl (t.map encI) y]) = some (.bool (treeOk l t), h) := callV_strip (by kernel_rfl) rfl (args' := [clsV l, infs t]) rfl rfl (by simp) (check17 l t hC hT hl ht)
/-- The law. -/
theorem call7 (h : H) : callV C h (.func 7 []) (some []) = some (.bool true, h) := by
  have hp : C.prim 7 [] [] = some (.bool true, []) := by kernel_rfl
  have hq : Go.V.Call C 7 [] [] = some (.bool true, []) := Call_prim (C := C) (fn := Tryz.f7) Tryz.func7 hp
  have e : CallP C 7 [] = some (.bool true) := by
    unfold CallP
    rw [hq]; rfl
  exact callV_strip (by kernel_rfl) rfl (args' := []) rfl rfl (by simp) e
theorem fewI_ok {y : Inf} (h : fewI y = true) : okI y := by
  unfold fewI at h
  split at h
  · cases h
  · split at h
    · cases h
    · rename_i h1 h2
      have hb : fewB y.bs 20 200 = true := by simpa using h2
      simp only [fewB, fewT, Bool.and_eq_true, decide_eq_true_eq, flatB_len] at hb
      have hz := (budgets_law (flatB y.bs) 200 (by omega)).2 hb.2
      refine ⟨by omega, fun b hm => ?_, by omega, few_fact h (by omega) (by omega) y.fact (by simp [factsOf])⟩
      have m1 : b.1 ∈ flatB y.bs := List.mem_flatMap.2 ⟨b, hm, by simp⟩
      have m2 : b.2 ∈ flatB y.bs := List.mem_flatMap.2 ⟨b, hm, by simp⟩
      have s1 := size_mem m1
      have s2 := size_mem m2
      exact ⟨by omega, by omega⟩
set_option maxRecDepth 8000 in
set_option maxHeartbeats 4000000 in
theorem law5 (l : List Cl) (t : List Inf) (hb : ∀ i ∈ t, i.bs.length * 112 ≤ 140737488355328) : CallP C 5 [clsV l, infs t] = some (.bool true) := by
  refine CallP_W rfl Tryz.func5 rfl (by kernel_rfl) (by simp [Tryz.f5]) fun R hR => ?_
  have fin : ∀ (st : PT) (h : H), st.get 4 = .bool true → R .ret st h := fun st h h6 => hR _ _ _ (.inr rfl) ⟨.bool true, by simp [resultV, resV, Tryz.f5, h6], snap_dat rfl rfl⟩
  have c8 := call8 l
  have c16 := call16 t hb
  by_cases q1 : fewCs l 12 60 = true
  rotate_left
  · have q1' : fewCs l 12 60 = false := by simpa using q1
    rw [q1'] at c8
    simp [go_sem, initS, call7, c8]
    exact fin _ _ (by simp [go_sem])
  by_cases q2 : fewTr t = true
  rotate_left
  · have q2' : fewTr t = false := by simpa using q2
    rw [q1] at c8
    rw [q2'] at c16
    simp [go_sem, initS, call7, c8, c16]
    exact fin _ _ (by simp [go_sem])
  rw [q1] at c8
  rw [q2] at c16
  have p1 := q1
  simp only [fewCs, Bool.and_eq_true, decide_eq_true_eq, List.all_eq_true] at p1
  have p2 : t.length ≤ 40 ∧ ∀ y ∈ t, okI y := by
    unfold fewTr at q2
    split at q2
    · cases q2
    · exact ⟨by omega, fun y hy => fewI_ok (List.all_eq_true.1 q2 y hy)⟩
  obtain ⟨x, c11⟩ := call11 l (by omega)
  obtain ⟨y, c18⟩ := call18 t (by omega)
  have c17 := call17 l t x y p1.2 p2.2 (by omega) (by omega)
  have c19 := call19 l t p1.2 p2.2 (by omega) (by omega)
  have eb : ∀ b : Bool, binV C.P .eql 4 (.tmp 22) (.tmp 25) (.bool b) (.bool b) = some (.bool true) := fun b => by cases b <;> kernel_rfl
  simp [go_sem, initS, call7, c8, c16, c11, c18, c17, c19, eb]
  exact fin _ _ (by simp [go_sem])
end Go.VZ

/- Facts, clauses and inferences that came in. -/
namespace Go.VZ
open Go Go.V Go.Proofs TL
theorem c33 : Tryz.prog.cellsOf 33 = 1 := by kernel_rfl
theorem c35 : Tryz.prog.cellsOf 35 = 3 := by kernel_rfl
theorem c37 : Tryz.prog.cellsOf 37 = 4 := by kernel_rfl
theorem c46 : Tryz.prog.cellsOf 46 = 1 := by kernel_rfl
theorem c47 : Tryz.prog.cellsOf 47 = 1 := by kernel_rfl
theorem c49 : Tryz.prog.cellsOf 49 = 6 := by kernel_rfl
section
variable {H : Type} {ec : TypeId × Value → H} {w : World}
theorem len3 {α : Type} {l : List α} (h : l.length = 3) : ∃ a b c, l = [a, b, c] := by
  match l, h with
  | [a, b, c], _ => exact ⟨a, b, c, rfl⟩
theorem fa_one (f : Fa) : ∀ c ∈ faC f, c.one = true := fun c hc => by
  simp only [faC, List.mem_cons, List.not_mem_nil, or_false] at hc
  rcases hc with rfl | rfl | rfl <;> rfl
theorem dec_fact {fuel : Nat} {cs : List Value} {y : DataW H × List MemPlace} (hcs : cs.length = 3) (h : TR ec w fuel 35 cs = some y) : ∃ f : Fa, (f.terms.map T.size).sum ≤ uBulk y.1 ∧ f.terms.length ≤ uBulk y.1 ∧ ∀ (j : Nat) c u, (faC f)[j]? = some c → cs[j]? = some u → IRel (fun _ _ => True) w c u := by
  obtain ⟨xs, n, rfl, rfl, hl, hx, hf⟩ := DataW.trod_struct Tryz.underlying35 h
  have f0 : TR ec w n 3 ((cs.drop 0).take (Tryz.prog.cellsOf 3)) = xs[0]? := hf 0 _ rfl
  have f1 : TR ec w n 3 ((cs.drop 1).take (Tryz.prog.cellsOf 3)) = xs[1]? := hf 1 _ rfl
  have f2 : TR ec w n 23 ((cs.drop 2).take (Tryz.prog.cellsOf 23)) = xs[2]? := hf 2 _ rfl
  obtain ⟨v0, v1, v2, rfl⟩ := len3 hcs
  obtain ⟨x0, x1, x2, rfl⟩ := len3 (l := xs) hx
  simp only [c3, c23, List.drop_zero, List.drop_succ_cons, List.take_succ_cons, List.take_zero, List.getElem?_cons_zero, List.getElem?_cons_succ] at f0 f1 f2
  obtain ⟨k0, e0, rfl, _⟩ := DataW.trod_int Tryz.underlying3 f0
  obtain ⟨k1, e1, rfl, _⟩ := DataW.trod_int Tryz.underlying3 f1
  simp only [List.cons.injEq, and_true] at e0 e1
  subst e0; subst e1
  obtain ⟨l, hr, hll, hls⟩ := dec_terms f2
  refine ⟨⟨k0, k1, l⟩, ?_, ?_, fun j c u hc hu => ?_⟩
  · simp only [List.map_cons, List.map_nil, uBulk, YtdoegkegjaadeaaGreatDoor.Rows.uptoBulk, YtdoegkegjaadeaaGreatDoor.Rows.uptoBulkAll] at hls ⊢
    omega
  · simp only [List.map_cons, List.map_nil, uBulk, YtdoegkegjaadeaaGreatDoor.Rows.uptoBulk, YtdoegkegjaadeaaGreatDoor.Rows.uptoBulkAll] at hll ⊢
    omega
  · match j, hc, hu with
    | 0, hc, hu => simp [faC] at hc hu; subst hc; subst hu; exact .int _ _
    | 1, hc, hu => simp [faC] at hc hu; subst hc; subst hu; exact .int _ _
    | 2, hc, hu => simp [faC] at hc hu; subst hc; subst hu; exact hr
    | j + 3, hc, hu => simp [faC] at hc
theorem dec_facts {n : Nat} {v : Value} {x : DataW H × List MemPlace} (h : TR ec w n 33 [v] = some x) : ∃ l : List Fa, IRel (fun _ _ => True) w (factsV l) v := by
  obtain ⟨l, hr, _, _⟩ := dec_slice (toV := encFa) (sz := fun _ => 0) Tryz.underlying33 c35 (by omega) (fun f => ⟨rfl, rfl, fa_one f⟩) (fun m _ cs y h1 h2 => by
    obtain ⟨f, _, _, hf⟩ := dec_fact h1 h2
    exact ⟨f, Nat.zero_le _, hf⟩) h
  exact ⟨l, hr⟩
theorem dec_clause {fuel : Nat} {cs : List Value} {y : DataW H × List MemPlace} (hcs : cs.length = 4) (h : TR ec w fuel 37 cs = some y) : ∃ c : Cl, ∀ (j : Nat) a u, (clC c)[j]? = some a → cs[j]? = some u → IRel (fun _ _ => True) w a u := by
  obtain ⟨xs, n, rfl, rfl, hl, hx, hf⟩ := DataW.trod_struct Tryz.underlying37 h
  have f0 : TR ec w n 33 ((cs.drop 0).take (Tryz.prog.cellsOf 33)) = xs[0]? := hf 0 _ rfl
  have f1 : TR ec w n 35 ((cs.drop 1).take (Tryz.prog.cellsOf 35)) = xs[1]? := hf 1 _ rfl
  obtain ⟨v0, v1, v2, v3, rfl⟩ := len4 hcs
  obtain ⟨x0, x1, rfl⟩ : ∃ a b, xs = [a, b] := by
    match xs, hx with
    | [a, b], _ => exact ⟨a, b, rfl⟩
  simp only [c33, c35, List.drop_zero, List.drop_succ_cons, List.take_succ_cons, List.take_zero, List.getElem?_cons_zero, List.getElem?_cons_succ] at f0 f1
  obtain ⟨b, hb⟩ := dec_facts f0
  obtain ⟨g, _, _, hg⟩ := dec_fact rfl f1
  refine ⟨⟨b, g⟩, fun j a u ha hu => ?_⟩
  match j, ha, hu with
  | 0, ha, hu => simp [clC] at ha hu; subst ha; subst hu; exact hb
  | j + 1, ha, hu => exact hg j a u ha hu
theorem dec_clauses {n : Nat} {v : Value} {x : DataW H × List MemPlace} (h : TR ec w n 22 [v] = some x) : ∃ l : List Cl, IRel (fun _ _ => True) w (clsV l) v := by
  obtain ⟨l, hr, _, _⟩ := dec_slice (toV := encCl) (sz := fun _ => 0) Tryz.underlying22 c37 (by omega) (fun c => ⟨rfl, rfl, fun a ha => by
    rcases List.mem_cons.1 (show a ∈ factsV c.body :: faC c.head from ha) with rfl | ha
    · rfl
    · exact fa_one c.head a ha⟩) (fun m _ cs y h1 h2 => by
    obtain ⟨c, hc⟩ := dec_clause h1 h2
    exact ⟨c, Nat.zero_le _, hc⟩) h
  exact ⟨l, hr⟩
theorem dec_infs {n : Nat} {v : Value} {x : DataW H × List MemPlace} (h : TR ec w n 42 [v] = some x) : ∃ l : List Inf, IRel (fun _ _ => True) w (infs l) v ∧ ∀ i ∈ l, ∃ d ∈ elemsD x.1, ∃ y, (aggD d)[1]? = some y ∧ i.bs.length = (elemsD y).length := by
  obtain ⟨l, hr, _, hs⟩ := dec_sliceQ (toV := encI) (Q := fun (i : Inf) d => ∃ y, (aggD d)[1]? = some y ∧ i.bs.length = (elemsD y).length) Tryz.underlying42 c49 (by omega) (fun i => ⟨rfl, rfl, fun a ha => by
    rcases List.mem_cons.1 (show a ∈ .int .i64 i.clause :: binds i.bs :: ints i.kids :: faC i.fact from ha) with rfl | ha
    · rfl
    · rcases List.mem_cons.1 ha with rfl | ha
      · rfl
      · rcases List.mem_cons.1 ha with rfl | ha
        · rfl
        · exact fa_one i.fact a ha⟩) (fun m _ cs y h1 h2 => by
    obtain ⟨xs, n, rfl, rfl, hl, hx, hf⟩ := DataW.trod_struct Tryz.underlying49 h2
    have f0 : TR ec w n 3 ((cs.drop 0).take (Tryz.prog.cellsOf 3)) = xs[0]? := hf 0 _ rfl
    have f1 : TR ec w n 46 ((cs.drop 1).take (Tryz.prog.cellsOf 46)) = xs[1]? := hf 1 _ rfl
    have f2 : TR ec w n 47 ((cs.drop 2).take (Tryz.prog.cellsOf 47)) = xs[2]? := hf 2 _ rfl
    have f3 : TR ec w n 35 ((cs.drop 3).take (Tryz.prog.cellsOf 35)) = xs[3]? := hf 3 _ rfl
    obtain ⟨v0, v1, v2, v3, v4, v5, rfl⟩ := len6 h1
    obtain ⟨x0, x1, x2, x3, rfl⟩ := len4 (l := xs) hx
    simp only [c3, c46, c47, c35, List.drop_zero, List.drop_succ_cons, List.take_succ_cons, List.take_zero, List.getElem?_cons_zero, List.getElem?_cons_succ] at f0 f1 f2 f3
    obtain ⟨k0, e0, rfl, _⟩ := DataW.trod_int Tryz.underlying3 f0
    simp only [List.cons.injEq, and_true] at e0
    subst e0
    obtain ⟨bs, hb, hbl⟩ := dec_binds f1
    obtain ⟨ks, hk⟩ := dec_ints f2
    obtain ⟨g, _, _, hg⟩ := dec_fact rfl f3
    refine ⟨⟨k0, bs, ks, g⟩, ?_, fun j a u ha hu => ?_⟩
    · exact ⟨_, rfl, hbl⟩
    · match j, ha, hu with
      | 0, ha, hu => simp [encI, infC, cells_agg] at ha hu; subst ha; subst hu; exact .int _ _
      | 1, ha, hu => simp [encI, infC, cells_agg] at ha hu; subst ha; subst hu; exact hb
      | 2, ha, hu => simp [encI, infC, cells_agg] at ha hu; subst ha; subst hu; exact hk
      | j + 3, ha, hu => exact hg j a u ha hu) h
  refine ⟨l, hr, fun i hi => ?_⟩
  obtain ⟨k, hk, rfl⟩ := List.mem_iff_getElem.1 hi
  obtain ⟨d, h1, h2⟩ := hs k _ (List.getElem?_eq_getElem hk)
  exact ⟨d, List.mem_of_getElem? h1, h2⟩
end
end Go.VZ

/- What is laid of term.words, as the value machine has it. -/
namespace Go.VZ
open Go Go.V Go.Proofs TL
/-- A row of values, out of the cells that lie there. -/
theorem isl_rel {w : World} {α : Type} {toV : α → AV} {k : Nat} (h0 : 0 < k) (hl : ∀ a : α, (toV a).cells.length = k ∧ notTuple (toV a) = true ∧ ∀ c ∈ (toV a).cells, c.one = true) {l : List α} {a : Addr} {cap : Nat} (hlc : l.length ≤ cap) (hcm : cap ≤ maxLen) (hne : 0 < l.length)
    (hlp : ∀ (i : Nat) a', l[i]? = some a' → ∃ cs, w.cells? 0 (a.add (i * k)) k = some cs ∧ ∀ (j : Nat) c u, (toV a').cells[j]? = some c → cs[j]? = some u → IRel (fun _ _ => True) w c u) : IRel (fun _ _ => True) w (.isl (l.map toV) .unk) (.slice (some a) l.length cap) := by
  obtain ⟨b, o, z⟩ := a
  have hz' : z = none := by
    obtain ⟨cs, h1, _⟩ := hlp 0 (l[0]'(by omega)) (List.getElem?_eq_getElem (by omega))
    obtain ⟨h2, h3⟩ := cells_of h1
    have := h3 0 (cs[0]'(by omega)) (List.getElem?_eq_getElem (by omega))
    exact addr_zero (by simpa using this)
  subst hz'
  have key : ∀ (i j : Nat) e' c, (l.map toV)[i]? = some e' → e'.cells[j]? = some c → ∃ u, w.cell? ⟨b, o + i * k + j, none⟩ = some u ∧ IRel (fun _ _ => True) w c u := fun i j e' c he hc => by
    rw [List.getElem?_map] at he
    obtain ⟨a', ha, rfl⟩ := Option.map_eq_some_iff.1 he
    obtain ⟨cs, h1, h4⟩ := hlp i a' ha
    obtain ⟨h2, h3⟩ := cells_of h1
    have hj : j < cs.length := by have := (List.getElem?_eq_some_iff.1 hc).1; rw [(hl a').1] at this; omega
    have := h3 j cs[j] (List.getElem?_eq_getElem hj)
    exact ⟨cs[j], addr_cell this, h4 j c _ hc (List.getElem?_eq_getElem hj)⟩
  have := IRel.isl (A := fun _ _ => True) (w := w) (es := l.map toV) (sz := k) (b := b) (o := o) (cap := cap) (fun i j => (w.cell? ⟨b, o + i * k + j, none⟩).getD .nilIface) h0 (by simp; omega) hcm
    (fun e' he => by
      obtain ⟨a', _, rfl⟩ := List.mem_map.1 he
      exact ⟨(hl a').1, (hl a').2.1⟩)
    (fun e' he c hc => by
      obtain ⟨a', _, rfl⟩ := List.mem_map.1 he
      exact (hl a').2.2 c hc)
    (fun i j e' c he hc => by
      obtain ⟨u, h1, _⟩ := key i j e' c he hc
      exact ⟨trivial, by rw [h1]; rfl⟩)
    (fun i j e' c he hc => by
      obtain ⟨u, h1, h2⟩ := key i j e' c he hc
      rw [h1]; exact h2)
  rw [List.length_map] at this
  exact this
def wordsB : List ByteArray := [⟨#[97, 110, 121]⟩, ⟨#[97, 103, 101, 110, 116]⟩, ⟨#[110, 111, 110, 99, 101]⟩, ⟨#[107, 101, 121]⟩, ⟨#[100, 97, 116, 97]⟩, ⟨#[116, 97, 103]⟩]
theorem glob_words {w : World} (h : laidMetH Tryz.prog YtdoegkegjaadeaaGreatDoor.Rows.queryCheckTreeUptoRow.laid w) : GlobR (fun _ _ => True) w := by
  rw [MakeChecks.laidMetH_plain _ _ _ (by kernel_rfl)] at h
  obtain ⟨ps, h, _, _⟩ := h
  obtain ⟨_, _, _, _, _, _, _, _, _, _, h, _⟩ := h
  obtain ⟨_, _, _, _, _, _, _, _, _, _, h, _⟩ := h
  obtain ⟨_, _, _, _, _, _, _, _, _, _, h, _⟩ := h
  obtain ⟨g, t, cs, fuel, p, q, hg, ht, hv, hr, _, _⟩ := h
  have e1 : Tryz.prog.globalNamed "sealring/term.words" = some 1 := by kernel_rfl
  have e2 : (Tryz.prog.globals[1]?).map (·.type) = some 52 := by kernel_rfl
  have eg : g = 1 := Option.some.inj (hg.symm.trans e1)
  subst eg
  have et : t = 52 := Option.some.inj (ht.symm.trans e2)
  subst et
  have hcell : ∃ c0 c1, w.heap[1]? = some (.cells cs c0 c1) := by
    unfold World.var? at hv
    rw [show Tryz.prog.globalNamed _ = some 1 from e1] at hv
    simp only [Option.bind_some] at hv
    split at hv
    · rename_i c0 c1 hh
      simp only [Option.some.injEq] at hv
      subst hv
      exact ⟨_, _, hh⟩
    · cases hv
  obtain ⟨c0, c1, hcell⟩ := hcell
  rcases DataW.trod_slice Tryz.underlying52 hr with ⟨_, hx⟩ | ⟨a, len, cap, elems, rest, n, rfl, hcs, hx, _, hlc, hcm, hel, hes, _, _⟩
  · cases hx
  · simp only [Prod.mk.injEq] at hx
    have hd : elems.map (·.1) = wordsB.map fun b => DataW.lit (.string b.data.toList) := by
      have := hx.1
      simp only [YtdoegkegjaadeaaGreatDoor.Rows.laid_sealring_term_words, DataW.slice.injEq] at this
      exact this.1.symm
    have hlen : wordsB.length = len := by
      have := congrArg List.length hd
      simp only [List.length_map] at this
      omega
    have hrel : IRel (fun _ _ => True) w (.isl (wordsB.map AV.str) .unk) (.slice (some a) len cap) := by
      rw [← hlen]
      refine isl_rel (k := 1) (by omega) (fun a => ⟨rfl, rfl, fun c hc => by simp [AV.cells] at hc; subst hc; rfl⟩) (by omega) hcm (by decide) fun i b hb => ?_
      have hi : i < len := by have := (List.getElem?_eq_some_iff.1 hb).1; omega
      have h1 := hes i hi
      have h2 : elems[i]? = some (elems[i]'(by omega)) := List.getElem?_eq_getElem (by omega)
      rw [h2, c9] at h1
      obtain ⟨cs', h3, h4⟩ := Option.bind_eq_some_iff.1 h1
      refine ⟨cs', h3, fun j c u hc hu => ?_⟩
      obtain ⟨s, e, e', _⟩ := DataW.trod_string Tryz.underlying9 h4
      have h5 := congrArg (·[i]?) hd
      simp only [List.getElem?_map, h2, hb, Option.map_some, Option.some.injEq, e'] at h5
      have hs : s.data.toList = b.data.toList := by
        simpa using h5
      have : s = b := name_inj.1 hs
      subst this
      subst e
      match j, hc, hu with
      | 0, hc, hu => simp [AV.cells] at hc hu; subst hc; subst hu; exact .str _
      | j + 1, hc, hu => simp [AV.cells] at hc
    intro g' a' hg'
    unfold globData at hg'
    split at hg'
    · rename_i e; subst e
      simp only [Option.some.injEq] at hg'
      subst hg'
      have hc1 : w.cell? ⟨1, 0, none⟩ = some (.slice (some a) len cap) := by
        have : cs = #[.slice (some a) len cap] := by apply Array.ext'; simpa using hcs
        simp [World.cell?, hcell, this]
      refine IRel.iptr (off := 0) (b := 1) (o := 0) (fun _ => .slice (some a) len cap) ?_ ?_ ?_
      · intro c hc; simp [AV.cells] at hc; subst hc; rfl
      · intro j c hc
        match j, hc with
        | 0, _ => exact ⟨trivial, hc1⟩
        | j + 1, hc => simp [AV.cells] at hc
      · intro j c hc
        match j, hc with
        | 0, hc => simp [AV.cells] at hc; subst hc; exact hrel
        | j + 1, hc => simp [AV.cells] at hc
    · cases hg'
end Go.VZ
