/- Facts of clauses: their form; whether they are valid, both ways. -/
import Derived.Test.YtdoegkegjaadeaaGreatDoorSc
namespace Go.VZ
open Go Go.V Go.Proofs TL
structure Fa where
  kind : Int
  goal : Int
  terms : List T
def faC (f : Fa) : List AV := [.int .i64 f.kind, .int .i64 f.goal, terms f.terms]
def encFa (f : Fa) : AV := .agg (faC f)
theorem s35 : sizeV C.P 35 = some 3 := by kernel_rfl
theorem a35 : isAggB C.P 35 = some true := by kernel_rfl
theorem box35 (f : Fa) (h : H) : boxV C.P h 35 (encFa f) = some (.ptr h.length 0, h ++ [.cells (faC f) .live]) := by
  simp [boxV, encFa, s35, faC, notTuple, cells_agg]
theorem fa35_0 (i o : Nat) : fieldAddrV C.P 35 (.ptr i o) 0 = some (.ptr i o) := by kernel_rfl
theorem fa35_1 (i o : Nat) : fieldAddrV C.P 35 (.ptr i o) 1 = some (.ptr i (o + 1)) := by kernel_rfl
theorem fa35_2 (i o : Nat) : fieldAddrV C.P 35 (.ptr i o) 2 = some (.ptr i (o + 2)) := by kernel_rfl
attribute [go_sem] fa35_0 fa35_1 fa35_2
theorem ld3f0 {h : H} {i : Nat} {f : Fa} (hi : h[i]? = some (.cells (faC f) .live)) : loadV C.P h 3 (.ptr i 0) = some (.int .i64 f.kind) := by simp [loadV, hi, cellsAt, a3, s3, faC]
theorem ld3f1 {h : H} {i : Nat} {f : Fa} (hi : h[i]? = some (.cells (faC f) .live)) : loadV C.P h 3 (.ptr i 1) = some (.int .i64 f.goal) := by simp [loadV, hi, cellsAt, a3, s3, faC]
theorem ld23f {h : H} {i : Nat} {f : Fa} (hi : h[i]? = some (.cells (faC f) .live)) : loadV C.P h 23 (.ptr i 2) = some (terms f.terms) := by simp [loadV, hi, cellsAt, a23, s23, faC, terms, notTuple]
theorem len23t (l : List T) : lenV C.P 23 (terms l) = some (.int .i64 l.length) := by simp [terms, len23]
theorem idx23t (l : List T) (k : Nat) (hk : k < l.length) : indexAddrV C.P 23 (terms l) (.int .i64 k) = some (.iptr (enc l[k]) 0) := idx23 l k hk .unk
theorem dat_fa (f : Fa) : dats [encFa f] = some [encFa f] := rfl
theorem short_fa (f : Fa) : short (encFa f) = true := rfl
def validsE : List T → Int
  | [] => 0
  | t :: l => if validE t ≠ 0 then validE t else validsE l
def factE (f : Fa) : Int :=
  if (f.kind ≠ 1 ∧ f.kind ≠ 2 ∧ f.kind ≠ 3) ∨ f.kind = 1 ∧ (f.terms.length ≠ 1 ∨ f.goal ≠ 0) then 1
  else if f.goal < 0 ∨ 7 < f.goal then 7
  else if f.terms.length = 0 then 8
  else if 8 < f.terms.length then 3
  else validsE f.terms
def smallF (l : List T) : Prop := ∀ t ∈ l, t.size < 4000000
def NI66 (f : Fa) (n : Nat) (st : PT) (h : H) : Prop := ∃ k : Nat, n = f.terms.length - k ∧ k ≤ f.terms.length ∧ h[0]? = some (.cells (faC f) .live) ∧ st.get 1 = .ptr 0 0 ∧ st.get 3 = .int .i64 k ∧ validsE f.terms = validsE (f.terms.drop k)
set_option maxRecDepth 8000 in
set_option maxHeartbeats 4000000 in
theorem fact66 (f : Fa) (hs : smallF f.terms) (hl : f.terms.length < 4000000) : CallP C 66 [encFa f] = some (.int .i64 (factE f)) := by
  refine CallP_W rfl Tryz.func66 rfl (by kernel_rfl) (by simp [Tryz.f66]) fun R hR => ?_
  have fin : ∀ (st : PT) (h : H) (e : Int), st.get 2 = .int .i64 e → factE f = e → R .ret st h := fun st h e h2 he => hR _ _ _ (.inr rfl) ⟨.int .i64 e, by simp [resultV, resV, Tryz.f66, h2], by rw [he]; exact snap_dat rfl rfl⟩
  have m0 : ([.cells (faC f) .live] : H)[0]? = some (.cells (faC f) .live) := rfl
  have k0 := ld3f0 m0
  have k1 := ld3f1 m0
  have k2 := ld23f m0
  have hln := len23t f.terms
  have q0 : ([] : H) ++ [.cells (faC f) .live] = [.cells (faC f) .live] := rfl
  simp +contextual [go_sem, initS, box35, k0, k1, k2, hln]
  refine Ife_iff.2 ⟨fun h1 => ?_, fun h1 => ?_⟩
  · simp [go_sem]
    refine fin _ _ 1 (by simp [go_sem]) ?_
    unfold factE
    rw [if_pos]
    rcases h1 with ⟨⟨a, b⟩, c⟩ | ⟨a, b⟩
    · exact .inl ⟨a, b, c⟩
    · exact .inr ⟨a, b.imp (fun e h => e (by omega)) id⟩
  have n1 : ¬((f.kind ≠ 1 ∧ f.kind ≠ 2 ∧ f.kind ≠ 3) ∨ f.kind = 1 ∧ (f.terms.length ≠ 1 ∨ f.goal ≠ 0)) := by
    rintro (⟨a, b, c⟩ | ⟨a, b⟩)
    · exact h1 (.inl ⟨⟨a, b⟩, c⟩)
    · exact h1 (.inr ⟨a, b.imp (fun e h => e (by omega)) id⟩)
  simp +contextual [go_sem, k1]
  refine Ife_iff.2 ⟨fun h2 => ?_, fun h2 => ?_⟩
  · simp [go_sem]
    exact fin _ _ 7 (by simp [go_sem]) (by unfold factE; rw [if_neg n1, if_pos h2])
  simp +contextual [go_sem, k2, hln]
  refine Ife_iff.2 ⟨fun h3 => ?_, fun h3 => ?_⟩
  · simp [go_sem]
    exact fin _ _ 8 (by simp [go_sem]) (by unfold factE; rw [if_neg n1, if_neg h2, if_pos (by simpa using h3)])
  simp +contextual [go_sem, k2, hln]
  refine Ife_iff.2 ⟨fun h4 => ?_, fun h4 => ?_⟩
  · simp [go_sem]
    exact fin _ _ 3 (by simp [go_sem]) (by unfold factE; rw [if_neg n1, if_neg h2, if_neg (by simpa using h3), if_pos (by omega)])
  have he : factE f = validsE f.terms := by unfold factE; rw [if_neg n1, if_neg h2, if_neg (by simpa using h3), if_neg (by omega)]
  simp [go_sem]
  refine W_loop (NI66 f) f.terms.length ⟨0, rfl, Nat.zero_le _, rfl, by simp [go_sem], by simp [go_sem], rfl⟩ ?_
  rintro n st h ⟨k, rfl, hk, n0, g1, g3, hd⟩
  have k2' := ld23f n0
  by_cases hlt : k < f.terms.length
  · have hlt' : (k : Int) < f.terms.length := by omega
    have hix := idx23t f.terms k hlt
    have c86 := call86 f.terms[k] (hs _ (List.getElem_mem hlt))
    have w2 : IntKind.i64.wrap ((k : Int) + 1) = ((k + 1 : Nat) : Int) := by rw [wrap_in (by omega)]; omega
    rw [List.drop_eq_getElem_cons hlt, validsE] at hd
    by_cases hz : validE f.terms[k] = 0
    · simp [go_sem, g1, g3, k2', hln, hlt', hix, ld25, c86, hz, -Int.natCast_add, w2]
      exact ⟨f.terms.length - (k + 1), by omega, k + 1, rfl, hlt, n0, by simp [go_sem, g1], by simp [go_sem], by rw [hd, if_neg (by simpa using hz)]⟩
    · simp [go_sem, g1, g3, k2', hln, hlt', hix, ld25, c86, hz]
      exact fin _ _ (validE f.terms[k]) (by simp [go_sem]) (by rw [he, hd, if_pos hz])
  · have : k = f.terms.length := by omega
    subst this
    rw [List.drop_length, validsE] at hd
    simp [go_sem, g1, g3, k2', hln]
    exact fin _ _ 0 (by simp [go_sem]) (by rw [he, hd])
theorem call66 (f : Fa) (hs : smallF f.terms) (hl : f.terms.length < 4000000) (h : H) : callV C h (.func 66 []) (some [encFa f]) = some (.int .i64 (factE f), h) := callV_strip (by kernel_rfl) rfl (dat_fa f) (by simp [short_fa]) (by simp) (fact66 f hs hl)
def NI58 (f : Fa) (n : Nat) (st : PT) (h : H) : Prop := ∃ k : Nat, n = f.terms.length - k ∧ k ≤ f.terms.length ∧ st.get 42 = terms f.terms ∧ st.get 43 = .int .i64 f.terms.length ∧ st.get 44 = .int .i64 k ∧ validsE f.terms = validsE (f.terms.drop k)
set_option maxRecDepth 8000 in
set_option maxHeartbeats 4000000 in
theorem fact58 (f : Fa) (hs : smallF f.terms) (hl : f.terms.length < 4000000) : CallP C 58 [encFa f] = some (.int .i64 (factE f)) := by
  refine CallP_W rfl Tryz.func58 rfl (by kernel_rfl) (by simp [Tryz.f58]) fun R hR => ?_
  have fin : ∀ (st : PT) (h : H) (e : Int), st.get 2 = .int .i64 e → factE f = e → R .ret st h := fun st h e h2 he => hR _ _ _ (.inr rfl) ⟨.int .i64 e, by simp [resultV, resV, Tryz.f58, h2], by rw [he]; exact snap_dat rfl rfl⟩
  have m0 : ([.cells (faC f) .live] : H)[0]? = some (.cells (faC f) .live) := rfl
  have k0 := ld3f0 m0
  have k1 := ld3f1 m0
  have k2 := ld23f m0
  have hln := len23t f.terms
  by_cases e1 : f.kind = 1
  · simp +contextual [go_sem, initS, box35, k0, k1, k2, hln, e1]
    refine Ife_iff.2 ⟨fun h1 => ?_, fun h1 => ?_⟩
    · simp [go_sem]
      exact fin _ _ 1 (by simp [go_sem]) (by unfold factE; rw [if_pos (.inr ⟨e1, h1.imp (fun e h => e (by omega)) id⟩)])
    have n1 : f.terms.length = 1 ∧ f.goal = 0 := by
      constructor
      · exact Decidable.byContradiction fun e => h1 (.inl (by omega))
      · exact Decidable.byContradiction fun e => h1 (.inr e)
    have he : factE f = validsE f.terms := by
      unfold factE
      rw [if_neg (by rintro (⟨a, _⟩ | ⟨_, b⟩); exact a e1; omega), if_neg (by omega), if_neg (by omega), if_neg (by omega)]
    revert he
    intro he
    simp [go_sem, k2, hln]
    refine W_loop (NI58 f) f.terms.length ⟨0, rfl, Nat.zero_le _, by simp [go_sem], by simp [go_sem], by simp [go_sem], rfl⟩ ?_
    rintro n st h ⟨k, rfl, hk, g42, g43, g44, hd⟩
    by_cases hlt : k < f.terms.length
    · have hlt' : (k : Int) < f.terms.length := by omega
      have hix := idx23t f.terms k hlt
      have c111 := call111 f.terms[k] (hs _ (List.getElem_mem hlt))
      have e4 := st25z f.terms[k] h
      have e5 := ldb25z f.terms[k] h
      have w2 : IntKind.i64.wrap ((k : Int) + 1) = ((k + 1 : Nat) : Int) := by rw [wrap_in (by omega)]; omega
      rw [List.drop_eq_getElem_cons hlt, validsE] at hd
      by_cases hz : validE f.terms[k] = 0
      · simp [go_sem, g42, g43, g44, hlt', hix, ld25, e4, e5, c111, hz, -Int.natCast_add, w2]
        exact ⟨f.terms.length - (k + 1), by omega, k + 1, rfl, hlt, by simp [go_sem, g42], by simp [go_sem, g43], by simp [go_sem], by rw [hd, if_neg (by simpa using hz)]⟩
      · simp [go_sem, g42, g43, g44, hlt', hix, ld25, e4, e5, c111, hz]
        exact fin _ _ (validE f.terms[k]) (by simp [go_sem]) (by rw [he, hd, if_pos hz])
    · have : k = f.terms.length := by omega
      subst this
      rw [List.drop_length, validsE] at hd
      simp [go_sem, g42, g43, g44]
      exact fin _ _ 0 (by simp [go_sem]) (by rw [he, hd])
  by_cases e2 : f.kind = 2 ∨ f.kind = 3
  · have n1 : ¬((f.kind ≠ 1 ∧ f.kind ≠ 2 ∧ f.kind ≠ 3) ∨ f.kind = 1 ∧ (f.terms.length ≠ 1 ∨ f.goal ≠ 0)) := by
      rintro (⟨a, b, c⟩ | ⟨a, b⟩)
      · rcases e2 with e | e
        · exact b e
        · exact c e
      · exact e1 a
    rcases e2 with e2 | e2
    all_goals
      simp +contextual [go_sem, initS, box35, k0, k1, k2, hln, e1, e2]
      refine Ife_iff.2 ⟨fun h2 => ?_, fun h2 => ?_⟩
      · simp [go_sem]
        exact fin _ _ 7 (by simp [go_sem]) (by unfold factE; rw [if_neg n1, if_pos h2])
      simp +contextual [go_sem, k1, k2, hln]
      refine Ife_iff.2 ⟨fun h3 => ?_, fun h3 => ?_⟩
      · simp [go_sem]
        exact fin _ _ 8 (by simp [go_sem]) (by unfold factE; rw [if_neg n1, if_neg h2, if_pos (by simpa using h3)])
      simp +contextual [go_sem, k1, k2, hln]
      refine Ife_iff.2 ⟨fun h4 => ?_, fun h4 => ?_⟩
      · simp [go_sem]
        exact fin _ _ 3 (by simp [go_sem]) (by unfold factE; rw [if_neg n1, if_neg h2, if_neg (by simpa using h3), if_pos (by omega)])
      have he : factE f = validsE f.terms := by unfold factE; rw [if_neg n1, if_neg h2, if_neg (by simpa using h3), if_neg (by omega)]
      simp [go_sem, k2, hln]
      refine W_loop (NI58 f) f.terms.length ⟨0, rfl, Nat.zero_le _, by simp [go_sem], by simp [go_sem], by simp [go_sem], rfl⟩ ?_
      rintro n st h ⟨k, rfl, hk, g42, g43, g44, hd⟩
      by_cases hlt : k < f.terms.length
      · have hlt' : (k : Int) < f.terms.length := by omega
        have hix := idx23t f.terms k hlt
        have c111 := call111 f.terms[k] (hs _ (List.getElem_mem hlt))
        have e4 := st25z f.terms[k] h
        have e5 := ldb25z f.terms[k] h
        have w2 : IntKind.i64.wrap ((k : Int) + 1) = ((k + 1 : Nat) : Int) := by rw [wrap_in (by omega)]; omega
        rw [List.drop_eq_getElem_cons hlt, validsE] at hd
        by_cases hz : validE f.terms[k] = 0
        · simp [go_sem, g42, g43, g44, hlt', hix, ld25, e4, e5, c111, hz, -Int.natCast_add, w2]
          exact ⟨f.terms.length - (k + 1), by omega, k + 1, rfl, hlt, by simp [go_sem, g42], by simp [go_sem, g43], by simp [go_sem], by rw [hd, if_neg (by simpa using hz)]⟩
        · simp [go_sem, g42, g43, g44, hlt', hix, ld25, e4, e5, c111, hz]
          exact fin _ _ (validE f.terms[k]) (by simp [go_sem]) (by rw [he, hd, if_pos hz])
      · have : k = f.terms.length := by omega
        subst this
        rw [List.drop_length, validsE] at hd
        simp [go_sem, g42, g43, g44]
        exact fin _ _ 0 (by simp [go_sem]) (by rw [he, hd])

  · simp +contextual [go_sem, initS, box35, k0, k1, k2, hln, e1, show f.kind ≠ 2 from fun e => e2 (.inl e), show f.kind ≠ 3 from fun e => e2 (.inr e)]
    exact fin _ _ 1 (by simp [go_sem]) (by unfold factE; rw [if_pos (.inl ⟨e1, fun e => e2 (.inl e), fun e => e2 (.inr e)⟩)])
theorem call58 (f : Fa) (hs : smallF f.terms) (hl : f.terms.length < 4000000) (h : H) : callV C h (.func 58 []) (some [encFa f]) = some (.int .i64 (factE f), h) := callV_strip (by kernel_rfl) rfl (dat_fa f) (by simp [short_fa]) (by simp) (fact58 f hs hl)
end Go.VZ

/- Clauses: their form; the copy of a row of facts; the facts of a clause; whether it is valid, both ways. -/
namespace Go.VZ
open Go Go.V Go.Proofs TL
structure Cl where
  body : List Fa
  head : Fa
def factsV (l : List Fa) : AV := .isl (l.map encFa) .unk
def clC (c : Cl) : List AV := factsV c.body :: faC c.head
def encCl (c : Cl) : AV := .agg (clC c)
def cellsF (l : List Fa) : List AV := l.flatMap faC
theorem cellsF_cons (a : Fa) (l : List Fa) : cellsF (a :: l) = [.int .i64 a.kind, .int .i64 a.goal, terms a.terms] ++ cellsF l := rfl
theorem cellsF_len (l : List Fa) : (cellsF l).length = 3 * l.length := by
  induction l with
  | nil => rfl
  | cons a l ih => rw [cellsF_cons, List.length_append, ih]; simp; omega
theorem dats_cellsF (l : List Fa) : dats (cellsF l) = some (cellsF l) := by
  induction l with
  | nil => rfl
  | cons a l ih => rw [cellsF_cons]; exact dats_append rfl ih
theorem short_cellsF (l : List Fa) : (cellsF l).all short = true := by
  induction l with
  | nil => rfl
  | cons a l ih => rw [cellsF_cons, List.all_append, ih]; rfl
theorem u33 : C.P.underlying 33 = some (.slice 35) := Tryz.underlying33
theorem s33 : sizeV C.P 33 = some 1 := by kernel_rfl
theorem a33 : isAggB C.P 33 = some false := by kernel_rfl
theorem s37 : sizeV C.P 37 = some 4 := by kernel_rfl
theorem a37 : isAggB C.P 37 = some true := by kernel_rfl
theorem b35 : bytesV C.P 35 = some 40 := by kernel_rfl
theorem z35 : zeroOk C.P 35 = true := by kernel_rfl
theorem szOk_encFa (l : List Fa) : szOk 3 (l.map encFa) = true := by cases l <;> simp [szOk, encFa, faC, cells_agg]
theorem is33 : isSliceT C.P 33 = some 35 := by kernel_rfl
attribute [go_sem] is33
theorem len33 (es : List AV) (x : Ext) : lenV C.P 33 (.isl es x) = some (.int .i64 es.length) := by simp [lenV, u33]
theorem len33f (l : List Fa) : lenV C.P 33 (factsV l) = some (.int .i64 l.length) := by simp [factsV, len33]
theorem len33m (id n : Nat) : lenV C.P 33 (.msl id 0 3 n none) = some (.int .i64 n) := by simp [lenV, u33]
theorem idx33 (l : List Fa) (k : Nat) (hk : k < l.length) (x : Ext) : indexAddrV C.P 33 (.isl (l.map encFa) x) (.int .i64 k) = some (.iptr (encFa l[k]) 0) := by
  simp [indexAddrV, u33, s35, encFa, faC, cells_agg, hk]
theorem ld35i (f : Fa) (h : H) : loadV C.P h 35 (.iptr (encFa f) 0) = some (encFa f) := by simp [loadV, cellsAt, a35, s35, encFa, faC, cells_agg]
theorem fa37_0 (i : Nat) : fieldAddrV C.P 37 (.ptr i 0) 0 = some (.ptr i 0) := by kernel_rfl
theorem fa37_1 (i : Nat) : fieldAddrV C.P 37 (.ptr i 0) 1 = some (.ptr i 1) := by kernel_rfl
attribute [go_sem] fa37_0 fa37_1
theorem box37 (c : Cl) (h : H) : boxV C.P h 37 (encCl c) = some (.ptr h.length 0, h ++ [.cells (clC c) .live]) := by
  simp [boxV, encCl, s37, clC, faC, notTuple, cells_agg]
theorem ld33c {h : H} {i : Nat} {c : Cl} (hi : h[i]? = some (.cells (clC c) .live)) : loadV C.P h 33 (.ptr i 0) = some (factsV c.body) := by simp [loadV, hi, cellsAt, a33, s33, clC, factsV, notTuple]
theorem ld35c {h : H} {i : Nat} {c : Cl} (hi : h[i]? = some (.cells (clC c) .live)) : loadV C.P h 35 (.ptr i 1) = some (encFa c.head) := by simp [loadV, hi, cellsAt, a35, s35, clC, encFa, faC]
theorem ld37c {h : H} {i : Nat} {c : Cl} (hi : h[i]? = some (.cells (clC c) .live)) : loadV C.P h 37 (.ptr i 0) = some (encCl c) := by simp [loadV, hi, cellsAt, a37, s37, clC, encCl, faC]
theorem dat_cl (c : Cl) : dats [encCl c] = some [encCl c] := rfl
theorem short_cl (c : Cl) : short (encCl c) = true := rfl
def RowF (h : H) (v : AV) (l : List Fa) : Prop := (l = [] ∧ v = .isl [] .full) ∨ ∃ id, v = .msl id 0 3 l.length none ∧ h[id]? = some (.cells (cellsF l) .live)
set_option maxHeartbeats 1000000 in
theorem clone96 (a : Fa) (l : List Fa) (hl : (a :: l).length ≤ 10000) : Go.V.Call C 96 [factsV (a :: l)] [] = some (.msl 0 0 3 (a :: l).length none, [.cells (cellsF (a :: l)) .live]) := by
  refine Call_W rfl Tryz.func96 rfl (by kernel_rfl) (by simp [Tryz.f96]) fun R hR => ?_
  have hsz := szOk_encFa (a :: l)
  have e1 : binV C.P .eql 33 (.tmp 3) (.const (.slice none 0 0)) (factsV (a :: l)) (.isl [] .full) = some (.bool false) := by
    simp [binV, factsV, toVal, toScalar, nilCmpV, sureV, isNil, isSl, u33, eqSign]
  have e2 : buildSliceV C.P [] 33 0 [] = some (.isl [] .full, []) := buildSlice_dats u33 s35 z35 rfl (by omega) rfl rfl rfl (by simp) rfl
  have e3 : appendW C.P true [] 33 (.isl [] .full) (factsV (a :: l)) = some (.msl 0 0 3 (a :: l).length none, [.cells (cellsF (a :: l)) .live]) := by
    have e4 : srcV [] 3 (.isl ((a :: l).map encFa) .unk) = some (cellsF (a :: l), (a :: l).length) := by
      simp only [srcV, hsz, if_true, cellsF, List.flatMap_map, List.length_map, encFa, cells_agg]
    simp only [appendW, knownCap, Bool.not_true, if_false, Bool.false_eq_true, appendN, u33, s35, b35, z35, factsV, e4]
    have h0 : 0 < (a :: l).length := by simp
    generalize (a :: l).length = m at hl h0
    have h1 : ¬ m = 0 := by omega
    have h2 : m * 41 ≤ 35184372088832 := by omega
    simp [szOk, h1, h2]
  simp [go_sem, initS, e1, e2, e3]
  refine hR _ _ _ (.inr rfl) ⟨.msl 0 0 3 (a :: l).length none, by simp [resultV, resV, Tryz.f96, go_sem], rfl⟩
theorem callV_ownM3 {f : FuncId} {h : H} {args args' : List AV} (hb : hasBody C.P f = true) (hm : C.mode f = .ownM) (hd : dats args = some args') (hs : args.all short = true) (hl : args.length < 90000)
    {id len sz : Nat} {h1 : H} {cs : List AV} (hsz : 1 < sz) (hc : Go.V.Call C f args' [] = some (.msl id 0 sz len none, h1)) (hid : h1[id]? = some (.cells cs .live)) (hcs : dats cs = some cs) (hsh : cs.all short = true) (hcl : cs.length ≤ 90000) (hlen : len * sz ≤ cs.length) :
    callV C h (.func f []) (some args) = some (.msl h.length 0 sz len none, h ++ [.cells cs .live]) := by
  obtain ⟨e1, e2⟩ := dats_snap (h := h) hd hs deep (by unfold deep; omega)
  simp only [callV, hb, if_true, List.append_nil]
  unfold applyCall
  rw [hm]
  dsimp only
  rw [e2]
  simp only [Go.V.freeze, e1]
  rw [hc]
  dsimp only
  unfold finishV
  dsimp only
  have f1 := (dats_snap (h := freezeBut h1 id) hcs hsh deep (by unfold deep; omega)).1
  have f2 : adoptR C.P .ownM h1 h (.msl id 0 sz len none) = none := by
    simp only [adoptR, adopt, hid]
    rw [if_neg (by omega)]
  rw [f2]
  simp only [adoptD, adoptM, hid, f1]
  rw [if_pos ⟨by omega, by omega⟩]
theorem call96 (l : List Fa) (h : H) (hl : l.length ≤ 10000) : ∃ v h', callV C h (.func 96 []) (some [factsV l]) = some (v, h') ∧ RowF h' v l ∧ Keep h h' none := by
  cases l with
  | nil =>
    refine ⟨.isl [] .full, h, ?_, .inl ⟨rfl, rfl⟩, .refl _ _⟩
    have e1 := (dats_snap (h := h) (l := [factsV []]) (l' := [.isl [] .unk]) rfl rfl deep (by simp [deep]))
    have hbd : hasBody C.P 96 = true := by kernel_rfl
    simp only [callV, hbd, if_true, List.append_nil]
    unfold applyCall
    rw [show C.mode 96 = .ownM from rfl]
    dsimp only
    rw [e1.2]
    simp only [Go.V.freeze, e1.1]
    have hp : C.prim 96 [.isl [] .unk] [] = some (.isl [] .full, []) := by kernel_rfl
    have hq : Go.V.Call C 96 [.isl [] .unk] [] = some (.isl [] .full, []) := Call_prim (C := C) (fn := Tryz.f96) Tryz.func96 hp
    rw [hq]
    rfl
  | cons a l =>
    refine ⟨.msl h.length 0 3 (a :: l).length none, h ++ [.cells (cellsF (a :: l)) .live], ?_, .inr ⟨_, rfl, by simp⟩, .append _ _ _⟩
    have hcl := cellsF_len (a :: l)
    exact callV_ownM3 (by kernel_rfl) rfl (args' := [factsV (a :: l)]) rfl rfl (by simp) (by omega) (clone96 a l hl) rfl (dats_cellsF _) (short_cellsF _) (by omega) (by omega)
/-- A fact behind a row of facts of one's own. -/
theorem appendF {h : H} {v : AV} {l : List Fa} (f : Fa) (r : RowF h v l) (hl : l.length ≤ 10000) : ∃ id h', appendW C.P true h 33 v (.isl [encFa f] .full) = some (.msl id 0 3 (l.length + 1) none, h') ∧ h'[id]? = some (.cells (cellsF (l ++ [f])) .live) ∧ Keep h h' (idOf v) := by
  have hsz := szOk_encFa [f]
  have e4 : srcV h 3 (.isl [encFa f] .full) = some (faC f, 1) := by
    simp only [List.map_cons, List.map_nil] at hsz
    simp only [srcV, hsz, if_true]; simp [encFa, cells_agg]
  have hcf : cellsF (l ++ [f]) = cellsF l ++ faC f := by simp [cellsF]
  rcases r with ⟨rfl, rfl⟩ | ⟨id, rfl, hid⟩
  · refine ⟨h.length, h ++ [.cells (faC f) .live], ?_, by rw [hcf]; simp [cellsF], .append _ _ _⟩
    simp only [appendW, knownCap, Bool.not_true, if_false, Bool.false_eq_true, appendN, u33, s35, b35, z35, e4]
    simp [szOk]
  · have hcl := cellsF_len l
    refine ⟨h.length, h.set id (.cells (cellsF l) .dead) ++ [.cells (cellsF l ++ faC f) .live], ?_, by rw [hcf, List.getElem?_append_right (by simp)]; simp, ?_⟩
    · simp only [appendW, knownCap, Bool.not_true, if_false, Bool.false_eq_true, appendN, u33, s35, b35, z35, e4, hid]
      rw [if_neg (by simp)]
      rw [if_neg (by simp), if_pos ⟨trivial, trivial, by omega, by omega⟩, List.take_of_length_le (by omega)]
    · exact ⟨by simp, fun j hj hn => by rw [List.getElem?_append_left (by simpa using hj), List.getElem?_set_ne (fun e => hn (by simp [idOf, e]))]⟩
theorem build33_1 (h : H) (f : Fa) : buildSliceV C.P h 33 1 [(0, encFa f)] = some (.isl [encFa f] .full, h) := buildSlice_dats u33 s35 z35 rfl (by omega) rfl rfl rfl (by simp) rfl
theorem chunk_cellsF : ∀ l : List Fa, chunk 3 l.length (cellsF l) = l.map encFa
  | [] => rfl
  | a :: l => by
    have := chunk_cellsF l
    rw [cellsF_cons]
    simp only [List.length_cons, chunk, List.cons_append, List.nil_append, List.take_succ_cons, List.take_zero, List.drop_succ_cons, List.drop_zero, List.map_cons, this, encFa, faC]
theorem freezeAll_live {cs : List AV} : ∀ (h : H) (i : Nat), h[i]? = some (.cells cs .live) → (freezeAll h)[i]? = some (.cells cs .frozen)
  | [], i, e => by cases e
  | o :: r, 0, e => by
    have : o = .cells cs .live := by simpa using e
    subst this; rfl
  | o :: r, i + 1, e => by
    have e2 : r[i]? = some (.cells cs .live) := by simpa using e
    have := freezeAll_live r i e2
    cases o with
    | cells c st => cases st <;> simpa [freezeAll] using this
    | _ => simpa [freezeAll] using this
/-- What a row of facts of one's own holds. -/
theorem snap_rowF {h : H} {id : Nat} {l : List Fa} (hid : h[id]? = some (.cells (cellsF l) .live)) (hl : l.length ≤ 20000) : snap (freezeAll h) deep (.msl id 0 3 l.length none) = some (factsV l) := by
  have hcl := cellsF_len l
  obtain ⟨e3, _⟩ := dats_snap (h := freezeAll h) (dats_cellsF l) (short_cellsF l) 999999 (by omega)
  have hz : (freezeAll h)[id]? = some (.cells (cellsF l) .frozen) := freezeAll_live h id hid
  have : deep = 999999 + 1 := rfl
  rw [this]
  simp only [snap, hz, e3]
  rw [if_pos (by omega), List.drop_zero, chunk_cellsF]; rfl
def factsOf (c : Cl) : List Fa := c.body ++ [c.head]
end Go.VZ

/- A mixed region, walked by its value. -/
namespace Go.VZ
open Go Go.V Go.Proofs TL
theorem W_regionM {C : Cfg} {cf : FuncId} {R : Ex → PT → H → Prop} {k : List It} {s s' : PT} {h h' : H} (id : Nat) (ops : Array Oper) (hm : C.mix cf id = true) (hx : mixV C (Go.V.Call C) cf ops s h = some (s', h')) (hk : N C cf R k s' h') : W C cf R (.region id ops true) k s h :=
  ⟨.normal, s', h', by rw [Exe_mix id ops hm, hx], hk⟩
end Go.VZ

/- Mixed regions, walked operation by operation. -/
namespace Go.V
open Go
/-- A mixed region from operation i on. -/
def MX (C : Cfg) (cf : FuncId) (ops : Array Oper) (base : Nat) (K : PT → H → List FP → Prop) : Nat → List Oper → PT → H → List FP → Prop
  | _, [], s, h, F => K s h F
  | i, o :: l, s, h, F => ∃ v h2 f, mixStep C (Call C) cf ops base i o s h = some (v, h2, f) ∧ MX C cf ops base K (i + 1) l (putV s o.dst v) h2 (F ++ [f])
theorem MX_to {C : Cfg} {cf : FuncId} {ops : Array Oper} {base : Nat} {K : PT → H → List FP → Prop} {s0 : PT} {h0 : H} : ∀ (l : List Oper) (i : Nat) (s : PT) (h : H) (F : List FP), i + l.length = ops.size → ops.toList.drop i = l →
    mixTo C (Call C) cf ops base i s0 h0 = some (s, h, F) → MX C cf ops base K i l s h F → ∃ s' h' F', mixTo C (Call C) cf ops base ops.size s0 h0 = some (s', h', F') ∧ K s' h' F'
  | [], i, s, h, F, hi, _, hs, hm => ⟨s, h, F, by rw [← hi]; exact hs, hm⟩
  | o :: l, i, s, h, F, hi, hd, hs, ⟨v, h2, f, e, hm⟩ => by
    have hlt : i < ops.size := by simp only [List.length_cons] at hi; omega
    have ho : ops[i]? = some o := by
      have := congrArg (fun l => l[0]?) hd
      simpa using this
    refine MX_to l (i + 1) _ _ _ (by simp only [List.length_cons] at hi; omega) (by rw [← List.tail_drop, hd]; rfl) ?_ hm
    simp only [mixTo, hs, ho, e]
def lids : AV → List Nat
  | .ptr id _ => [id]
  | _ => []
section
variable {C : Cfg} {cf : FuncId} {ops : Array Oper} {base : Nat} {K : PT → H → List FP → Prop} {i : Nat} {l : List Oper} {s : PT} {h : H} {F : List FP}
theorem foot_pure {o : Oper} (ha : active o = false) (hl : isLoad o = false) : foot C s h o = some ([], false) := by
  unfold foot
  rw [if_neg (by rw [ha]; simp)]
  unfold isLoad at hl
  split
  · rename_i e; rw [e] at hl; cases hl
  · rfl
theorem MX_pure0 {o : Oper} (v : AV) (hg : o.guard = none) (ha : active o = false) (hl : isLoad o = false) (hp : isVoid h[base + i]? = true) (hv : opN C.P s o = some v) (hm : v.mv h.length (base + i) = v)
    (hk : MX C cf ops base K (i + 1) l (putV s o.dst v) h (F ++ [([], [])])) : MX C cf ops base K i (o :: l) s h F := by
  refine ⟨v, h, ([], []), ?_, hk⟩
  unfold mixStep
  rw [if_pos (by simp [Region.wanted, hg]), foot_pure ha hl, opV_pure ha hl, hv]
  dsimp only
  rw [if_pos ⟨by omega, rfl, hp⟩, hm]
  rfl
theorem MX_pure {d : Tmp} {op : Op} {ty : TypeId} {p : String} {af : Array Edge} (v : AV) (ha : active ⟨some d, op, ty, p, af, none⟩ = false) (hl : isLoad ⟨some d, op, ty, p, af, none⟩ = false) (hp : isVoid h[base + i]? = true) (hv : opN C.P s ⟨some d, op, ty, p, af, none⟩ = some v) (hm : v.mv h.length (base + i) = v)
    (hk : MX C cf ops base K (i + 1) l (s.set d v) h (F ++ [([], [])])) : MX C cf ops base K i (⟨some d, op, ty, p, af, none⟩ :: l) s h F := MX_pure0 v rfl ha hl hp hv hm hk
theorem MX_load {d : Tmp} {t ty : TypeId} {x : Operand} {p : String} {af : Array Edge} (a v : AV) (hx : ev s x = some a) (hv : loadV C.P h t a = some v) (hn : (lids a).contains (base + i) = false) (hp : isVoid h[base + i]? = true) (hm : v.mv h.length (base + i) = v)
    (hk : MX C cf ops base K (i + 1) l (s.set d v) h (F ++ [(lids a, [])])) : MX C cf ops base K i (⟨some d, .load t x, ty, p, af, none⟩ :: l) s h F := by
  refine ⟨v, h, (lids a, []), ?_, hk⟩
  have hf : foot C s h ⟨some d, .load t x, ty, p, af, none⟩ = some (lids a, false) := by
    simp only [foot, active, Bool.false_eq_true, if_false, hx]
    cases a <;> rfl
  unfold mixStep
  rw [if_pos (by simp [Region.wanted]), hf, opV_load rfl]
  simp only [hx, hv]
  rw [if_pos ⟨by omega, hn, hp⟩, hm]
  rfl
theorem fin_none (p : Nat) (h : H) : fin p [] h h = h := by
  apply List.ext_getElem?
  intro j
  rw [fin_get]
  simp
theorem fin_push {p : Nat} {h : H} {y : VObj} (hp : p < h.length) : fin p [] h (h ++ [y]) = h.set p (y.mv h.length p) := by
  apply List.ext_getElem?
  intro j
  rw [fin_get, List.getElem?_set]
  by_cases e : p = j
  · subst e; simp [hp]
  · simp [e, show ¬ j = p from fun h => e h.symm]
theorem fin_store {p id : Nat} {h : H} {z : VObj} (hp : id ≠ p) : fin p [id] h (h.set id z) = h.set id (z.mv h.length p) := by
  apply List.ext_getElem?
  intro j
  rw [fin_get]
  by_cases e : id = j
  · subst e
    by_cases hl : id < h.length
    · simp [hl, hp]
    · simp [hl]
  · by_cases e2 : j = p
    · subst e2
      have e3 : (h.set id z)[h.length]? = none := by simp
      rw [e3, List.getElem?_set_ne e (a := z.mv h.length j)]
      simp
    · simp [e, e2, show ¬ j = id from fun h => e h.symm]
theorem isVoid_lt {h : H} {p : Nat} (hp : isVoid h[p]? = true) : p < h.length := by
  cases e : h[p]? with
  | none => rw [e] at hp; cases hp
  | some x => exact (List.getElem?_eq_some_iff.1 e).1
theorem MX_call {d : Tmp} {ty : TypeId} {p : String} {af : Array Edge} {f : FuncId} {args : List Operand} {at_ : Array TypeId} (al : List AV) (v : AV) (hb : hasBody C.P f = true) (hmd : C.mode f = .strip) (hx : evs s args = some al) (hr : reachs h deep al = [])
    (hc : callV C h (.func f []) (some al) = some (v, h)) (hp : isVoid h[base + i]? = true) (hm : v.mv h.length (base + i) = v)
    (hk : MX C cf ops base K (i + 1) l (s.set d v) h (F ++ [([base + i], [base + i])])) : MX C cf ops base K i (⟨some d, .call { callee := .value (.func f), args := args.toArray, argTypes := at_ }, ty, p, af, none⟩ :: l) s h F := by
  refine ⟨v, h, ([base + i], [base + i]), ?_, hk⟩
  have hf : foot C s h ⟨some d, .call { callee := .value (.func f), args := args.toArray, argTypes := at_ }, ty, p, af, none⟩ = some ([], true) := by
    simp only [foot, active, if_true, hx, ev, hb, hmd, List.append_nil, hr]
  have ho : opV C (Call C) cf s h ⟨some d, .call { callee := .value (.func f), args := args.toArray, argTypes := at_ }, ty, p, af, none⟩ = some (v, h) := by
    rw [opV_active rfl, ← hc]
    simp only [opA, hx, ev, callV]
  unfold mixStep
  rw [if_pos (by simp [Region.wanted]), hf, ho]
  dsimp only
  rw [if_pos ⟨by omega, rfl, hp⟩, hm, if_pos rfl, if_pos rfl, fin_none]
theorem MX_push0 {o : Oper} (v : AV) (y : VObj) (hg : o.guard = none) (hf : foot C s h o = some ([], true)) (ho : opV C (Call C) cf s h o = some (v, h ++ [y])) (hp : isVoid h[base + i]? = true)
    (hk : MX C cf ops base K (i + 1) l (putV s o.dst (v.mv h.length (base + i))) (h.set (base + i) (y.mv h.length (base + i))) (F ++ [([base + i], [base + i])])) : MX C cf ops base K i (o :: l) s h F := by
  refine ⟨v.mv h.length (base + i), h.set (base + i) (y.mv h.length (base + i)), ([base + i], [base + i]), ?_, hk⟩
  unfold mixStep
  rw [if_pos (by simp [Region.wanted, hg]), hf, ho]
  dsimp only
  rw [if_pos ⟨by simp, rfl, hp⟩, if_pos rfl, if_pos rfl, fin_push (isVoid_lt hp)]
theorem MX_alloc {d : Tmp} {t ty : TypeId} {p : String} {af : Array Edge} (z : AV) (hz : zeroV C.P t = some z) (hp : isVoid h[base + i]? = true)
    (hk : MX C cf ops base K (i + 1) l (s.set d (.ptr (base + i) 0)) (h.set (base + i) ((VObj.cells z.cells .live).mv h.length (base + i))) (F ++ [([base + i], [base + i])])) : MX C cf ops base K i (⟨some d, .alloc t, ty, p, af, none⟩ :: l) s h F := by
  refine MX_push0 (.ptr h.length 0) (.cells z.cells .live) rfl rfl ?_ hp ?_
  · rw [opV_active rfl]; simp only [opA, hz]
  · have : (AV.ptr h.length 0).mv h.length (base + i) = .ptr (base + i) 0 := by simp [AV.mv]
    rw [this]; exact hk
theorem MX_store {t ty : TypeId} {a x : Operand} {p : String} {af : Array Edge} (id off : Nat) (v : AV) (z : VObj) (hx : ev s a = some (.ptr id off)) (hv : ev s x = some v) (hs : storeV C.P h t (.ptr id off) v = some (h.set id z)) (hn : id ≠ base + i) (hp : isVoid h[base + i]? = true)
    (hk : MX C cf ops base K (i + 1) l (s) (h.set id (z.mv h.length (base + i))) (F ++ [([base + i, id], [base + i, id])])) : MX C cf ops base K i (⟨none, .store t a x, ty, p, af, none⟩ :: l) s h F := by
  refine ⟨AV.undef, h.set id (z.mv h.length (base + i)), ([base + i, id], [base + i, id]), ?_, hk⟩
  have hf : foot C s h ⟨none, .store t a x, ty, p, af, none⟩ = some ([id], true) := by simp only [foot, active, if_true, hx]
  have ho : opV C (Call C) cf s h ⟨none, .store t a x, ty, p, af, none⟩ = some (AV.undef, h.set id z) := by
    rw [opV_active rfl]
    simp only [opA, hx, hv, hs]
  unfold mixStep
  rw [if_pos (by simp [Region.wanted]), hf, ho]
  dsimp only
  rw [if_pos ⟨by simp, by simpa using fun e => hn e.symm, hp⟩, if_pos rfl, if_pos rfl, fin_store hn]
  rfl
end
end Go.V
namespace Go.VZ
open Go Go.V Go.Proofs TL
theorem W_mixed {C : Cfg} {cf : FuncId} {R : Ex → PT → H → Prop} {k : List It} {s : PT} {h : H} (id : Nat) (ops : Array Oper) (hm : C.mix cf id = true) (ht : tmpOk ops = true)
    (hx : MX C cf ops h.length (fun s' h' F => fpOk ops F = true ∧ N C cf R k s' h') 0 ops.toList s (h ++ List.replicate ops.size .void) []) : W C cf R (.region id ops true) k s h := by
  obtain ⟨s', h', F, e, hf, hk⟩ := MX_to ops.toList 0 s _ [] (by simp) rfl rfl hx
  exact W_regionM id ops hm (by simp only [mixV, ht, if_true, e, hf]) hk
end Go.VZ

/- The mixed region of the document's Covered: one term with the bindings put. -/
namespace Go.VZ
open Go Go.V Go.Proofs TL
theorem mv_enc (i k : Nat) (t : T) : (enc t).mv i k = enc t := by
  cases t; simp only [enc, AV.mv, AV.mvs]
theorem mv_zero (i k : Nat) : VObj.mv i k (.cells [.int .i64 0, .str ⟨#[]⟩, .int .i64 0, .isl [] .full] .live) = .cells [.int .i64 0, .str ⟨#[]⟩, .int .i64 0, .isl [] .full] .live := rfl
theorem mv_cellsT (i k : Nat) (t : T) : VObj.mv i k (.cells (enc t).cells .live) = .cells (enc t).cells .live := by rw [enc_cells]; rfl
/-- The memory of a mixed region: old objects, and places. -/
structure Pl (h H0 : H) (n : Nat) : Prop where
  len : H0.length = h.length + n
  old : ∀ j, j < h.length → H0[j]? = h[j]?
  void : ∀ i, i < n → H0[h.length + i]? = some .void
theorem Pl.mk' (h : H) (n : Nat) : Pl h (h ++ List.replicate n .void) n := ⟨by simp, fun j hj => List.getElem?_append_left hj, fun i hi => by rw [List.getElem?_append_right (by omega)]; simp [hi]⟩
theorem Pl.isV {h H0 : H} {n : Nat} (p : Pl h H0 n) {i : Nat} (hi : i < n) : isVoid H0[h.length + i]? = true := by rw [p.void i hi]; rfl
theorem Pl.get {h H0 : H} {n : Nat} (p : Pl h H0 n) {j : Nat} {o : VObj} (hj : h[j]? = some o) : H0[j]? = some o := by rw [p.old j (List.getElem?_eq_some_iff.1 hj).1]; exact hj
theorem ptr_mv {i j o n k : Nat} (h : i < j) (hn : j ≤ n) : (AV.ptr i o).mv n k = .ptr i o := by simp [AV.mv]; omega
theorem isV_set {H0 : H} {a b : Nat} {y : VObj} (hb : isVoid H0[b]? = true) (h : a ≠ b) : isVoid (H0.set a y)[b]? = true := by rw [List.getElem?_set_ne h]; exact hb
theorem ldn25 {h : H} {i : Nat} (t : T) (hi : h[i]? = some (.cells (enc t).cells .live)) : loadV C.P h 25 (.ptr i 0) = some (enc t) := by
  rw [enc_cells] at hi
  simp [loadV, hi, cellsAt, a25, s25]; rw [enc_eq]
theorem lids_no {i o k : Nat} (h : i ≠ k) : (lids (.ptr i o)).contains k = false := by simpa [lids] using fun e => h e.symm
end Go.VZ

/- The facts of a clause: both ways of the same text; mixed regions with rows of one's own. -/
namespace Go.V
open Go
section
variable {C : Cfg} {cf : FuncId} {ops : Array Oper} {base : Nat} {K : PT → H → List FP → Prop} {i : Nat} {l : List Oper} {s : PT} {h : H} {F : List FP}
/-- An operation in general. -/
theorem MX_op {o : Oper} (T : List Nat) (v : AV) (h' g : H) (hg : o.guard = none) (hf : foot C s h o = some (T, true)) (ho : opV C (Call C) cf s h o = some (v, h')) (hl : h'.length ≤ h.length + 1) (hT : T.contains (base + i) = false) (hp : isVoid h[base + i]? = true)
    (hfin : fin (base + i) T h h' = g) (hk : MX C cf ops base K (i + 1) l (putV s o.dst (v.mv h.length (base + i))) g (F ++ [((base + i) :: T, (base + i) :: T)])) : MX C cf ops base K i (o :: l) s h F := by
  refine ⟨v.mv h.length (base + i), g, ((base + i) :: T, (base + i) :: T), ?_, hk⟩
  unfold mixStep
  rw [if_pos (by simp [Region.wanted, hg]), hf, ho]
  dsimp only
  rw [if_pos ⟨hl, hT, hp⟩, if_pos rfl, if_pos rfl, hfin]
theorem foot_call {d : Tmp} {ty : TypeId} {p : String} {af : Array Edge} {f : FuncId} {args : List Operand} {at_ : Array TypeId} {al : List AV} (hb : hasBody C.P f = true) (hmd : C.mode f = .strip ∨ C.mode f = .ownM) (hx : evs s args = some al) (hr : reachs h deep al = []) :
    foot C s h ⟨some d, .call { callee := .value (.func f), args := args.toArray, argTypes := at_ }, ty, p, af, none⟩ = some ([], true) := by
  rcases hmd with e | e <;> simp only [foot, active, if_true, hx, ev, hb, e, List.append_nil, hr]
theorem opV_call {d : Tmp} {ty : TypeId} {p : String} {af : Array Edge} {f : FuncId} {args : List Operand} {at_ : Array TypeId} {al : List AV} {v : AV} {h' : H} (hx : evs s args = some al) (hc : callV C h (.func f []) (some al) = some (v, h')) :
    opV C (Call C) cf s h ⟨some d, .call { callee := .value (.func f), args := args.toArray, argTypes := at_ }, ty, p, af, none⟩ = some (v, h') := by
  rw [opV_active rfl, ← hc]
  simp only [opA, hx, ev, callV]
theorem MX_callM {d : Tmp} {ty : TypeId} {p : String} {af : Array Edge} {f : FuncId} {args : List Operand} {at_ : Array TypeId} (al : List AV) (v : AV) (y : VObj) (hb : hasBody C.P f = true) (hmd : C.mode f = .strip ∨ C.mode f = .ownM) (hx : evs s args = some al) (hr : reachs h deep al = [])
    (hc : callV C h (.func f []) (some al) = some (v, h ++ [y])) (hp : isVoid h[base + i]? = true)
    (hk : MX C cf ops base K (i + 1) l (s.set d (v.mv h.length (base + i))) (h.set (base + i) (y.mv h.length (base + i))) (F ++ [([base + i], [base + i])])) : MX C cf ops base K i (⟨some d, .call { callee := .value (.func f), args := args.toArray, argTypes := at_ }, ty, p, af, none⟩ :: l) s h F :=
  MX_push0 v y rfl (foot_call hb hmd hx hr) (opV_call hx hc) hp hk
theorem MX_call0 {d : Tmp} {ty : TypeId} {p : String} {af : Array Edge} {f : FuncId} {args : List Operand} {at_ : Array TypeId} (al : List AV) (v : AV) (hb : hasBody C.P f = true) (hmd : C.mode f = .strip ∨ C.mode f = .ownM) (hx : evs s args = some al) (hr : reachs h deep al = [])
    (hc : callV C h (.func f []) (some al) = some (v, h)) (hp : isVoid h[base + i]? = true)
    (hk : MX C cf ops base K (i + 1) l (s.set d (v.mv h.length (base + i))) h (F ++ [([base + i], [base + i])])) : MX C cf ops base K i (⟨some d, .call { callee := .value (.func f), args := args.toArray, argTypes := at_ }, ty, p, af, none⟩ :: l) s h F :=
  MX_op [] v h h rfl (foot_call hb hmd hx hr) (opV_call hx hc) (by omega) rfl hp (fin_none _ _) hk
theorem MX_build {d : Tmp} {t ty : TypeId} {len : Nat} {parts : List (Nat × Operand)} {p : String} {af : Array Edge} (ps : List (Nat × AV)) (v : AV) (hx : partsV s parts = some ps) (hr : reachs h deep (ps.map (·.2)) = [])
    (hc : buildSliceV C.P h t len ps = some (v, h)) (hp : isVoid h[base + i]? = true)
    (hk : MX C cf ops base K (i + 1) l (s.set d (v.mv h.length (base + i))) h (F ++ [([base + i], [base + i])])) : MX C cf ops base K i (⟨some d, .buildSlice t len parts.toArray, ty, p, af, none⟩ :: l) s h F := by
  refine MX_op [] v h h rfl ?_ ?_ (by omega) rfl hp (fin_none _ _) hk
  · simp only [foot, active, if_true, hx, hr]
  · rw [opV_active rfl]; simp only [opA, hx, hc]
theorem MX_append {d : Tmp} {ty t : TypeId} {a b : Operand} {p : String} {af : Array Edge} (va vb v : AV) (h' g : H) (hx : ev s a = some va) (hy : ev s b = some vb) (hc : appendW C.P (C.wr cf d) h t va vb = some (v, h')) (hl : h'.length ≤ h.length + 1)
    (hT : (mslId va ++ tokId va ++ mslId vb).contains (base + i) = false) (hp : isVoid h[base + i]? = true) (hfin : fin (base + i) (mslId va ++ tokId va ++ mslId vb) h h' = g)
    (hk : MX C cf ops base K (i + 1) l (s.set d (v.mv h.length (base + i))) g (F ++ [((base + i) :: (mslId va ++ tokId va ++ mslId vb), (base + i) :: (mslId va ++ tokId va ++ mslId vb))])) : MX C cf ops base K i (⟨some d, .call { callee := .builtin .append, args := #[a, b], argTypes := #[t, t] }, ty, p, af, none⟩ :: l) s h F := by
  refine MX_op _ v h' g rfl ?_ ?_ hl hT hp hfin hk
  · simp only [foot, active, if_true, hx, hy]
  · rw [opV_active rfl]; simp only [opA, hx, hy, wrO, hc, if_true]
theorem fin_dead {p id : Nat} {h : H} {z y : VObj} (hp : p < h.length) (hn : id ≠ p) : fin p [id] h (h.set id z ++ [y]) = (h.set id (z.mv h.length p)).set p (y.mv h.length p) := by
  apply List.ext_getElem?
  intro j
  rw [fin_get, List.getElem?_set, List.getElem?_set]
  by_cases e : p = j
  · subst e; simp [hp]
  · by_cases e2 : id = j
    · subst e2
      by_cases hl : id < h.length
      · simp [e, hl, hn, List.getElem?_append_left]
      · simp [e, hl, hn]
    · simp [e, e2, show ¬ j = p from fun h => e h.symm, show ¬ j = id from fun h => e2 h.symm]
end
end Go.V

/- The facts of a clause: both ways walked. -/
namespace Go.VZ
open Go Go.V Go.Proofs TL
theorem mvs_self (l : List AV) (h : ∀ a ∈ l, ∀ i k, a.mv i k = a) (i k : Nat) : AV.mvs i k l = l := mvs_id fun j a ha => h a (List.mem_of_getElem? ha) i k
theorem mv_fa (f : Fa) (i k : Nat) : (encFa f).mv i k = encFa f := rfl
theorem mv_facts (l : List Fa) (i k : Nat) : (factsV l).mv i k = factsV l := rfl
theorem mv_cl (c : Cl) (i k : Nat) : (encCl c).mv i k = encCl c := rfl
theorem mvs_cellsF (l : List Fa) (i k : Nat) : AV.mvs i k (cellsF l) = cellsF l := mvs_self _ (by
  intro a ha i k
  simp only [cellsF, List.mem_flatMap] at ha
  obtain ⟨f, _, ha⟩ := ha
  simp only [faC, List.mem_cons, List.not_mem_nil, or_false] at ha
  rcases ha with rfl | rfl | rfl <;> rfl) i k
theorem mv_cellsF (l : List Fa) (i k : Nat) : VObj.mv i k (.cells (cellsF l) .live) = .cells (cellsF l) .live := by simp [VObj.mv, mvs_cellsF]
theorem call96n (h : H) : callV C h (.func 96 []) (some [factsV []]) = some (.isl [] .full, h) := by
  have e1 := (dats_snap (h := h) (l := [factsV []]) (l' := [.isl [] .unk]) rfl rfl deep (by simp [deep]))
  have hbd : hasBody C.P 96 = true := by kernel_rfl
  simp only [callV, hbd, if_true, List.append_nil]
  unfold applyCall
  rw [show C.mode 96 = .ownM from rfl]
  dsimp only
  rw [e1.2]
  simp only [Go.V.freeze, e1.1]
  have hp : C.prim 96 [.isl [] .unk] [] = some (.isl [] .full, []) := by simp [C, prim, primClone, cloneIds]
  have hq : Go.V.Call C 96 [.isl [] .unk] [] = some (.isl [] .full, []) := Call_prim (C := C) (fn := Tryz.f96) Tryz.func96 hp
  rw [hq]
  rfl
theorem call96c (a : Fa) (l : List Fa) (h : H) (hl : (a :: l).length ≤ 10000) : callV C h (.func 96 []) (some [factsV (a :: l)]) = some (.msl h.length 0 3 (a :: l).length none, h ++ [.cells (cellsF (a :: l)) .live]) := by
  have hcl := cellsF_len (a :: l)
  exact callV_ownM3 (by kernel_rfl) rfl (args' := [factsV (a :: l)]) rfl rfl (by simp) (by omega) (clone96 a l hl) rfl (dats_cellsF _) (short_cellsF _) (by omega) (by omega)
theorem parts1 {s : PT} {x : Operand} {v : AV} (h : ev s x = some v) (hn : notTuple v = true) : partsV s [(0, x)] = some [(0, v)] := by simp [partsV, h, hn]
theorem reachs_fa (h : H) (f : Fa) : reachs h deep [encFa f] = [] := (dats_snap (h := h) (l := [encFa f]) (l' := [encFa f]) rfl rfl deep (by simp [deep])).2
theorem reachs_facts (h : H) (l : List Fa) : reachs h deep [factsV l] = [] := (dats_snap (h := h) (l := [factsV l]) (l' := [factsV l]) rfl rfl deep (by simp [deep])).2
theorem appN0 (h : H) (f : Fa) : appendW C.P true h 33 (.isl [] .full) (.isl [encFa f] .full) = some (.msl h.length 0 3 1 none, h ++ [.cells (cellsF [f]) .live]) := by
  obtain ⟨id, h', e, _⟩ := appendF (h := h) (v := .isl [] .full) (l := []) f (.inl ⟨rfl, rfl⟩) (by simp)
  have hsz := szOk_encFa [f]
  have e4 : srcV h 3 (.isl [encFa f] .full) = some (faC f, 1) := by
    simp only [List.map_cons, List.map_nil] at hsz
    simp only [srcV, hsz, if_true]; simp [encFa, cells_agg]
  simp only [appendW, knownCap, Bool.not_true, if_false, Bool.false_eq_true, appendN, u33, s35, b35, z35, e4]
  simp [szOk, cellsF]
theorem appN1 {h : H} {id : Nat} {l : List Fa} (f : Fa) (hid : h[id]? = some (.cells (cellsF l) .live)) (hl : l.length ≤ 10000) : appendW C.P true h 33 (.msl id 0 3 l.length none) (.isl [encFa f] .full) = some (.msl h.length 0 3 (l.length + 1) none, h.set id (.cells (cellsF l) .dead) ++ [.cells (cellsF (l ++ [f])) .live]) := by
  have hsz := szOk_encFa [f]
  have e4 : srcV h 3 (.isl [encFa f] .full) = some (faC f, 1) := by
    simp only [List.map_cons, List.map_nil] at hsz
    simp only [srcV, hsz, if_true]; simp [encFa, cells_agg]
  have hcl := cellsF_len l
  have hcf : cellsF (l ++ [f]) = cellsF l ++ faC f := by simp [cellsF]
  simp only [appendW, knownCap, Bool.not_true, if_false, Bool.false_eq_true, appendN, u33, s35, b35, z35, e4, hid]
  rw [if_neg (by simp), if_neg (by simp), if_pos ⟨trivial, trivial, by omega, by omega⟩, List.take_of_length_le (by omega), hcf]
set_option maxRecDepth 8000 in
set_option maxHeartbeats 4000000 in
theorem factsOf57 (c : Cl) (hl : c.body.length ≤ 10000) : CallP C 57 [encCl c] = some (factsV (factsOf c)) := by
  refine CallP_W rfl Tryz.func57 rfl (by kernel_rfl) (by simp [Tryz.f57]) fun R hR => ?_
  simp [go_sem, initS, box37]
  refine W_mixed 1 _ (by rw [mixC]; decide) (by kernel_rfl) ?_
  show MX C 57 _ 1 _ 0 _ _ _ _
  generalize hH0 : [VObj.cells (clC c) .live] ++ List.replicate _ VObj.void = H0
  have pl : Pl [.cells (clC c) .live] H0 8 := hH0 ▸ Pl.mk' _ 8
  have hlen := pl.len
  clear hH0
  have p0 : H0[0]? = some (.cells (clC c) .live) := pl.get rfl
  have q0 := ld33c p0
  have q1 := ld35c p0
  simp only [List.length_cons, List.length_nil, Nat.zero_add] at hlen pl
  refine MX_pure (.ptr 0 0) rfl rfl (pl.isV (i := 0) (by decide)) (by simp [opN, go_sem]) (ptr_mv (by omega) (Nat.le_refl _)) ?_
  refine MX_load (.ptr 0 0) (factsV c.body) (by simp [go_sem]) q0 (lids_no (by simp)) (pl.isV (i := 1) (by decide)) rfl ?_
  rcases c with ⟨body, head⟩
  cases body with
  | nil =>
    refine MX_call0 (args := [.tmp 4]) [factsV []] (.isl [] .full) (by kernel_rfl) (.inr rfl) (by simp [go_sem]) (reachs_facts _ _) (call96n _) (pl.isV (i := 2) (by decide)) ?_
    refine MX_pure (.ptr 0 1) rfl rfl (pl.isV (i := 3) (by decide)) (by simp [opN, go_sem]) (ptr_mv (by omega) (Nat.le_refl _)) ?_
    refine MX_load (.ptr 0 1) (encFa head) (by simp [go_sem]) q1 (lids_no (by simp)) (pl.isV (i := 4) (by decide)) rfl ?_
    refine MX_build (parts := [(0, .tmp 7)]) [(0, encFa head)] (.isl [encFa head] .full) (parts1 (by simp [go_sem]) rfl) (reachs_fa _ _) (build33_1 _ _) (pl.isV (i := 5) (by decide)) ?_
    refine MX_append (.isl [] .full) (.isl [encFa head] .full) _ _ _ (by simp [go_sem]; rfl) (by simp [go_sem]; rfl) (by rw [wrC]; exact appN0 _ _) (by simp) rfl (pl.isV (i := 6) (by decide)) (fin_push (by omega)) ?_
    refine MX_pure (.msl 7 0 3 1 none) rfl rfl ?_ (by simp [opN, go_sem, AV.mv]) (by simp [AV.mv, hlen]) ?_
    · rw [List.getElem?_set_ne (by simp)]; exact pl.isV (i := 7) (by decide)
    refine ⟨by kernel_rfl, ?_⟩
    simp [go_sem]
    refine hR _ _ _ (.inr rfl) ⟨.msl 7 0 3 1 none, by simp [resultV, resV, Tryz.f57, go_sem], ?_⟩
    rw [mv_cellsF]
    exact snap_rowF (l := [head]) (by simp [hlen]) (by simp)
  | cons a l =>
    have hc := call96c a l H0 hl
    refine MX_callM (args := [.tmp 4]) [factsV (a :: l)] _ _ (by kernel_rfl) (.inr rfl) (by simp [go_sem]) (reachs_facts _ _) hc (pl.isV (i := 2) (by decide)) ?_
    rw [mv_cellsF, show (AV.msl H0.length 0 3 (a :: l).length none).mv H0.length (1 + 2) = .msl 3 0 3 (a :: l).length none by simp [AV.mv]]
    obtain ⟨H1, eH1⟩ : ∃ g, g = H0.set (1 + 2) (.cells (cellsF (a :: l)) .live) := ⟨_, rfl⟩
    have hH1 : H1[3]? = some (.cells (cellsF (a :: l)) .live) := by rw [eH1]; simp [hlen]
    have hlen1 : H1.length = 9 := by rw [eH1]; simp [hlen]
    have hv : ∀ i, i < 8 → i ≠ 2 → isVoid H1[1 + i]? = true := fun i hi hn => by rw [eH1]; exact isV_set (pl.isV hi) (by omega)
    have p1 : H1[0]? = some (.cells (clC ⟨a :: l, head⟩) .live) := by rw [eH1, List.getElem?_set_ne (by simp)]; exact p0
    have q1' := ld35c p1
    rw [← eH1]
    refine MX_pure (.ptr 0 1) rfl rfl (hv 3 (by decide) (by decide)) (by simp [opN, go_sem]) (ptr_mv (n := H1.length) (by omega) (Nat.le_refl _)) ?_
    refine MX_load (.ptr 0 1) (encFa head) (by simp [go_sem]) q1' (lids_no (by simp)) (hv 4 (by decide) (by decide)) rfl ?_
    refine MX_build (parts := [(0, .tmp 7)]) [(0, encFa head)] (.isl [encFa head] .full) (parts1 (by simp [go_sem]) rfl) (reachs_fa _ _) (build33_1 _ _) (hv 5 (by decide) (by decide)) ?_
    refine MX_append (.msl 3 0 3 (a :: l).length none) (.isl [encFa head] .full) _ _ _ (by simp [go_sem]) (by simp [go_sem]; rfl) (by rw [wrC]; exact appN1 _ hH1 hl) (by simp) (by simp [mslId, tokId]) (hv 6 (by decide) (by decide)) (fin_dead (by omega) (by simp)) ?_
    refine MX_pure (.msl 7 0 3 (l.length + 2) none) rfl rfl ?_ (by simp [opN, go_sem, AV.mv]) (by simp [AV.mv, hlen1]) ?_
    · rw [List.getElem?_set_ne (by simp), List.getElem?_set_ne (by simp)]; exact hv 7 (by decide) (by decide)
    refine ⟨by simp [lids, mslId, tokId]; kernel_rfl, ?_⟩
    simp [go_sem]
    refine hR _ _ _ (.inr rfl) ⟨.msl 7 0 3 (l.length + 2) none, by simp [resultV, resV, Tryz.f57, go_sem], ?_⟩
    rw [mv_cellsF]
    have := snap_rowF (h := (H1.set 3 (VObj.mv H1.length (1 + 6) (.cells (cellsF (a :: l)) .dead))).set (1 + 6) (.cells (cellsF (a :: l ++ [head])) .live)) (id := 7) (l := a :: l ++ [head]) (by simp [hlen1]) (by simp at hl ⊢; omega)
    simpa [factsOf] using this
theorem call57 (c : Cl) (hl : c.body.length ≤ 10000) (h : H) : callV C h (.func 57 []) (some [encCl c]) = some (factsV (factsOf c), h) := callV_strip (by kernel_rfl) rfl (dat_cl c) (by simp [short_cl]) (by simp) (factsOf57 c hl)
set_option maxRecDepth 8000 in
set_option maxHeartbeats 4000000 in
theorem factsOf50 (c : Cl) (hl : c.body.length ≤ 10000) : CallP C 50 [encCl c] = some (factsV (factsOf c)) := by
  refine CallP_W rfl Tryz.func50 rfl (by kernel_rfl) (by simp [Tryz.f50]) fun R hR => ?_
  simp [go_sem, initS, box37]
  refine W_mixed 1 _ (by rw [mixC]; decide) (by kernel_rfl) ?_
  show MX C 50 _ 1 _ 0 _ _ _ _
  generalize hH0 : [VObj.cells (clC c) .live] ++ List.replicate _ VObj.void = H0
  have pl : Pl [.cells (clC c) .live] H0 8 := hH0 ▸ Pl.mk' _ 8
  have hlen := pl.len
  clear hH0
  have p0 : H0[0]? = some (.cells (clC c) .live) := pl.get rfl
  have q0 := ld33c p0
  have q1 := ld35c p0
  simp only [List.length_cons, List.length_nil, Nat.zero_add] at hlen pl
  refine MX_pure (.ptr 0 0) rfl rfl (pl.isV (i := 0) (by decide)) (by simp [opN, go_sem]) (ptr_mv (by omega) (Nat.le_refl _)) ?_
  refine MX_load (.ptr 0 0) (factsV c.body) (by simp [go_sem]) q0 (lids_no (by simp)) (pl.isV (i := 1) (by decide)) rfl ?_
  rcases c with ⟨body, head⟩
  cases body with
  | nil =>
    refine MX_call0 (args := [.tmp 4]) [factsV []] (.isl [] .full) (by kernel_rfl) (.inr rfl) (by simp [go_sem]) (reachs_facts _ _) (call96n _) (pl.isV (i := 2) (by decide)) ?_
    refine MX_pure (.ptr 0 1) rfl rfl (pl.isV (i := 3) (by decide)) (by simp [opN, go_sem]) (ptr_mv (by omega) (Nat.le_refl _)) ?_
    refine MX_load (.ptr 0 1) (encFa head) (by simp [go_sem]) q1 (lids_no (by simp)) (pl.isV (i := 4) (by decide)) rfl ?_
    refine MX_build (parts := [(0, .tmp 7)]) [(0, encFa head)] (.isl [encFa head] .full) (parts1 (by simp [go_sem]) rfl) (reachs_fa _ _) (build33_1 _ _) (pl.isV (i := 5) (by decide)) ?_
    refine MX_append (.isl [] .full) (.isl [encFa head] .full) _ _ _ (by simp [go_sem]; rfl) (by simp [go_sem]; rfl) (by rw [wrC]; exact appN0 _ _) (by simp) rfl (pl.isV (i := 6) (by decide)) (fin_push (by omega)) ?_
    refine MX_pure (.msl 7 0 3 1 none) rfl rfl ?_ (by simp [opN, go_sem, AV.mv]) (by simp [AV.mv, hlen]) ?_
    · rw [List.getElem?_set_ne (by simp)]; exact pl.isV (i := 7) (by decide)
    refine ⟨by kernel_rfl, ?_⟩
    simp [go_sem]
    refine hR _ _ _ (.inr rfl) ⟨.msl 7 0 3 1 none, by simp [resultV, resV, Tryz.f50, go_sem], ?_⟩
    rw [mv_cellsF]
    exact snap_rowF (l := [head]) (by simp [hlen]) (by simp)
  | cons a l =>
    have hc := call96c a l H0 hl
    refine MX_callM (args := [.tmp 4]) [factsV (a :: l)] _ _ (by kernel_rfl) (.inr rfl) (by simp [go_sem]) (reachs_facts _ _) hc (pl.isV (i := 2) (by decide)) ?_
    rw [mv_cellsF, show (AV.msl H0.length 0 3 (a :: l).length none).mv H0.length (1 + 2) = .msl 3 0 3 (a :: l).length none by simp [AV.mv]]
    obtain ⟨H1, eH1⟩ : ∃ g, g = H0.set (1 + 2) (.cells (cellsF (a :: l)) .live) := ⟨_, rfl⟩
    have hH1 : H1[3]? = some (.cells (cellsF (a :: l)) .live) := by rw [eH1]; simp [hlen]
    have hlen1 : H1.length = 9 := by rw [eH1]; simp [hlen]
    have hv : ∀ i, i < 8 → i ≠ 2 → isVoid H1[1 + i]? = true := fun i hi hn => by rw [eH1]; exact isV_set (pl.isV hi) (by omega)
    have p1 : H1[0]? = some (.cells (clC ⟨a :: l, head⟩) .live) := by rw [eH1, List.getElem?_set_ne (by simp)]; exact p0
    have q1' := ld35c p1
    rw [← eH1]
    refine MX_pure (.ptr 0 1) rfl rfl (hv 3 (by decide) (by decide)) (by simp [opN, go_sem]) (ptr_mv (n := H1.length) (by omega) (Nat.le_refl _)) ?_
    refine MX_load (.ptr 0 1) (encFa head) (by simp [go_sem]) q1' (lids_no (by simp)) (hv 4 (by decide) (by decide)) rfl ?_
    refine MX_build (parts := [(0, .tmp 7)]) [(0, encFa head)] (.isl [encFa head] .full) (parts1 (by simp [go_sem]) rfl) (reachs_fa _ _) (build33_1 _ _) (hv 5 (by decide) (by decide)) ?_
    refine MX_append (.msl 3 0 3 (a :: l).length none) (.isl [encFa head] .full) _ _ _ (by simp [go_sem]) (by simp [go_sem]; rfl) (by rw [wrC]; exact appN1 _ hH1 hl) (by simp) (by simp [mslId, tokId]) (hv 6 (by decide) (by decide)) (fin_dead (by omega) (by simp)) ?_
    refine MX_pure (.msl 7 0 3 (l.length + 2) none) rfl rfl ?_ (by simp [opN, go_sem, AV.mv]) (by simp [AV.mv, hlen1]) ?_
    · rw [List.getElem?_set_ne (by simp), List.getElem?_set_ne (by simp)]; exact hv 7 (by decide) (by decide)
    refine ⟨by simp [lids, mslId, tokId]; kernel_rfl, ?_⟩
    simp [go_sem]
    refine hR _ _ _ (.inr rfl) ⟨.msl 7 0 3 (l.length + 2) none, by simp [resultV, resV, Tryz.f50, go_sem], ?_⟩
    rw [mv_cellsF]
    have := snap_rowF (h := (H1.set 3 (VObj.mv H1.length (1 + 6) (.cells (cellsF (a :: l)) .dead))).set (1 + 6) (.cells (cellsF (a :: l ++ [head])) .live)) (id := 7) (l := a :: l ++ [head]) (by simp [hlen1]) (by simp at hl ⊢; omega)
    simpa [factsOf] using this
theorem call50 (c : Cl) (hl : c.body.length ≤ 10000) (h : H) : callV C h (.func 50 []) (some [encCl c]) = some (factsV (factsOf c), h) := callV_strip (by kernel_rfl) rfl (dat_cl c) (by simp [short_cl]) (by simp) (factsOf50 c hl)
end Go.VZ

/- What stays in memory. -/
namespace Go.VZ
open Go Go.V Go.Proofs TL
theorem ga {h g : H} {j : Nat} {o : VObj} (e : h[j]? = some o) : (h ++ g)[j]? = some o := by rw [List.getElem?_append_left (List.getElem?_eq_some_iff.1 e).1]; exact e
theorem own_not {e : TypeId} {h : H} {v : AV} {xs : List AV} (o : OwnR e h v xs) {i : Nat} {cs : List AV} {st : OSt} (hi : h[i]? = some (.cells cs st)) : idOf v ≠ some i := by
  intro hj
  rcases o with rfl | ⟨a, rfl, ha⟩
  · cases hj
  · simp only [idOf, Option.some.injEq] at hj
    subst hj; rw [ha] at hi; cases hi
end Go.VZ

/- The closures that gather terms: walked. -/
namespace Go.VZ
open Go Go.V Go.Proofs TL
/-- A row of terms in a cell of memory; what lies elsewhere. -/
def Ok3 (i3 : Nat) (pr : List (Nat × VObj)) (h : H) (l : List T) : Prop := ∃ v, h[i3]? = some (.cells [v] .live) ∧ Row h v l ∧ ∀ p ∈ pr, h[p.1]? = some p.2 ∧ p.1 ≠ i3 ∧ idOf v ≠ some p.1
theorem row_lt {h : H} {v : AV} {l : List T} (r : Row h v l) {i : Nat} (e : idOf v = some i) : i < h.length := by
  rcases r with ⟨rfl, rfl⟩ | ⟨id, rfl, hid⟩
  · cases e
  · simp only [idOf, Option.some.injEq] at e; subst e; exact (List.getElem?_eq_some_iff.1 hid).1
theorem row_ga {h g : H} {v : AV} {l : List T} (r : Row h v l) : Row (h ++ g) v l := by
  rcases r with ⟨rfl, rfl⟩ | ⟨id, rfl, hid⟩
  · exact .inl ⟨rfl, rfl⟩
  · exact .inr ⟨id, rfl, ga hid⟩
theorem Ok3.push {i3 : Nat} {pr : List (Nat × VObj)} {h : H} {l : List T} (k : Ok3 i3 pr h l) (o : VObj) : Ok3 i3 ((h.length, o) :: pr) (h ++ [o]) l := by
  obtain ⟨v, k1, k2, k3⟩ := k
  refine ⟨v, ga k1, row_ga k2, fun p hp => ?_⟩
  rcases List.mem_cons.1 hp with rfl | hp
  · exact ⟨by simp, fun e => by have := (List.getElem?_eq_some_iff.1 k1).1; simp only at e; omega, fun e => by have := row_lt k2 e; simp only at this; omega⟩
  · exact ⟨ga (k3 p hp).1, (k3 p hp).2⟩
theorem Ok3.less {i3 : Nat} {pr pr' : List (Nat × VObj)} {h : H} {l : List T} (k : Ok3 i3 pr h l) (hp : ∀ p ∈ pr', p ∈ pr) : Ok3 i3 pr' h l := by
  obtain ⟨v, k1, k2, k3⟩ := k
  exact ⟨v, k1, k2, fun p h => k3 p (hp p h)⟩
theorem Ok3.at_ {i3 : Nat} {pr : List (Nat × VObj)} {h : H} {l : List T} (k : Ok3 i3 pr h l) {j : Nat} {o : VObj} (hp : (j, o) ∈ pr) : h[j]? = some o := by
  obtain ⟨v, k1, k2, k3⟩ := k
  exact (k3 _ hp).1
/-- A closure that gathers terms. -/
def Clo (g : FuncId) (caps : List AV) (i3 : Nat) (pr0 : List (Nat × VObj)) (f : T → List T) : Prop := ∀ (t : T) (h : H) (l : List T), t.size < 4000000 → l.length < 100000000 → Ok3 i3 pr0 h l →
  ∃ h', callV C h (.func g caps) (some [enc t]) = some (.tuple [], h') ∧ ∀ pr, Ok3 i3 pr h l → Ok3 i3 pr h' (l ++ f t)
theorem zvt : notTuple (.agg [.int .i64 0, .str ⟨#[]⟩, .int .i64 0, .isl [] .full]) = true := rfl
def zt : AV := .agg [.int .i64 0, .str ⟨#[]⟩, .int .i64 0, .isl [] .full]
def zu : AV := .agg [.int .i64 0, .str ⟨#[]⟩, .int .i64 0, .isl [] .unk]
def zuc : List AV := [.int .i64 0, .str ⟨#[]⟩, .int .i64 0, .isl [] .unk]
theorem build23_z (h : H) : buildSliceV C.P h 23 1 [(0, zt)] = some (.isl [zu] .full, h) := buildSlice_dats u23 s25 z25 rfl (by omega) rfl (es := [zu]) rfl rfl (by simp) rfl
theorem reachs_zt (h : H) : reachs h deep [zt] = [] := (dats_snap (h := h) (l := [zt]) (l' := [zu]) rfl rfl deep (by simp [deep])).2
theorem appZ0 (h : H) : appendW C.P true h 23 (.isl [] .full) (.isl [zu] .full) = some (.msl h.length 0 4 1 none, h ++ [.cells zuc .live]) := by
  have e4 : srcV h 4 (.isl [zu] .full) = some (zuc, 1) := by simp [srcV, szOk, zu, cells_agg, zuc]
  simp only [appendW, knownCap, Bool.not_true, if_false, Bool.false_eq_true, appendN, u23, s25, b25, z25, e4]
  simp [szOk]
theorem appZ1 {h : H} {id : Nat} {l : List T} (hid : h[id]? = some (.cells (cellsT l) .live)) (hl : l.length < 100000000) : appendW C.P true h 23 (.msl id 0 4 l.length none) (.isl [zu] .full) = some (.msl h.length 0 4 (l.length + 1) none, h.set id (.cells (cellsT l) .dead) ++ [.cells (cellsT l ++ zuc) .live]) := by
  have e4 : srcV h 4 (.isl [zu] .full) = some (zuc, 1) := by simp [srcV, szOk, zu, cells_agg, zuc]
  have hcl := cellsT_len l
  simp only [appendW, knownCap, Bool.not_true, if_false, Bool.false_eq_true, appendN, u23, s25, b25, z25, e4, hid]
  rw [if_neg (by simp), if_neg (by simp), if_pos ⟨trivial, trivial, by omega, by omega⟩, List.take_of_length_le (by omega)]
theorem st25r {h : H} {id : Nat} {l : List T} (x : T) (hid : h[id]? = some (.cells (cellsT l ++ zuc) .live)) : storeV C.P h 25 (.ptr id (4 * l.length)) (enc x) = some (h.set id (.cells (cellsT (l ++ [x])) .live)) := by
  have hcl := cellsT_len l
  have e : cellsT (l ++ [x]) = cellsT l ++ (enc x).cells := by simp [cellsT]
  rw [e]
  simp only [storeV, hid, s25]
  rw [enc_eq]
  have e2 : (cellsT l ++ zuc).length = 4 * l.length + 4 := by simp [hcl, zuc]
  simp only [List.length_cons, List.length_nil, e2]
  rw [if_pos ⟨trivial, by omega⟩, List.take_append_of_le_length (by omega), List.take_of_length_le (by omega), List.drop_of_length_le (by omega), List.append_nil]
  rfl
theorem mvs_cellsT (l : List T) (i k : Nat) : AV.mvs i k (cellsT l) = cellsT l := mvs_self _ (by
  intro a ha i k
  simp only [cellsT, List.mem_flatMap] at ha
  obtain ⟨f, _, ha⟩ := ha
  rw [enc_cells] at ha
  simp only [List.mem_cons, List.not_mem_nil, or_false] at ha
  rcases ha with rfl | rfl | rfl | rfl <;> rfl) i k
theorem mv_cellsL (l : List T) (i k : Nat) : VObj.mv i k (.cells (cellsT l) .live) = .cells (cellsT l) .live := by simp [VObj.mv, mvs_cellsT]
theorem mv_cellsLz (l : List T) (i k : Nat) : VObj.mv i k (.cells (cellsT l ++ zuc) .live) = .cells (cellsT l ++ zuc) .live := by
  have : AV.mvs i k (cellsT l ++ zuc) = cellsT l ++ zuc := mvs_self _ (by
    intro a ha i k
    rcases List.mem_append.1 ha with ha | ha
    · simp only [cellsT, List.mem_flatMap] at ha
      obtain ⟨f, _, ha⟩ := ha
      rw [enc_cells] at ha
      simp only [List.mem_cons, List.not_mem_nil, or_false] at ha
      rcases ha with rfl | rfl | rfl | rfl <;> rfl
    · simp only [zuc, List.mem_cons, List.not_mem_nil, or_false] at ha
      rcases ha with rfl | rfl | rfl | rfl <;> rfl) i k
  simp [VObj.mv, this]

theorem row_not {h : H} {v : AV} {l : List T} (r : Row h v l) {i : Nat} {x : AV} {st : OSt} (hi : h[i]? = some (.cells [x] st)) : idOf v ≠ some i := by
  intro e
  rcases r with ⟨rfl, rfl⟩ | ⟨id, rfl, hid⟩
  · cases e
  · simp only [idOf, Option.some.injEq] at e; subst e
    rw [hid] at hi
    have := cellsT_len l
    simp only [Option.some.injEq, VObj.cells.injEq] at hi
    rw [hi.1] at this; simp at this; omega
theorem ld23v {h : H} {i : Nat} {v : AV} {l : List T} (hi : h[i]? = some (.cells [v] .live)) (r : Row h v l) : loadV C.P h 23 (.ptr i 0) = some v := by
  rcases r with ⟨rfl, rfl⟩ | ⟨id, rfl, hid⟩ <;> simp [loadV, hi, cellsAt, a23, s23, notTuple]
theorem st23v {h : H} {i : Nat} {v u : AV} (hi : h[i]? = some (.cells [v] .live)) (hu : ∃ id n, u = .msl id 0 4 n none) : storeV C.P h 23 (.ptr i 0) u = some (h.set i (.cells [u] .live)) := by
  obtain ⟨id, n, rfl⟩ := hu
  simp [storeV, hi, s23]
theorem lenRow {h : H} {v : AV} {l : List T} (r : Row h v l) : lenV C.P 23 v = some (.int .i64 l.length) := by
  rcases r with ⟨rfl, rfl⟩ | ⟨id, rfl, hid⟩
  · simp [lenV, u23]
  · simp [lenV, u23]
theorem evc (s : PT) : ev s (.const (.agg #[.int .i64 0, .string ⟨#[]⟩, .int .i64 0, .slice none 0 0])) = some zt := by kernel_rfl
theorem ptr_mv' {i o n k : Nat} (h : i < n) : (AV.ptr i o).mv n k = .ptr i o := by simp [AV.mv]; omega
end Go.VZ

/- The closures that gather terms: walked. -/
namespace Go.VZ
open Go Go.V Go.Proofs TL
theorem callV_openc {f : FuncId} {args caps : List AV} {h : H} (hb : hasBody C.P f = true) (hm : C.mode f = .openH) : callV C h (.func f caps) (some args) = Go.V.Call C f (args ++ caps) h := by
  simp only [callV, hb, if_true]
  unfold applyCall
  rw [hm]
/-- What the appending regions leave. -/
theorem ok3_done {i3 b : Nat} {h H2 : H} {l : List T} {t : T} {v : AV} (k1 : h[i3]? = some (.cells [v] .live)) (k2 : Row h v l) (hb : h.length ≤ b) (e3 : H2[i3]? = some (.cells [.msl b 0 4 (l.length + 1) none] .live)) (eb : H2[b]? = some (.cells (cellsT (l ++ [t])) .live))
    (ho : ∀ j, j < h.length → j ≠ i3 → idOf v ≠ some j → H2[j]? = h[j]?) : ∀ pr, Ok3 i3 pr h l → Ok3 i3 pr H2 (l ++ [t]) := by
  rintro pr ⟨v', k1', _, k3⟩
  rw [k1] at k1'; simp only [Option.some.injEq, VObj.cells.injEq, List.cons.injEq, and_true] at k1'; subst k1'
  refine ⟨_, e3, .inr ⟨b, by simp, eb⟩, fun p hp => ?_⟩
  obtain ⟨a, c, d⟩ := k3 p hp
  have hlt := (List.getElem?_eq_some_iff.1 a).1
  exact ⟨by rw [ho _ hlt c d]; exact a, c, fun e => by simp only [idOf, Option.some.injEq] at e; omega⟩
set_option maxRecDepth 8000 in
set_option maxHeartbeats 4000000 in
theorem clo153 (i3 : Nat) : Clo 153 [.ptr i3 0] i3 [] (fun t => [t]) := by
  rintro t h l ht hl ⟨v, k1, k2, -⟩
  rw [callV_openc (by kernel_rfl) rfl]
  show ∃ h', Go.V.Call C 153 [enc t, .ptr i3 0] h = _ ∧ _
  suffices hh : ∃ r h', Go.V.Call C 153 [enc t, .ptr i3 0] h = some (r, h') ∧ (r = .tuple [] ∧ ∀ pr, Ok3 i3 pr h l → Ok3 i3 pr h' (l ++ [t])) by
    obtain ⟨r, h', a, rfl, c⟩ := hh
    exact ⟨h', a, c⟩
  refine Call_WQ rfl Tryz.func153 rfl (by kernel_rfl) (by simp [Tryz.f153]) fun R hR => ?_
  simp [go_sem, initS, box25]
  obtain ⟨h1, eh1⟩ : ∃ g, g = h ++ [.cells (enc t).cells .live] := ⟨_, rfl⟩
  rw [← enc_cells, ← eh1]
  have n1 : h1[h.length]? = some (.cells (enc t).cells .live) := by rw [eh1]; simp
  have n3 : h1[i3]? = some (.cells [v] .live) := by rw [eh1]; exact ga k1
  have hr1 : Row h1 v l := by rw [eh1]; exact row_ga k2
  have hlen1 : h1.length = h.length + 1 := by rw [eh1]; simp
  have hi3 : i3 < h.length := (List.getElem?_eq_some_iff.1 k1).1
  have old : ∀ j, j < h.length → h1[j]? = h[j]? := fun j hj => by rw [eh1]; exact List.getElem?_append_left hj
  clear eh1
  refine W_mixed 1 _ (by rw [mixC]; decide) (by kernel_rfl) ?_
  show MX C 153 _ h1.length _ 0 _ _ _ _
  generalize hH0 : h1 ++ List.replicate _ VObj.void = H0
  have pl : Pl h1 H0 8 := hH0 ▸ Pl.mk' _ 8
  have hlen := pl.len
  clear hH0
  have p1 := pl.get n1
  have p3 := pl.get n3
  have r0 : Row H0 v l := by
    rcases hr1 with ⟨rfl, rfl⟩ | ⟨id, rfl, hid⟩
    · exact .inl ⟨rfl, rfl⟩
    · exact .inr ⟨id, rfl, pl.get hid⟩
  have q0 := ld23v p3 r0
  have q1 := ldn25 t p1
  have hln := lenRow k2
  have hvm : v.mv H0.length (h1.length + 0) = v := by
    rcases k2 with ⟨rfl, rfl⟩ | ⟨id, rfl, hid⟩
    · rfl
    · have := (List.getElem?_eq_some_iff.1 hid).1
      simp [AV.mv]; omega
  refine MX_load (.ptr i3 0) v (by simp [go_sem]) q0 (lids_no (by omega)) (pl.isV (i := 0) (by decide)) hvm ?_
  refine MX_load (.ptr h.length 0) (enc t) (by simp [go_sem]) q1 (lids_no (by omega)) (pl.isV (i := 1) (by decide)) (mv_enc _ _ _) ?_
  refine MX_pure (.int .i64 l.length) rfl rfl (pl.isV (i := 2) (by decide)) (by simp [opN, go_sem, hln]) rfl ?_
  refine MX_build (parts := [(0, .const (.agg #[.int .i64 0, .string ⟨#[]⟩, .int .i64 0, .slice none 0 0]))]) [(0, zt)] (.isl [zu] .full) (parts1 (evc _) rfl) (reachs_zt _) (build23_z _) (pl.isV (i := 3) (by decide)) ?_
  have hb4 : h1.length + 4 < H0.length := by omega
  -- the appended row, in its place
  have app : ∃ h' g, appendW C.P true H0 23 v (.isl [zu] .full) = some (.msl H0.length 0 4 (l.length + 1) none, h') ∧ h'.length ≤ H0.length + 1 ∧ (mslId v ++ tokId v ++ mslId (.isl [zu] .full)).contains (h1.length + 4) = false ∧
      fin (h1.length + 4) (mslId v ++ tokId v ++ mslId (.isl [zu] .full)) H0 h' = g ∧ g.length = H0.length ∧ g[h1.length + 4]? = some (.cells (cellsT l ++ zuc) .live) ∧ ∀ j, j ≠ h1.length + 4 → idOf v ≠ some j → g[j]? = H0[j]? := by
    rcases r0 with ⟨rfl, rfl⟩ | ⟨id, rfl, hid⟩
    · refine ⟨_, _, appZ0 _, by simp, rfl, fin_push hb4, by simp, ?_, fun j hj _ => List.getElem?_set_ne (fun e => hj e.symm)⟩
      rw [List.getElem?_set_self hb4]; rfl
    · have hid1 : id < h1.length := by
        rcases hr1 with ⟨e, _⟩ | ⟨id', e, hid'⟩
        · subst e; exact absurd hid (by intro hh; rename_i c; cases c)
        · simp only [AV.msl.injEq] at e; rw [← e.1] at hid'; exact (List.getElem?_eq_some_iff.1 hid').1
      refine ⟨_, _, appZ1 hid hl, by simp, by simp [mslId, tokId]; omega, fin_dead hb4 (by omega), by simp, ?_, fun j hj hn => ?_⟩
      · rw [List.getElem?_set_self (by simpa using hb4), mv_cellsLz]
      · rw [List.getElem?_set_ne (fun e => hj e.symm), List.getElem?_set_ne (fun e => hn (by rw [e]; rfl))]
  obtain ⟨h', g, a1, a2, a3, a4, a5, a6, a7⟩ := app
  refine MX_append v (.isl [zu] .full) _ h' g (by simp [go_sem]) (by simp [go_sem]; rfl) (by rw [wrC]; exact a1) a2 a3 (pl.isV (i := 4) (by decide)) a4 ?_
  rw [show (AV.msl H0.length 0 4 (l.length + 1) none).mv H0.length (h1.length + 4) = .msl (h1.length + 4) 0 4 (l.length + 1) none by simp [AV.mv]]
  have nv : ∀ i, 4 < i → i < 8 → isVoid g[h1.length + i]? = true := fun i hi hi8 => by
    rw [a7 _ (by omega) (fun e => by have := row_lt hr1 e; omega)]; exact pl.isV hi8
  refine MX_pure (.ptr (h1.length + 4) (4 * l.length)) rfl rfl (nv 5 (by decide) (by decide)) (by simp [opN, go_sem, idxRow]) (ptr_mv' (by omega)) ?_
  have s1 := st25r t a6
  refine MX_store (h1.length + 4) (4 * l.length) (enc t) _ (by simp [go_sem]) (by simp [go_sem]) s1 (by omega) (nv 6 (by decide) (by decide)) ?_
  rw [mv_cellsL]
  obtain ⟨g2, eg2⟩ : ∃ g2, g2 = g.set (h1.length + 4) (.cells (cellsT (l ++ [t])) .live) := ⟨_, rfl⟩
  rw [← eg2]
  have b1 : g2[h1.length + 4]? = some (.cells (cellsT (l ++ [t])) .live) := by rw [eg2]; exact List.getElem?_set_self (by omega)
  have b2 : ∀ j, j ≠ h1.length + 4 → g2[j]? = g[j]? := fun j hj => by rw [eg2]; exact List.getElem?_set_ne (fun e => hj e.symm)
  have b3 : g2[i3]? = some (.cells [v] .live) := by rw [b2 _ (by omega), a7 _ (by omega) (row_not k2 k1)]; exact p3
  have b4 : g2.length = H0.length := by rw [eg2]; simpa using a5
  clear eg2
  have s2 := st23v (u := .msl (h1.length + 4) 0 4 (l.length + 1) none) b3 ⟨_, _, rfl⟩
  refine MX_store i3 0 (.msl (h1.length + 4) 0 4 (l.length + 1) none) _ (by simp [go_sem]) (by simp [go_sem]) s2 (by omega) (by rw [b2 _ (by omega)]; exact nv 7 (by decide) (by decide)) ?_
  rw [show VObj.mv g2.length (h1.length + 7) (.cells [.msl (h1.length + 4) 0 4 (l.length + 1) none] .live) = .cells [.msl (h1.length + 4) 0 4 (l.length + 1) none] .live by simp [VObj.mv, AV.mvs, AV.mv]; omega]
  refine ⟨?_, ?_⟩
  · unfold fpOk
    generalize hb : Region.before _ = b
    have hb1 : (b.getD 7 0).testBit 0 = true := by rw [← hb]; kernel_rfl
    have hb2 : (b.getD 6 0).testBit 4 = true := by rw [← hb]; kernel_rfl
    clear hb
    have hx : ∀ x ∈ mslId v ++ tokId v ++ mslId (.isl [zu] .full), x < h.length ∧ x ≠ i3 := by
      have hn := row_not k2 k1
      rcases k2 with ⟨rfl, rfl⟩ | ⟨id, rfl, hid⟩
      · intro x hx; simp [mslId, tokId] at hx
      · intro x hx
        simp [mslId, tokId] at hx
        subst hx
        exact ⟨(List.getElem?_eq_some_iff.1 hid).1, fun e => hn (by rw [← e]; rfl)⟩
    generalize mslId v ++ tokId v ++ mslId (.isl [zu] .full) = X at hx
    have y1 : ∀ k, (h1.length + k) ∉ X := fun k hk => by have := (hx _ hk).1; omega
    have y2 : i3 ∉ X := fun hk => (hx _ hk).2 rfl
    have y3 : h.length ∉ X := fun hk => by have := (hx _ hk).1; omega
    have z1 : ∀ x ∈ X, ∀ k, ¬x = h.length + 1 + k := fun x h' k e => by have := (hx x h').1; omega
    have z2 : ∀ x ∈ X, ¬x = h.length := fun x h' e => by have := (hx x h').1; omega
    have z3 : ∀ k, ¬(h.length + 1 + k ∈ X) := fun k h' => by have := (hx _ h').1; omega
    simp [lids, meet, List.range, List.range.loop, hlen1]
    refine ⟨⟨.inl (by omega), .inl (by omega)⟩, ⟨.inl ⟨by omega, fun x h' => (hx x h').2⟩, .inl ⟨by omega, z2⟩, .inl ⟨z3 3, fun x h' => z1 x h' 3⟩⟩, ⟨.inl ⟨by omega, by omega⟩, .inl ⟨by omega, by omega⟩, ?_⟩, ?_, .inl ⟨by omega, by omega⟩, .inl ⟨by omega, by omega⟩, ?_, .inl ⟨⟨by omega, by omega⟩, by omega, by omega⟩⟩
    · simpa [Array.getD_eq_getD_getElem?] using hb2
    · simpa [Array.getD_eq_getD_getElem?] using hb1
    · exact .inl ⟨⟨by omega, fun x h' => ⟨z1 x h' 7, (hx x h').2⟩⟩, z3 7, by omega, y2⟩
  simp [go_sem]
  refine hR _ _ _ (.inl rfl) ⟨.tuple [], rfl, rfl, ?_⟩
  refine ok3_done k1 k2 (b := h1.length + 4) (by omega) (List.getElem?_set_self (by omega)) (by rw [List.getElem?_set_ne (by omega)]; exact b1) fun j hj h3 hn => ?_
  rw [List.getElem?_set_ne (fun e => h3 e.symm), b2 _ (by omega), a7 _ (by omega) hn, pl.old _ (by omega), old _ hj]
def kindOnly (k : Int) (t : T) : List T := if t.kind = k then [t] else []
set_option maxRecDepth 8000 in
set_option maxHeartbeats 4000000 in
theorem clo174 (ik i3 : Nat) (k : Int) : Clo 174 [.ptr ik 0, .ptr i3 0] i3 [(ik, .cells [.int .i64 k] .live)] (kindOnly k) := by
  rintro t h l ht hl ⟨v, k1, k2, k3⟩
  obtain ⟨k4, k5, k6⟩ := k3 _ (List.mem_singleton_self _)
  rw [callV_openc (by kernel_rfl) rfl]
  show ∃ h', Go.V.Call C 174 [enc t, .ptr ik 0, .ptr i3 0] h = _ ∧ _
  suffices hh : ∃ r h', Go.V.Call C 174 [enc t, .ptr ik 0, .ptr i3 0] h = some (r, h') ∧ (r = .tuple [] ∧ ∀ pr, Ok3 i3 pr h l → Ok3 i3 pr h' (l ++ kindOnly k t)) by
    obtain ⟨r, h', a, rfl, c⟩ := hh
    exact ⟨h', a, c⟩
  refine Call_WQ rfl Tryz.func174 rfl (by kernel_rfl) (by simp [Tryz.f174]) fun R hR => ?_
  obtain ⟨h1, eh1⟩ : ∃ g, g = h ++ [.cells (enc t).cells .live] := ⟨_, rfl⟩
  have n1 : h1[h.length]? = some (.cells (enc t).cells .live) := by rw [eh1]; simp
  have n3 : h1[i3]? = some (.cells [v] .live) := by rw [eh1]; exact ga k1
  have nk : h1[ik]? = some (.cells [.int .i64 k] .live) := by rw [eh1]; exact ga k4
  have hr1 : Row h1 v l := by rw [eh1]; exact row_ga k2
  have hlen1 : h1.length = h.length + 1 := by rw [eh1]; simp
  have hi3 : i3 < h.length := (List.getElem?_eq_some_iff.1 k1).1
  have old : ∀ j, j < h.length → h1[j]? = h[j]? := fun j hj => by rw [eh1]; exact List.getElem?_append_left hj
  have lk : loadV C.P h1 3 (.ptr h.length 0) = some (.int .i64 t.kind) := by rw [enc_cells] at n1; simp [loadV, n1, cellsAt, a3, s3]
  have lk2 := ldp3 (st := .live) nk
  by_cases hk : t.kind = k
  rotate_left
  · simp [go_sem, initS, box25]
    rw [← enc_cells, ← eh1]
    simp [go_sem, lk, lk2, hk]
    refine hR _ _ _ (.inl rfl) ⟨.tuple [], rfl, rfl, ?_⟩
    intro pr kk
    simp only [kindOnly, if_neg hk, List.append_nil]
    rw [eh1]
    exact (kk.push _).less (fun p hp => List.mem_cons_of_mem _ hp)
  have hko : kindOnly k t = [t] := by simp [kindOnly, hk]
  rw [hko] at hR
  simp [go_sem, initS, box25]
  rw [← enc_cells, ← eh1]
  simp [go_sem, lk, lk2, hk]
  clear eh1
  refine W_mixed 2 _ (by rw [mixC]; decide) (by kernel_rfl) ?_
  show MX C 174 _ h1.length _ 0 _ _ _ _
  generalize hH0 : h1 ++ List.replicate _ VObj.void = H0
  have pl : Pl h1 H0 8 := hH0 ▸ Pl.mk' _ 8
  have hlen := pl.len
  clear hH0
  have p1 := pl.get n1
  have p3 := pl.get n3
  have r0 : Row H0 v l := by
    rcases hr1 with ⟨rfl, rfl⟩ | ⟨id, rfl, hid⟩
    · exact .inl ⟨rfl, rfl⟩
    · exact .inr ⟨id, rfl, pl.get hid⟩
  have q0 := ld23v p3 r0
  have q1 := ldn25 t p1
  have hln := lenRow k2
  have hvm : v.mv H0.length (h1.length + 0) = v := by
    rcases k2 with ⟨rfl, rfl⟩ | ⟨id, rfl, hid⟩
    · rfl
    · have := (List.getElem?_eq_some_iff.1 hid).1
      simp [AV.mv]; omega
  refine MX_load (.ptr i3 0) v (by simp [go_sem]) q0 (lids_no (by omega)) (pl.isV (i := 0) (by decide)) hvm ?_
  refine MX_load (.ptr h.length 0) (enc t) (by simp [go_sem]) q1 (lids_no (by omega)) (pl.isV (i := 1) (by decide)) (mv_enc _ _ _) ?_
  refine MX_pure (.int .i64 l.length) rfl rfl (pl.isV (i := 2) (by decide)) (by simp [opN, go_sem, hln]) rfl ?_
  refine MX_build (parts := [(0, .const (.agg #[.int .i64 0, .string ⟨#[]⟩, .int .i64 0, .slice none 0 0]))]) [(0, zt)] (.isl [zu] .full) (parts1 (evc _) rfl) (reachs_zt _) (build23_z _) (pl.isV (i := 3) (by decide)) ?_
  have hb4 : h1.length + 4 < H0.length := by omega
  -- the appended row, in its place
  have app : ∃ h' g, appendW C.P true H0 23 v (.isl [zu] .full) = some (.msl H0.length 0 4 (l.length + 1) none, h') ∧ h'.length ≤ H0.length + 1 ∧ (mslId v ++ tokId v ++ mslId (.isl [zu] .full)).contains (h1.length + 4) = false ∧
      fin (h1.length + 4) (mslId v ++ tokId v ++ mslId (.isl [zu] .full)) H0 h' = g ∧ g.length = H0.length ∧ g[h1.length + 4]? = some (.cells (cellsT l ++ zuc) .live) ∧ ∀ j, j ≠ h1.length + 4 → idOf v ≠ some j → g[j]? = H0[j]? := by
    rcases r0 with ⟨rfl, rfl⟩ | ⟨id, rfl, hid⟩
    · refine ⟨_, _, appZ0 _, by simp, rfl, fin_push hb4, by simp, ?_, fun j hj _ => List.getElem?_set_ne (fun e => hj e.symm)⟩
      rw [List.getElem?_set_self hb4]; rfl
    · have hid1 : id < h1.length := by
        rcases hr1 with ⟨e, _⟩ | ⟨id', e, hid'⟩
        · subst e; exact absurd hid (by intro hh; rename_i c; cases c)
        · simp only [AV.msl.injEq] at e; rw [← e.1] at hid'; exact (List.getElem?_eq_some_iff.1 hid').1
      refine ⟨_, _, appZ1 hid hl, by simp, by simp [mslId, tokId]; omega, fin_dead hb4 (by omega), by simp, ?_, fun j hj hn => ?_⟩
      · rw [List.getElem?_set_self (by simpa using hb4), mv_cellsLz]
      · rw [List.getElem?_set_ne (fun e => hj e.symm), List.getElem?_set_ne (fun e => hn (by rw [e]; rfl))]
  obtain ⟨h', g, a1, a2, a3, a4, a5, a6, a7⟩ := app
  refine MX_append v (.isl [zu] .full) _ h' g (by simp [go_sem]) (by simp [go_sem]; rfl) (by rw [wrC]; exact a1) a2 a3 (pl.isV (i := 4) (by decide)) a4 ?_
  rw [show (AV.msl H0.length 0 4 (l.length + 1) none).mv H0.length (h1.length + 4) = .msl (h1.length + 4) 0 4 (l.length + 1) none by simp [AV.mv]]
  have nv : ∀ i, 4 < i → i < 8 → isVoid g[h1.length + i]? = true := fun i hi hi8 => by
    rw [a7 _ (by omega) (fun e => by have := row_lt hr1 e; omega)]; exact pl.isV hi8
  refine MX_pure (.ptr (h1.length + 4) (4 * l.length)) rfl rfl (nv 5 (by decide) (by decide)) (by simp [opN, go_sem, idxRow]) (ptr_mv' (by omega)) ?_
  have s1 := st25r t a6
  refine MX_store (h1.length + 4) (4 * l.length) (enc t) _ (by simp [go_sem]) (by simp [go_sem]) s1 (by omega) (nv 6 (by decide) (by decide)) ?_
  rw [mv_cellsL]
  obtain ⟨g2, eg2⟩ : ∃ g2, g2 = g.set (h1.length + 4) (.cells (cellsT (l ++ [t])) .live) := ⟨_, rfl⟩
  rw [← eg2]
  have b1 : g2[h1.length + 4]? = some (.cells (cellsT (l ++ [t])) .live) := by rw [eg2]; exact List.getElem?_set_self (by omega)
  have b2 : ∀ j, j ≠ h1.length + 4 → g2[j]? = g[j]? := fun j hj => by rw [eg2]; exact List.getElem?_set_ne (fun e => hj e.symm)
  have b3 : g2[i3]? = some (.cells [v] .live) := by rw [b2 _ (by omega), a7 _ (by omega) (row_not k2 k1)]; exact p3
  have b4 : g2.length = H0.length := by rw [eg2]; simpa using a5
  clear eg2
  have s2 := st23v (u := .msl (h1.length + 4) 0 4 (l.length + 1) none) b3 ⟨_, _, rfl⟩
  refine MX_store i3 0 (.msl (h1.length + 4) 0 4 (l.length + 1) none) _ (by simp [go_sem]) (by simp [go_sem]) s2 (by omega) (by rw [b2 _ (by omega)]; exact nv 7 (by decide) (by decide)) ?_
  rw [show VObj.mv g2.length (h1.length + 7) (.cells [.msl (h1.length + 4) 0 4 (l.length + 1) none] .live) = .cells [.msl (h1.length + 4) 0 4 (l.length + 1) none] .live by simp [VObj.mv, AV.mvs, AV.mv]; omega]
  refine ⟨?_, ?_⟩
  · unfold fpOk
    generalize hb : Region.before _ = b
    have hb1 : (b.getD 7 0).testBit 0 = true := by rw [← hb]; kernel_rfl
    have hb2 : (b.getD 6 0).testBit 4 = true := by rw [← hb]; kernel_rfl
    clear hb
    have hx : ∀ x ∈ mslId v ++ tokId v ++ mslId (.isl [zu] .full), x < h.length ∧ x ≠ i3 := by
      have hn := row_not k2 k1
      rcases k2 with ⟨rfl, rfl⟩ | ⟨id, rfl, hid⟩
      · intro x hx; simp [mslId, tokId] at hx
      · intro x hx
        simp [mslId, tokId] at hx
        subst hx
        exact ⟨(List.getElem?_eq_some_iff.1 hid).1, fun e => hn (by rw [← e]; rfl)⟩
    generalize mslId v ++ tokId v ++ mslId (.isl [zu] .full) = X at hx
    have y1 : ∀ k, (h1.length + k) ∉ X := fun k hk => by have := (hx _ hk).1; omega
    have y2 : i3 ∉ X := fun hk => (hx _ hk).2 rfl
    have y3 : h.length ∉ X := fun hk => by have := (hx _ hk).1; omega
    have z1 : ∀ x ∈ X, ∀ k, ¬x = h.length + 1 + k := fun x h' k e => by have := (hx x h').1; omega
    have z2 : ∀ x ∈ X, ¬x = h.length := fun x h' e => by have := (hx x h').1; omega
    have z3 : ∀ k, ¬(h.length + 1 + k ∈ X) := fun k h' => by have := (hx _ h').1; omega
    simp [lids, meet, List.range, List.range.loop, hlen1]
    refine ⟨⟨.inl (by omega), .inl (by omega)⟩, ⟨.inl ⟨by omega, fun x h' => (hx x h').2⟩, .inl ⟨by omega, z2⟩, .inl ⟨z3 3, fun x h' => z1 x h' 3⟩⟩, ⟨.inl ⟨by omega, by omega⟩, .inl ⟨by omega, by omega⟩, ?_⟩, ?_, .inl ⟨by omega, by omega⟩, .inl ⟨by omega, by omega⟩, ?_, .inl ⟨⟨by omega, by omega⟩, by omega, by omega⟩⟩
    · simpa [Array.getD_eq_getD_getElem?] using hb2
    · simpa [Array.getD_eq_getD_getElem?] using hb1
    · exact .inl ⟨⟨by omega, fun x h' => ⟨z1 x h' 7, (hx x h').2⟩⟩, z3 7, by omega, y2⟩
  simp [go_sem]
  refine hR _ _ _ (.inl rfl) ⟨.tuple [], rfl, rfl, ?_⟩
  refine ok3_done k1 k2 (b := h1.length + 4) (by omega) (List.getElem?_set_self (by omega)) (by rw [List.getElem?_set_ne (by omega)]; exact b1) fun j hj h3 hn => ?_
  rw [List.getElem?_set_ne (fun e => h3 e.symm), b2 _ (by omega), a7 _ (by omega) hn, pl.old _ (by omega), old _ hj]
end Go.VZ
