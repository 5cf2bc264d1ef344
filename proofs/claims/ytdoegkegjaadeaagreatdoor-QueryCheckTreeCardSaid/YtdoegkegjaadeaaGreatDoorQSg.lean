/- The reference's variables: walked; both ways agree. -/
import Derived.Test.YtdoegkegjaadeaaGreatDoorQSf
import Derived.Test.YtdoegkegjaadeaaGreatDoorQSd
namespace Go.VZ
open Go Go.V Go.Proofs TL
theorem call177 (t : T) (c : Int) (hs : t.size < 4000000) (h : H) : callV C h (.func 177 []) (some [enc t, .int .i64 c]) = some (terms (setS ((walkT single t).filter (isK c))), h) := callV_strip (by kernel_rfl) rfl (args' := [enc t, .int .i64 c]) (by rw [enc_eq]; rfl) (by simp [short_enc, short_int]) (by simp) (kind177 t c hs)
/-- The reference's variables of a term. -/
def varsR (t : T) : List T := setS ((walkT single t).filter (isK 1))
theorem vars119 (t : T) (hs : t.size < 4000000) : CallP C 119 [enc t] = some (terms (varsR t)) := by
  refine CallP_W rfl Tryz.func119 rfl (by kernel_rfl) (by simp [Tryz.f119]) fun R hR => ?_
  have c1 := call177 t 1 hs
  have l1 : loadV C.P [.cells [.int .i64 t.kind, .str t.name, .int .i64 t.sort, terms t.kids] .live, .tok 0 25] 25 (.ptr 0 0) = some (enc t) := by
    simp [loadV, cellsAt, a25, s25]; rw [enc_eq]
  simp [go_sem, initS, box25, l1, c1]
  exact hR _ _ _ (.inr rfl) ⟨terms (varsR t), by simp [resultV, resV, Tryz.f119, go_sem, varsR], snap_dat rfl rfl⟩
theorem call119 (t : T) (hs : t.size < 4000000) (h : H) : callV C h (.func 119 []) (some [enc t]) = some (terms (varsR t), h) := callV_strip (by kernel_rfl) rfl (dat_enc _) (by simp [short_enc]) (by simp) (vars119 t hs)
theorem ground70 (t : T) (hs : t.size < 4000000) : CallP C 70 [enc t] = some (.bool (decide (varsR t = []))) := by
  refine CallP_W rfl Tryz.func70 rfl (by kernel_rfl) (by simp [Tryz.f70]) fun R hR => ?_
  have c1 := call119 t hs
  have l1 : loadV C.P [.cells [.int .i64 t.kind, .str t.name, .int .i64 t.sort, terms t.kids] .live] 25 (.ptr 0 0) = some (enc t) := by
    simp [loadV, cellsAt, a25, s25]; rw [enc_eq]
  have hln := len23t (varsR t)
  simp [go_sem, initS, box25, l1, c1, hln]
  refine hR _ _ _ (.inr rfl) ⟨_, rfl, ?_⟩
  simp [go_sem]
  exact snap_dat rfl rfl
theorem call70 (t : T) (hs : t.size < 4000000) (h : H) : callV C h (.func 70 []) (some [enc t]) = some (.bool (decide (varsR t = [])), h) := callV_strip (by kernel_rfl) rfl (dat_enc _) (by simp [short_enc]) (by simp) (ground70 t hs)
def varsRs (l : List T) : List T := setS (l.flatMap varsR)
def NI68 (l : List T) (m : Nat) (st : PT) (h : H) : Prop := ∃ k : Nat, m = l.length - k ∧ k ≤ l.length ∧ st.get 0 = terms l ∧ st.get 4 = .int .i64 k ∧ OwnR 25 h (st.get 3) (((l.take k).flatMap varsR).map enc)
theorem varsR_len (t : T) : (varsR t).length ≤ t.size := by
  have h1 := setS_len ((walkT single t).filter (isK 1))
  have h2 := List.length_filter_le (isK 1) (walkT single t)
  have h3 := walkT_len single single_len t
  unfold varsR; omega
theorem varsR_flat_len (l : List T) : (l.flatMap varsR).length ≤ sizes l := by
  induction l with
  | nil => simp [sizes]
  | cons a l ih =>
    have := varsR_len a
    rw [List.flatMap_cons, List.length_append, sizes]; omega
theorem varsR_small {t : T} {n : Nat} (h : t.size < n) : ∀ x ∈ varsR t, x.size < n := fun x hx => walk_small single_mem t h x (List.mem_filter.1 (mem_setS.1 hx)).1
set_option maxRecDepth 8000 in
set_option maxHeartbeats 4000000 in
theorem varsOf68 (l : List T) (hs : ∀ x ∈ l, x.size < 4000000) (hl : sizes l < 4000000) : CallP C 68 [terms l] = some (terms (varsRs l)) := by
  refine CallP_W rfl Tryz.func68 rfl (by kernel_rfl) (by simp [Tryz.f68]) fun R hR => ?_
  have hln := len23t l
  have hlen := len_sizes l
  simp [go_sem]
  refine W_loop (NI68 l) l.length ⟨0, rfl, Nat.zero_le _, by simp [go_sem], by simp [go_sem], .inr ⟨1, by simp [go_sem]⟩⟩ ?_
  rintro m st h ⟨k, rfl, hk, g0, g4, go⟩
  obtain ⟨v3, e3⟩ : ∃ v, v = st.get 3 := ⟨_, rfl⟩
  rw [← e3] at go
  by_cases hlt : k < l.length
  · have hlt' : (k : Int) < l.length := by omega
    have hix := idx23t l k hlt
    have w2 : IntKind.i64.wrap ((k : Int) + 1) = ((k + 1 : Nat) : Int) := by rw [wrap_in (by omega)]; omega
    have ck := call119 l[k] (hs _ (List.getElem_mem hlt))
    have hsp : (l.take (k + 1)).flatMap varsR = (l.take k).flatMap varsR ++ varsR l[k] := by
      rw [List.take_succ_eq_append_getElem hlt, List.flatMap_append]; simp
    have hfl := varsR_flat_len (l.take (k + 1))
    have htl := take_sizes_le l (k + 1)
    rw [hsp, List.length_append] at hfl
    obtain ⟨v', h', ha, ho, _, _⟩ := append23 (ys := varsR l[k]) (x := .unk) go (by omega)
    rw [← hsp] at ho
    change appendW C.P false h 23 v3 (terms (varsR l[k])) = some (v', h') at ha
    simp [go_sem, g0, g4, ← e3, hln, hlt', hix, ld25, ck, ha, -Int.natCast_add, w2]
    exact ⟨l.length - (k + 1), by omega, k + 1, rfl, hlt, by simp [go_sem, g0], by simp [go_sem], by simpa [go_sem] using ho⟩
  · have : k = l.length := by omega
    subst this
    rw [List.take_length] at go
    obtain ⟨x, hx⟩ := go.isl
    have hfl := varsR_flat_len l
    have c2 := call120 (l.flatMap varsR) x (fun y hy => by
      obtain ⟨a, ha, hy⟩ := List.mem_flatMap.1 hy
      exact varsR_small (hs a ha) y hy) (by omega)
    simp [go_sem, g0, g4, ← e3, hln, hx, c2]
    exact hR _ _ _ (.inr rfl) ⟨terms (varsRs l), by simp [resultV, resV, Tryz.f68, go_sem, varsRs], snap_dat rfl rfl⟩
theorem call68 (l : List T) (x : Ext) (hs : ∀ x ∈ l, x.size < 4000000) (hl : sizes l < 4000000) (h : H) : callV C h (.func 68 []) (some [.isl (l.map enc) x]) = some (terms (varsRs l), h) := callV_strip (by kernel_rfl) rfl (args' := [terms l]) rfl rfl (by simp) (varsOf68 l hs hl)
end Go.VZ
namespace TL
def lt (x y : T) : Prop := x.cmp y < 0
theorem lt_le {x y z : T} (a : lt x y) (b : le y z) : lt x z := by
  rw [le_iff] at b
  unfold lt at *
  have t := cmp_tri x y z
  by_cases e : y.cmp z = 0
  · rw [t.2.1 e]; exact a
  · exact t.2.2 a (by omega)
theorem lt_ne {x : T} (a : lt x x) : False := by unfold lt at a; rw [cmp_refl] at a; omega
/-- Two strictly sorted rows of the same terms are one. -/
theorem strict_eq : ∀ {l m : List T}, l.Pairwise lt → m.Pairwise lt → (∀ x, x ∈ l ↔ x ∈ m) → l = m
  | [], [], _, _, _ => rfl
  | [], b :: m, _, _, h => by have := (h b).2 (by simp); simp at this
  | a :: l, [], _, _, h => by have := (h a).1 (by simp); simp at this
  | a :: l, b :: m, h1, h2, h => by
    rw [List.pairwise_cons] at h1 h2
    have eab : a = b := by
      rcases List.mem_cons.1 ((h a).1 (by simp)) with e | e
      · exact e
      · rcases List.mem_cons.1 ((h b).2 (by simp)) with e' | e'
        · exact e'.symm
        · exact (lt_ne (cmp_trans (h1.1 b e') (h2.1 a e))).elim
    subst eab
    congr 1
    refine strict_eq h1.2 h2.2 fun x => ?_
    constructor
    · intro hx
      rcases List.mem_cons.1 ((h x).1 (by simp [hx])) with e | e
      · subst e; exact (lt_ne (h1.1 _ hx)).elim
      · exact e
    · intro hx
      rcases List.mem_cons.1 ((h x).2 (by simp [hx])) with e | e
      · subst e; exact (lt_ne (h2.1 _ hx)).elim
      · exact e
theorem addS_sorted {t : T} : ∀ {s : List T}, s.Pairwise lt → (addS t s).Pairwise lt
  | [], _ => by simp [addS]
  | x :: r, h => by
    rw [List.pairwise_cons] at h
    rw [addS]
    split
    · rename_i hlt
      rw [List.pairwise_cons, List.pairwise_cons]
      refine ⟨fun y hy => ?_, h⟩
      rcases List.mem_cons.1 hy with rfl | hy
      · exact hlt
      · exact cmp_trans hlt (h.1 y hy)
    · split
      · rw [List.pairwise_cons]; exact h
      · rename_i h1 h2
        rw [List.pairwise_cons]
        refine ⟨fun y hy => ?_, addS_sorted h.2⟩
        rcases mem_addS.1 hy with rfl | hy
        · exact cmp_lt (by omega)
        · exact h.1 y hy
theorem setS_sorted (l : List T) : (setS l).Pairwise lt := by
  have key : ∀ (l s : List T), s.Pairwise lt → (l.foldl (fun s t => addS t s) s).Pairwise lt := by
    intro l
    induction l with
    | nil => intro s h; exact h
    | cons a l ih => intro s h; exact ih _ (addS_sorted h)
  exact key l [] List.Pairwise.nil
theorem ddj_spec {l : List T} (hs : l.Pairwise le) : ∀ j, j ≤ l.length → (ddj l j).Pairwise lt ∧ ∀ x, x ∈ ddj l j ↔ x ∈ l.take j
  | 0, _ => by simp [ddj]
  | j + 1, hj => by
    obtain ⟨h1, h2⟩ := ddj_spec hs j (by omega)
    have hlt : j < l.length := by omega
    have hg : ∀ i, i < l.length → l.getD i default = l[i]! := fun i hi => by
      rw [List.getD_eq_getElem?_getD, List.getElem?_eq_getElem hi]; simp [List.getElem!_eq_getElem?_getD, List.getElem?_eq_getElem hi]
    have gj : l.getD j default = l[j] := by rw [List.getD_eq_getElem?_getD, List.getElem?_eq_getElem hlt]; rfl
    rw [ddj, gj]
    split
    · rename_i hc
      have hj1 : j - 1 < l.length := by omega
      have gj1 : l.getD (j - 1) default = l[j - 1] := by rw [List.getD_eq_getElem?_getD, List.getElem?_eq_getElem hj1]; rfl
      rw [gj1] at hc
      have e := cmp_zero.1 hc.2
      refine ⟨h1, fun x => ?_⟩
      rw [h2, List.take_succ_eq_append_getElem hlt, List.mem_append, List.mem_singleton]
      constructor
      · exact .inl
      · rintro (h | h)
        · exact h
        · rw [h, e, List.mem_take_iff_getElem]
          exact ⟨j - 1, by omega, rfl⟩
    · rename_i hc
      refine ⟨?_, fun x => ?_⟩
      · rw [List.pairwise_append]
        refine ⟨h1, by simp, fun x hx y hy => ?_⟩
        simp only [List.mem_singleton] at hy
        subst hy
        obtain ⟨i, hi, rfl⟩ := List.mem_take_iff_getElem.1 ((h2 x).1 hx)
        have hij : i < j := by omega
        have hle := List.pairwise_iff_getElem.1 hs
        have hj1 : j - 1 < l.length := by omega
        have gj1 : l.getD (j - 1) default = l[j - 1] := by rw [List.getD_eq_getElem?_getD, List.getElem?_eq_getElem hj1]; rfl
        rw [gj1] at hc
        have hne : l[j].cmp l[j - 1] ≠ 0 := fun e => hc ⟨by omega, e⟩
        have l1 : le l[j - 1] l[j] := hle (j - 1) j hj1 hlt (by omega)
        have l2 : lt l[j - 1] l[j] := by
          rw [le_iff] at l1; unfold lt; rw [cmp_anti] at hne; omega
        by_cases e : i = j - 1
        · subst e; exact l2
        · have l3 : le l[i] l[j - 1] := hle i (j - 1) (by omega) hj1 (by omega)
          rw [le_iff] at l3
          unfold lt at l2 ⊢
          have t := cmp_tri l[i] l[j - 1] l[j]
          by_cases e2 : l[i].cmp l[j - 1] = 0
          · rw [t.1 e2]; exact l2
          · exact t.2.2 (by omega) l2
      · rw [List.mem_append, h2, List.take_succ_eq_append_getElem hlt, List.mem_append]
theorem ords_spec (l : List T) : (ords l).Pairwise lt ∧ ∀ x, x ∈ ords l ↔ x ∈ l := by
  obtain ⟨h1, h2⟩ := ddj_spec (srt_sorted l) (srt l).length (Nat.le_refl _)
  refine ⟨h1, fun x => ?_⟩
  unfold ords dd
  rw [h2, List.take_length, mem_srt]
end TL
namespace Go.VZ
open TL
theorem mem_kind {k : Int} {x : T} : ∀ t : T, x ∈ walkT (kindOnly k) t ↔ x ∈ walkT single t ∧ x.kind = k := by
  refine T.ind fun t ih => ?_
  rw [walkT_eq, walkT_eq, List.mem_append, List.mem_append, walkTs_map, walkTs_map, List.mem_flatMap, List.mem_flatMap]
  constructor
  · rintro (h | ⟨a, ha, h⟩)
    · unfold kindOnly at h
      split at h
      · rename_i e
        simp only [List.mem_singleton] at h
        subst h
        exact ⟨.inl (by simp [single]), e⟩
      · simp at h
    · exact ⟨.inr ⟨a, ha, ((ih a ha).1 h).1⟩, ((ih a ha).1 h).2⟩
  · rintro ⟨h | ⟨a, ha, h⟩, e⟩
    · simp only [single, List.mem_singleton] at h
      subst h
      exact .inl (by simp [kindOnly, e])
    · exact .inr ⟨a, ha, (ih a ha).2 ⟨h, e⟩⟩
/-- Ground, both ways. -/
theorem ground_same (t : T) : decide (varsT t = []) = decide (varsR t = []) := by
  have key : varsT t = varsR t := by
    refine strict_eq (ords_spec _).1 (setS_sorted _) fun x => ?_
    rw [varsT, (ords_spec _).2, varsR, mem_setS, List.mem_filter, mem_kind]
    simp [isK]
  rw [key]
/-- The variables of facts, both ways. -/
theorem vars_same (fs : List Fa) (l : List T) (h : ∀ t, t ∈ allTerms fs ↔ t ∈ l) : varsF fs = varsRs l := by
  refine strict_eq ((ords_spec _).1.filter _) (setS_sorted _) fun x => ?_
  rw [varsF, List.mem_filter, (ords_spec _).2, varsRs, mem_setS, walkTs_map, List.mem_flatMap, List.mem_flatMap]
  constructor
  · rintro ⟨⟨a, ha, hx⟩, hv⟩
    exact ⟨a, (h a).1 ha, by rw [varsR, mem_setS, List.mem_filter]; exact ⟨hx, by simpa [isVr, isK] using hv⟩⟩
  · rintro ⟨a, ha, hx⟩
    rw [varsR, mem_setS, List.mem_filter] at hx
    exact ⟨⟨a, (h a).2 ha, hx.1⟩, by simpa [isVr, isK] using hx.2⟩
end Go.VZ

/- Whether a clause is valid: both ways walked. -/
namespace Go.VZ
open Go Go.V Go.Proofs TL
def factsE : List Fa → Int
  | [] => 0
  | f :: l => if factE f ≠ 0 then factE f else factsE l
def clauseE (c : Cl) : Int := if 12 < c.body.length then 3 else factsE (factsOf c)
theorem factsE_snoc (l : List Fa) (f : Fa) : factsE (l ++ [f]) = if factsE l ≠ 0 then factsE l else factE f := by
  induction l with
  | nil => by_cases h : factE f = 0 <;> simp [factsE, h]
  | cons a l ih =>
    rw [List.cons_append, factsE, factsE, ih]
    by_cases h : factE a ≠ 0 <;> simp [h]
def okF (l : List Fa) : Prop := ∀ f ∈ l, smallF f.terms ∧ f.terms.length < 4000000
def NI35 (l : List Fa) (n : Nat) (st : PT) (_h : H) : Prop := ∃ k : Nat, n = l.length - k ∧ k ≤ l.length ∧ st.get 11 = factsV l ∧ st.get 12 = .int .i64 l.length ∧ st.get 13 = .int .i64 k ∧ factsE l = factsE (l.drop k)
set_option maxRecDepth 8000 in
set_option maxHeartbeats 4000000 in
theorem valid35 (c : Cl) (hs : okF (factsOf c)) : CallP C 35 [encCl c] = some (.int .i64 (clauseE c)) := by
  refine CallP_W rfl Tryz.func35 rfl (by kernel_rfl) (by simp [Tryz.f35]) fun R hR => ?_
  have fin : ∀ (st : PT) (h : H) (e : Int), st.get 2 = .int .i64 e → clauseE c = e → R .ret st h := fun st h e h2 he => hR _ _ _ (.inr rfl) ⟨.int .i64 e, by simp [resultV, resV, Tryz.f35, h2], by rw [he]; exact snap_dat rfl rfl⟩
  have m0 : ([.cells (clC c) .live] : H)[0]? = some (.cells (clC c) .live) := rfl
  have l0 := ld33c m0
  have l1 := ld37c m0
  have hln := len33f c.body
  by_cases h12 : 12 < c.body.length
  · have h12' : (12 : Int) < c.body.length := by omega
    simp [go_sem, initS, box37, l0, hln, h12']
    exact fin _ _ 3 (by simp [go_sem]) (by rw [clauseE, if_pos h12])
  have h12' : ¬ (12 : Int) < c.body.length := by omega
  have c1 := call57 c (by omega)
  have he : clauseE c = factsE (factsOf c) := by rw [clauseE, if_neg h12]
  rw [he] at fin
  have hll : (factsOf c).length ≤ 13 := by simp [factsOf]; omega
  generalize factsOf c = l at c1 hs fin hll
  have hln2 := len33f l
  simp [go_sem, box37, l0, hln, h12', l1, c1, hln2]
  refine W_loop (NI35 l) l.length ⟨0, rfl, Nat.zero_le _, by simp [go_sem], by simp [go_sem], by simp [go_sem], rfl⟩ ?_
  rintro n st h ⟨k, rfl, hk, g11, g12, g13, hd⟩
  by_cases hlt : k < l.length
  · have hlt' : (k : Int) < l.length := by omega
    have hix : indexAddrV C.P 33 (factsV l) (.int .i64 k) = some (.iptr (encFa l[k]) 0) := idx33 l k hlt .unk
    have e4 := st35z l[k] h
    have e5 := ld35b l[k] h
    have l35 := ld35i l[k] h
    have c2 := call58 l[k] (hs _ (List.getElem_mem hlt)).1 (hs _ (List.getElem_mem hlt)).2
    rw [List.drop_eq_getElem_cons hlt, factsE] at hd
    by_cases hz : factE l[k] = 0
    · have w2 : IntKind.i64.wrap ((k : Int) + 1) = ((k + 1 : Nat) : Int) := by rw [wrap_in (by omega)]; omega
      simp [go_sem, g11, g12, g13, hlt', hix, l35, zv35, e4, e5, c2, cells_agg, hz, -Int.natCast_add, w2]
      exact ⟨l.length - (k + 1), by omega, k + 1, rfl, hlt, by simp [go_sem, g11], by simp [go_sem, g12], by simp [go_sem], by rw [hd, if_neg (by simpa using hz)]⟩
    · simp [go_sem, g11, g12, g13, hlt', hix, l35, zv35, e4, e5, c2, cells_agg, hz]
      exact fin _ _ (factE l[k]) (by simp [go_sem]) (by rw [hd, if_pos hz])
  · have : k = l.length := by omega
    subst this
    rw [List.drop_length, factsE] at hd
    simp [go_sem, g12, g13]
    exact fin _ _ 0 (by simp [go_sem]) hd
theorem call35 (c : Cl) (hs : okF (factsOf c)) (h : H) : callV C h (.func 35 []) (some [encCl c]) = some (.int .i64 (clauseE c), h) := callV_strip (by kernel_rfl) rfl (dat_cl c) (by simp [short_cl]) (by simp) (valid35 c hs)
def NI37 (c : Cl) (n : Nat) (st : PT) (h : H) : Prop := ∃ k : Nat, n = c.body.length - k ∧ k ≤ c.body.length ∧ st.get 1 = .ptr 0 0 ∧ st.get 3 = .int .i64 k ∧ h[0]? = some (.cells (clC c) .live) ∧ factsE c.body = factsE (c.body.drop k)
set_option maxRecDepth 8000 in
set_option maxHeartbeats 4000000 in
theorem valid37 (c : Cl) (hs : okF (factsOf c)) : CallP C 37 [encCl c] = some (.int .i64 (clauseE c)) := by
  refine CallP_W rfl Tryz.func37 rfl (by kernel_rfl) (by simp [Tryz.f37]) fun R hR => ?_
  have fin : ∀ (st : PT) (h : H) (e : Int), st.get 2 = .int .i64 e → clauseE c = e → R .ret st h := fun st h e h2 he => hR _ _ _ (.inr rfl) ⟨.int .i64 e, by simp [resultV, resV, Tryz.f37, h2], by rw [he]; exact snap_dat rfl rfl⟩
  have m0 : ([.cells (clC c) .live] : H)[0]? = some (.cells (clC c) .live) := rfl
  have l0 := ld33c m0
  have hln := len33f c.body
  by_cases h12 : 12 < c.body.length
  · have h12' : (12 : Int) < c.body.length := by omega
    simp [go_sem, initS, box37, l0, hln, h12']
    exact fin _ _ 3 (by simp [go_sem]) (by rw [clauseE, if_pos h12])
  have h12' : ¬ (12 : Int) < c.body.length := by omega
  have he : clauseE c = if factsE c.body ≠ 0 then factsE c.body else factE c.head := by rw [clauseE, if_neg h12, factsOf, factsE_snoc]
  simp [go_sem, box37, l0, hln, h12']
  refine W_loop (NI37 c) c.body.length ⟨0, rfl, Nat.zero_le _, by simp [go_sem], by simp [go_sem], rfl, rfl⟩ ?_
  clear m0 l0
  rintro n st h ⟨k, rfl, hk, g1, g3, m0, hd⟩
  have l0 := ld33c m0
  have l1 := ld35c m0
  by_cases hlt : k < c.body.length
  · have hlt' : (k : Int) < c.body.length := by omega
    have hix : indexAddrV C.P 33 (factsV c.body) (.int .i64 k) = some (.iptr (encFa c.body[k]) 0) := idx33 c.body k hlt .unk
    have l35 := ld35i c.body[k] h
    have hm : c.body[k] ∈ factsOf c := by simp [factsOf]
    have c2 := call66 c.body[k] (hs _ hm).1 (hs _ hm).2
    rw [List.drop_eq_getElem_cons hlt, factsE] at hd
    by_cases hz : factE c.body[k] = 0
    · have w2 : IntKind.i64.wrap ((k : Int) + 1) = ((k + 1 : Nat) : Int) := by rw [wrap_in (by omega)]; omega
      simp [go_sem, g1, g3, l0, hln, hlt', hix, l35, c2, hz, -Int.natCast_add, w2]
      exact ⟨c.body.length - (k + 1), by omega, k + 1, rfl, hlt, by simp [go_sem, g1], by simp [go_sem], m0, by rw [hd, if_neg (by simpa using hz)]⟩
    · rw [if_pos hz] at hd
      simp [go_sem, g1, g3, l0, hln, hlt', hix, l35, c2, hz]
      exact fin _ _ (factE c.body[k]) (by simp [go_sem]) (by rw [he, hd, if_pos hz])
  · have : k = c.body.length := by omega
    subst this
    rw [List.drop_length, factsE] at hd
    have hm : c.head ∈ factsOf c := by simp [factsOf]
    have c2 := call66 c.head (hs _ hm).1 (hs _ hm).2
    simp [go_sem, g1, g3, l0, hln, l1, c2]
    exact fin _ _ (factE c.head) (by simp [go_sem]) (by rw [he, hd]; simp)
theorem call37 (c : Cl) (hs : okF (factsOf c)) (h : H) : callV C h (.func 37 []) (some [encCl c]) = some (.int .i64 (clauseE c), h) := callV_strip (by kernel_rfl) rfl (dat_cl c) (by simp [short_cl]) (by simp) (valid37 c hs)
end Go.VZ

/- Whether a clause is small: the law's guard, walked. -/
namespace Go.VZ
open Go Go.V Go.Proofs TL
theorem MX_mono {C : Cfg} {cf : FuncId} {ops : Array Oper} {base : Nat} {K K' : PT → H → List FP → Prop} (hk : ∀ s h F, K s h F → K' s h F) : ∀ (l : List Oper) (i : Nat) (s : PT) (h : H) (F : List FP), MX C cf ops base K i l s h F → MX C cf ops base K' i l s h F
  | [], _, _, _, _, hx => hk _ _ _ hx
  | _ :: l, _, _, _, _, ⟨v, h2, f, e, hx⟩ => ⟨v, h2, f, e, MX_mono hk l _ _ _ _ hx⟩
/-- A mixed region, and what is known behind it. -/
theorem W_mixedP {C : Cfg} {cf : FuncId} {R : Ex → PT → H → Prop} {k : List It} {s : PT} {h : H} (id : Nat) (ops : Array Oper) (P : PT → H → Prop) (hm : C.mix cf id = true) (ht : tmpOk ops = true)
    (hx : MX C cf ops h.length (fun s' h' F => fpOk ops F = true ∧ P s' h') 0 ops.toList s (h ++ List.replicate ops.size .void) []) (hk : ∀ s' h', P s' h' → N C cf R k s' h') : W C cf R (.region id ops true) k s h :=
  W_mixed id ops hm ht (MX_mono (fun _ _ _ a => ⟨a.1, hk _ _ a.2⟩) _ _ _ _ _ hx)
def termsOf (c : Cl) : List T := c.head.terms ++ allTerms c.body
def NI56 (c : Cl) (n : Nat) (st : PT) (h : H) : Prop := ∃ k : Nat, n = c.body.length - k ∧ k ≤ c.body.length ∧ st.get 1 = .ptr 0 0 ∧ st.get 4 = .int .i64 k ∧ h[0]? = some (.cells (clC c) .live) ∧ OwnR 25 h (st.get 3) ((c.head.terms ++ allTerms (c.body.take k)).map enc)
theorem ld23h {h : H} {i : Nat} {c : Cl} (hi : h[i]? = some (.cells (clC c) .live)) : loadV C.P h 23 (.ptr i 3) = some (terms c.head.terms) := by simp [loadV, hi, cellsAt, a23, s23, clC, faC, terms]
theorem fa35_2i (e : AV) : fieldAddrV C.P 35 (.iptr e 0) 2 = some (.iptr e 2) := by kernel_rfl
theorem ld23fi (f : Fa) (h : H) : loadV C.P h 23 (.iptr (encFa f) 2) = some (terms f.terms) := by simp [loadV, cellsAt, a23, s23, encFa, faC, cells_agg, terms]
theorem build23_0 (h : H) : buildSliceV C.P h 23 0 [] = some (.isl [] .full, h) := buildSlice_dats u23 s25 z25 rfl (by omega) rfl rfl rfl (by simp) rfl
theorem build33_0 (h : H) : buildSliceV C.P h 33 0 [] = some (.isl [] .full, h) := buildSlice_dats u33 s35 z35 rfl (by omega) rfl rfl rfl (by simp) rfl
set_option maxRecDepth 8000 in
set_option maxHeartbeats 4000000 in
theorem terms56 (c : Cl) (hl : (termsOf c).length < 4000000) (hb : c.body.length < 4000000) : CallP C 56 [encCl c] = some (terms (termsOf c)) := by
  refine CallP_W rfl Tryz.func56 rfl (by kernel_rfl) (by simp [Tryz.f56]) fun R hR => ?_
  obtain ⟨h0, eh0⟩ : ∃ g : H, g = [.cells (clC c) .live, .tok 0 25] := ⟨_, rfl⟩
  have m0 : h0[0]? = some (.cells (clC c) .live) := by rw [eh0]; rfl
  have l0 := ld23h m0
  have hln := len33f c.body
  simp only [termsOf, List.length_append] at hl
  obtain ⟨v1, h1, a1, o1, k1, _⟩ := append23 (h := h0) (v := .isl [] .full) (xs := []) (ys := c.head.terms) (x := .unk) (.inl rfl) (by simp; omega)
  change appendW C.P false h0 23 _ (terms c.head.terms) = _ at a1
  simp [go_sem, box37]
  rw [← eh0]
  simp [go_sem, build23_0, l0, a1]
  refine W_loop (NI56 c) c.body.length ⟨0, rfl, Nat.zero_le _, by simp [go_sem], by simp [go_sem], k1.get m0 (by simp [idOf]), by simpa [go_sem, allTerms] using o1⟩ ?_
  clear m0 l0 a1 o1 k1 eh0
  rintro n st h ⟨k, rfl, hk, g1, g4, m0, go⟩
  have l0 := ld33c m0
  obtain ⟨v3, e3⟩ : ∃ v, v = st.get 3 := ⟨_, rfl⟩
  rw [← e3] at go
  by_cases hlt : k < c.body.length
  · have hlt' : (k : Int) < c.body.length := by omega
    have hix : indexAddrV C.P 33 (factsV c.body) (.int .i64 k) = some (.iptr (encFa c.body[k]) 0) := idx33 c.body k hlt .unk
    have w2 : IntKind.i64.wrap ((k : Int) + 1) = ((k + 1 : Nat) : Int) := by rw [wrap_in (by omega)]; omega
    have htl := allTerms_le c.body (k + 1)
    rw [allTerms_take hlt, List.length_append] at htl
    obtain ⟨v', h', ha, ho, hkp, _⟩ := append23 (ys := c.body[k].terms) (x := .unk) go (by simp only [List.length_append]; omega)
    rw [List.append_assoc, ← allTerms_take hlt] at ho
    change appendW C.P false h 23 v3 (terms c.body[k].terms) = some (v', h') at ha
    have m0' := hkp.get m0 (own_not go m0)
    simp [go_sem, g1, g4, ← e3, l0, hln, hlt', hix, fa35_2i, ld23fi, ha, -Int.natCast_add, w2]
    exact ⟨c.body.length - (k + 1), by omega, k + 1, rfl, hlt, by simp [go_sem, g1], by simp [go_sem], m0', by simpa [go_sem] using ho⟩
  · have : k = c.body.length := by omega
    subst this
    rw [List.take_length] at go
    obtain ⟨x, hx⟩ := go.isl
    simp [go_sem, g1, g4, ← e3, l0, hln, hx]
    exact hR _ _ _ (.inr rfl) ⟨.isl ((termsOf c).map enc) x, by simp [resultV, resV, Tryz.f56, go_sem, termsOf], snap_dat rfl rfl⟩
theorem call56 (c : Cl) (hl : (termsOf c).length < 4000000) (hb : c.body.length < 4000000) (h : H) : callV C h (.func 56 []) (some [encCl c]) = some (terms (termsOf c), h) := callV_strip (by kernel_rfl) rfl (dat_cl c) (by simp [short_cl]) (by simp) (terms56 c hl hb)
def shortF : List Fa → Bool
  | [] => true
  | f :: l => if 12 < f.terms.length then false else shortF l
def fewCl (c : Cl) (n : Int) : Bool := if 14 < c.body.length then false else if shortF (factsOf c) = false then false else fewT (termsOf c) 200 n
theorem appV0 (h : H) (a : Fa) (l : List Fa) (x : Ext) (hl : (a :: l).length ≤ 10000) : appendW C.P false h 33 (.isl [] .full) (.isl ((a :: l).map encFa) x) = some (.isl ((a :: l).map encFa) (.tok h.length), h ++ [.tok (a :: l).length 35]) := by
  have hsz := szOk_encFa (a :: l)
  have hl2 : ((a :: l).map encFa).length ≤ 35184372088832 ∧ ((a :: l).map encFa).length * 40 ≤ 140737488355328 := by simp only [List.length_map]; omega
  generalize e : (a :: l).map encFa = es at hsz hl2
  have hn : es ≠ [] := by rw [← e]; simp
  have hel : es.length = (a :: l).length := by rw [← e]; simp
  have h0 : szOk 3 [] = true := rfl
  simp only [appendW_false, appendV, u33, s35, b35, elemsV, z35, hsz, h0]
  cases es with
  | nil => exact absurd rfl hn
  | cons y ys =>
    rw [← hel]
    simp only [List.length_nil, Nat.zero_add, List.nil_append]
    rw [if_neg (by simp), if_neg (by simp), if_neg (by simpa using hl2)]
theorem appV0n (h : H) (x : Ext) : appendW C.P false h 33 (.isl [] .full) (.isl [] x) = some (.isl [] .full, h) := by
  have h0 : szOk 3 [] = true := rfl
  simp only [appendW_false, appendV, u33, s35, b35, elemsV, z35, h0]
  rfl
theorem appV1 {h : H} {i : Nat} (l : List Fa) (f : Fa) (hi : h[i]? = some (.tok l.length 35)) (hl : l.length ≤ 10000) : appendW C.P false h 33 (.isl (l.map encFa) (.tok i)) (.isl [encFa f] .full) = some (.isl ((l ++ [f]).map encFa) (.tok i), h.set i (.tok (l.length + 1) 35)) := by
  have h1 := szOk_encFa l
  have h2 := szOk_encFa [f]
  simp only [List.map_cons, List.map_nil] at h2
  simp only [appendW_false, appendV, u33, s35, b35, elemsV, z35, h1, h2, List.length_map, List.length_cons, List.length_nil, hi]
  rw [if_neg (by simp), if_neg (by simp), if_neg (by simp; omega), if_pos ⟨trivial, trivial⟩]
  simp
def NI34 (c : Cl) (n : Int) (m : Nat) (st : PT) (h : H) : Prop := ∃ k : Nat, m = (factsOf c).length - k ∧ k ≤ (factsOf c).length ∧ st.get 1 = .int .i64 n ∧ st.get 2 = .ptr 0 0 ∧ st.get 6 = .int .i64 k ∧ (∃ x, st.get 5 = .isl ((factsOf c).map encFa) x) ∧ h[0]? = some (.cells (clC c) .live) ∧ shortF (factsOf c) = shortF ((factsOf c).drop k)
theorem shortF_len {l : List Fa} (h : shortF l = true) : ∀ f ∈ l, f.terms.length ≤ 12 := by
  induction l with
  | nil => intro f hf; simp at hf
  | cons a l ih =>
    rw [shortF] at h
    split at h
    · cases h
    · intro f hf
      rcases List.mem_cons.1 hf with rfl | hf
      · omega
      · exact ih h f hf
theorem allTerms_short {l : List Fa} (h : ∀ f ∈ l, f.terms.length ≤ 12) : (allTerms l).length ≤ 12 * l.length := by
  induction l with
  | nil => simp [allTerms]
  | cons a l ih =>
    have h1 := h a (by simp)
    have h2 := ih fun f hf => h f (by simp [hf])
    simp only [allTerms, List.flatMap_cons, List.length_append, List.length_cons] at h2 ⊢; omega
theorem mem_void {_h : H} {_j : Nat} (_H0 : H) : True := trivial
set_option maxRecDepth 8000 in
set_option maxHeartbeats 4000000 in
theorem few34 (c : Cl) (n : Int) (hn : n < 4000000) (hn0 : 0 ≤ n) : CallP C 34 [encCl c, .int .i64 n] = some (.bool (fewCl c n)) := by
  refine CallP_W rfl Tryz.func34 rfl (by kernel_rfl) (by simp [Tryz.f34]) fun R hR => ?_
  have fin : ∀ (st : PT) (h : H) (b : Bool), st.get 4 = .bool b → fewCl c n = b → R .ret st h := fun st h e h2 he => hR _ _ _ (.inr rfl) ⟨.bool e, by simp [resultV, resV, Tryz.f34, h2], by rw [he]; exact snap_dat rfl rfl⟩
  have m0 : ([.cells (clC c) .live] : H)[0]? = some (.cells (clC c) .live) := rfl
  have l0 := ld33c m0
  have hln := len33f c.body
  by_cases h14 : 14 < c.body.length
  · have h14' : (14 : Int) < c.body.length := by omega
    simp [go_sem, initS, box37, l0, hln, h14']
    exact fin _ _ false (by simp [go_sem]) (by rw [fewCl, if_pos h14])
  have h14' : ¬ (14 : Int) < c.body.length := by omega
  have hfe : fewCl c n = if shortF (factsOf c) = false then false else fewT (termsOf c) 200 n := by rw [fewCl, if_neg h14]
  simp [go_sem, box37, l0, hln, h14']
  refine W_mixedP 3 _ (fun st h => st.get 1 = .int .i64 n ∧ st.get 2 = .ptr 0 0 ∧ (∃ x, st.get 5 = .isl ((factsOf c).map encFa) x) ∧ h[0]? = some (.cells (clC c) .live)) (by rw [mixC]; decide) (by kernel_rfl) ?_ ?_
  rotate_left
  · clear m0 l0
    rintro st h ⟨g1, g2, g5, m0⟩
    have hfl : (factsOf c).length ≤ 15 := by simp [factsOf]; omega
    simp [go_sem]
    refine W_loop (NI34 c n) (factsOf c).length ⟨0, rfl, Nat.zero_le _, by simp [go_sem, g1], by simp [go_sem, g2], by simp [go_sem], by simpa [go_sem] using g5, m0, rfl⟩ ?_
    clear g1 g2 g5 m0
    rintro m st h ⟨k, rfl, hk, g1, g2, g6, ⟨x, g5⟩, m0, hd⟩
    have hlnx : lenV C.P 33 (.isl ((factsOf c).map encFa) x) = some (.int .i64 (factsOf c).length) := by simp [len33]
    by_cases hlt : k < (factsOf c).length
    · have hlt' : (k : Int) < (factsOf c).length := by omega
      have hix : indexAddrV C.P 33 (.isl ((factsOf c).map encFa) x) (.int .i64 k) = some (.iptr (encFa (factsOf c)[k]) 0) := idx33 (factsOf c) k hlt x
      have w2 : IntKind.i64.wrap ((k : Int) + 1) = ((k + 1 : Nat) : Int) := by rw [wrap_in (by omega)]; omega
      have lt := ld23fi (factsOf c)[k] h
      have ln := len23t (factsOf c)[k].terms
      rw [List.drop_eq_getElem_cons hlt, shortF] at hd
      generalize (factsOf c)[k] = f at hix lt ln hd
      by_cases hz : 12 < f.terms.length
      · have hz' : (12 : Int) < f.terms.length := by omega
        rw [if_pos hz] at hd
        simp [go_sem, g5, g6, hlnx, hlt', hix, fa35_2i, lt, ln, hz']
        exact fin _ _ false (by simp [go_sem]) (by rw [hfe, if_pos hd])
      · have hz' : ¬ (12 : Int) < f.terms.length := by omega
        rw [if_neg hz] at hd
        simp [go_sem, g5, g6, hlnx, hlt', hix, fa35_2i, lt, ln, hz', -Int.natCast_add, w2]
        exact ⟨(factsOf c).length - (k + 1), by omega, k + 1, rfl, hlt, by simp [go_sem, g1], by simp [go_sem, g2], by simp [go_sem], ⟨x, by simp [go_sem, g5]⟩, m0, hd⟩
    · have : k = (factsOf c).length := by omega
      subst this
      rw [List.drop_length, shortF] at hd
      have hsh := shortF_len hd
      have htl : (termsOf c).length ≤ 4000 := by
        have h1 := allTerms_short (l := c.body) fun f hf => hsh f (by simp [factsOf, hf])
        have h2 := hsh c.head (by simp [factsOf])
        simp only [termsOf, List.length_append]; omega
      have l1 := ld37c m0
      have c1 := call56 c (by omega) (by omega)
      have c2 := call9' (termsOf c) .unk 200 n hn hn0
      change ∀ h, callV C h (.func 9 []) (some [terms (termsOf c), .int .i64 200, .int .i64 n]) = _ at c2
      simp [go_sem, g1, g2, g5, g6, hlnx, l1, c1, c2]
      exact fin _ _ _ (by simp [go_sem]; rfl) (by rw [hfe, hd]; simp)
  show MX C 34 _ 1 _ 0 _ _ _ _
  generalize hH0 : [VObj.cells (clC c) .live] ++ List.replicate _ VObj.void = H0
  have pl : Pl [.cells (clC c) .live] H0 9 := hH0 ▸ Pl.mk' _ 9
  have hlen := pl.len
  clear hH0
  have p0 : H0[0]? = some (.cells (clC c) .live) := pl.get rfl
  have q0 := ld33c p0
  have q1 := ld35c p0
  simp only [List.length_cons, List.length_nil, Nat.zero_add] at hlen pl
  refine MX_build (parts := []) [] (.isl [] .full) rfl rfl (build33_0 _) (pl.isV (i := 0) (by decide)) ?_
  refine MX_pure (.ptr 0 0) rfl rfl (pl.isV (i := 1) (by decide)) (by simp [opN, go_sem]) (ptr_mv' (by omega)) ?_
  refine MX_load (.ptr 0 0) (factsV c.body) (by simp [go_sem]) q0 (lids_no (by simp)) (pl.isV (i := 2) (by decide)) rfl ?_
  rcases c with ⟨body, head⟩
  cases body with
  | nil =>
    refine MX_append (.isl [] .full) (factsV []) _ H0 H0 (by simp [go_sem]; rfl) (by simp [go_sem]) (by rw [wrC]; exact appV0n H0 .unk) (by omega) rfl (pl.isV (i := 3) (by decide)) (fin_none _ _) ?_
    refine MX_pure (.ptr 0 1) rfl rfl (pl.isV (i := 4) (by decide)) (by simp [opN, go_sem]) (ptr_mv' (by omega)) ?_
    refine MX_load (.ptr 0 1) (encFa head) (by simp [go_sem]) q1 (lids_no (by simp)) (pl.isV (i := 5) (by decide)) rfl ?_
    refine MX_build (parts := [(0, .tmp 16)]) [(0, encFa head)] (.isl [encFa head] .full) (parts1 (by simp [go_sem]) rfl) (reachs_fa _ _) (build33_1 _ _) (pl.isV (i := 6) (by decide)) ?_
    refine MX_append (.isl [] .full) (.isl [encFa head] .full) _ _ _ (by simp [go_sem]; rfl) (by simp [go_sem]; rfl) (by rw [wrC]; exact appV0 H0 head [] .full (by simp)) (by simp) rfl (pl.isV (i := 7) (by decide)) (fin_push (by omega)) ?_
    refine MX_pure (.isl [encFa head] (.tok 8)) rfl rfl ?_ (by simp [opN, go_sem, AV.mv]) (by simp [AV.mv, hlen]) ?_
    · rw [List.getElem?_set_ne (by simp)]; exact pl.isV (i := 8) (by decide)
    exact ⟨by kernel_rfl, by simp [go_sem], by simp [go_sem], ⟨_, by simp [go_sem, factsOf]; rfl⟩, by rw [List.getElem?_set_ne (by simp)]; exact p0⟩
  | cons a l =>
    have hc := appV0 H0 a l .unk (by simp at h14 ⊢; omega)
    refine MX_append (.isl [] .full) (factsV (a :: l)) _ _ _ (by simp [go_sem]; rfl) (by simp [go_sem]) (by rw [wrC]; exact hc) (by simp) rfl (pl.isV (i := 3) (by decide)) (fin_push (by omega)) ?_
    rw [show (AV.isl ((a :: l).map encFa) (.tok H0.length)).mv H0.length (1 + 3) = .isl ((a :: l).map encFa) (.tok 4) by simp [AV.mv]]
    obtain ⟨H1, eH1⟩ : ∃ g, g = H0.set (1 + 3) (VObj.mv H0.length (1 + 3) (.tok (a :: l).length 35)) := ⟨_, rfl⟩
    have hH1 : H1[4]? = some (.tok (a :: l).length 35) := by rw [eH1]; simp [hlen, VObj.mv]
    have hlen1 : H1.length = 10 := by rw [eH1]; simp [hlen]
    have hv : ∀ i, i < 9 → i ≠ 3 → isVoid H1[1 + i]? = true := fun i hi hn => by rw [eH1]; exact isV_set (pl.isV hi) (by omega)
    have p1 : H1[0]? = some (.cells (clC ⟨a :: l, head⟩) .live) := by rw [eH1, List.getElem?_set_ne (by simp)]; exact p0
    have q1' := ld35c p1
    rw [← eH1]
    refine MX_pure (.ptr 0 1) rfl rfl (hv 4 (by decide) (by decide)) (by simp [opN, go_sem]) (ptr_mv' (by omega)) ?_
    refine MX_load (.ptr 0 1) (encFa head) (by simp [go_sem]) q1' (lids_no (by simp)) (hv 5 (by decide) (by decide)) rfl ?_
    refine MX_build (parts := [(0, .tmp 16)]) [(0, encFa head)] (.isl [encFa head] .full) (parts1 (by simp [go_sem]) rfl) (reachs_fa _ _) (build33_1 _ _) (hv 6 (by decide) (by decide)) ?_
    refine MX_append (.isl ((a :: l).map encFa) (.tok 4)) (.isl [encFa head] .full) _ _ _ (by simp [go_sem]) (by simp [go_sem]; rfl) (by rw [wrC]; exact appV1 (a :: l) head hH1 (by simp at h14 ⊢; omega)) (by simp) (by simp [mslId, tokId]) (hv 7 (by decide) (by decide)) (fin_store (by simp)) ?_
    refine MX_pure (.isl ((a :: l ++ [head]).map encFa) (.tok 4)) rfl rfl ?_ (by simp [opN, go_sem, AV.mv, hlen1]) (by simp [AV.mv, hlen1]) ?_
    · rw [List.getElem?_set_ne (by simp)]; exact hv 8 (by decide) (by decide)
    refine ⟨by simp [lids, mslId, tokId]; kernel_rfl, by simp [go_sem], by simp [go_sem], ⟨_, by simp [go_sem, factsOf]; rfl⟩, ?_⟩
    rw [List.getElem?_set_ne (by simp)]; exact p1
theorem call34 (c : Cl) (n : Int) (hn : n < 4000000) (hn0 : 0 ≤ n) (h : H) : callV C h (.func 34 []) (some [encCl c, .int .i64 n]) = some (.bool (fewCl c n), h) := callV_strip (by kernel_rfl) rfl (args' := [encCl c, .int .i64 n]) rfl (by simp [short_cl, short_int]) (by simp) (few34 c n hn hn0)
end Go.VZ

/- Rows of clauses, inferences: their form, the law's guards, the copies. -/
namespace Go.VZ
open Go Go.V Go.Proofs TL
structure Inf where
  clause : Int
  bs : List (T × T)
  kids : List Int
  fact : Fa
def infC (i : Inf) : List AV := .int .i64 i.clause :: binds i.bs :: ints i.kids :: faC i.fact
def encI (i : Inf) : AV := .agg (infC i)
def infs (l : List Inf) : AV := .isl (l.map encI) .unk
def clsV (l : List Cl) : AV := .isl (l.map encCl) .unk
theorem u22 : C.P.underlying 22 = some (.slice 37) := Tryz.underlying22
theorem u42 : C.P.underlying 42 = some (.slice 49) := Tryz.underlying42
theorem s22 : sizeV C.P 22 = some 1 := by kernel_rfl
theorem s49 : sizeV C.P 49 = some 6 := by kernel_rfl
theorem a49 : isAggB C.P 49 = some true := by kernel_rfl
theorem b37 : bytesV C.P 37 = some 64 := by kernel_rfl
theorem b49 : bytesV C.P 49 = some 96 := by kernel_rfl
theorem z37 : zeroOk C.P 37 = true := by kernel_rfl
theorem z49 : zeroOk C.P 49 = true := by kernel_rfl
theorem is22 : isSliceT C.P 22 = some 37 := by kernel_rfl
theorem is42 : isSliceT C.P 42 = some 49 := by kernel_rfl
attribute [go_sem] is22 is42
theorem szOk_cl (l : List Cl) : szOk 4 (l.map encCl) = true := by cases l <;> simp [szOk, encCl, clC, faC, cells_agg]
theorem szOk_inf (l : List Inf) : szOk 6 (l.map encI) = true := by cases l <;> simp [szOk, encI, infC, faC, cells_agg]
theorem len22 (l : List Cl) (x : Ext) : lenV C.P 22 (.isl (l.map encCl) x) = some (.int .i64 l.length) := by simp [lenV, u22]
theorem len42 (l : List Inf) (x : Ext) : lenV C.P 42 (.isl (l.map encI) x) = some (.int .i64 l.length) := by simp [lenV, u42]
theorem len22c (l : List Cl) : lenV C.P 22 (clsV l) = some (.int .i64 l.length) := len22 l _
theorem len42i (l : List Inf) : lenV C.P 42 (infs l) = some (.int .i64 l.length) := len42 l _
theorem len46b (l : List (T × T)) : lenV C.P 46 (binds l) = some (.int .i64 l.length) := by simp [binds, len46]
theorem len47i (l : List Int) : lenV C.P 47 (ints l) = some (.int .i64 l.length) := by simp [ints, len47]
theorem idx22 (l : List Cl) (k : Nat) (hk : k < l.length) : indexAddrV C.P 22 (clsV l) (.int .i64 k) = some (.iptr (encCl l[k]) 0) := by
  simp [clsV, indexAddrV, u22, s37, encCl, clC, faC, cells_agg, hk]
theorem idx42 (l : List Inf) (k : Nat) (hk : k < l.length) : indexAddrV C.P 42 (infs l) (.int .i64 k) = some (.iptr (encI l[k]) 0) := by
  simp [infs, indexAddrV, u42, s49, encI, infC, faC, cells_agg, hk]
theorem ld37i (c : Cl) (h : H) : loadV C.P h 37 (.iptr (encCl c) 0) = some (encCl c) := by simp [loadV, cellsAt, a37, s37, encCl, clC, faC, cells_agg]
theorem ld49i (i : Inf) (h : H) : loadV C.P h 49 (.iptr (encI i) 0) = some (encI i) := by simp [loadV, cellsAt, a49, s49, encI, infC, faC, cells_agg]
theorem fa49i_0 (e : AV) : fieldAddrV C.P 49 (.iptr e 0) 0 = some (.iptr e 0) := by kernel_rfl
theorem fa49i_1 (e : AV) : fieldAddrV C.P 49 (.iptr e 0) 1 = some (.iptr e 1) := by kernel_rfl
theorem fa49i_2 (e : AV) : fieldAddrV C.P 49 (.iptr e 0) 2 = some (.iptr e 2) := by kernel_rfl
theorem fa49i_3 (e : AV) : fieldAddrV C.P 49 (.iptr e 0) 3 = some (.iptr e 3) := by kernel_rfl
theorem fa49_0 (i : Nat) : fieldAddrV C.P 49 (.ptr i 0) 0 = some (.ptr i 0) := by kernel_rfl
theorem fa49_1 (i : Nat) : fieldAddrV C.P 49 (.ptr i 0) 1 = some (.ptr i 1) := by kernel_rfl
theorem fa49_2 (i : Nat) : fieldAddrV C.P 49 (.ptr i 0) 2 = some (.ptr i 2) := by kernel_rfl
theorem fa49_3 (i : Nat) : fieldAddrV C.P 49 (.ptr i 0) 3 = some (.ptr i 3) := by kernel_rfl
theorem ld46i (i : Inf) (h : H) : loadV C.P h 46 (.iptr (encI i) 1) = some (binds i.bs) := by simp [loadV, cellsAt, a46, s46, encI, infC, cells_agg, binds]
theorem ld47i (i : Inf) (h : H) : loadV C.P h 47 (.iptr (encI i) 2) = some (ints i.kids) := by
  have a47 : isAggB C.P 47 = some false := by kernel_rfl
  have s47 : sizeV C.P 47 = some 1 := by kernel_rfl
  simp [loadV, cellsAt, a47, s47, encI, infC, cells_agg, ints]
theorem ld35i3 (i : Inf) (h : H) : loadV C.P h 35 (.iptr (encI i) 3) = some (encFa i.fact) := by simp [loadV, cellsAt, a35, s35, encI, infC, cells_agg, encFa, faC]
def fewCs (l : List Cl) (c n : Int) : Bool := decide ((l.length : Int) ≤ c) && l.all fun x => fewCl x n
def NI28 (l : List Cl) (n : Int) (m : Nat) (st : PT) (_h : H) : Prop := ∃ k : Nat, m = l.length - k ∧ k ≤ l.length ∧ st.get 0 = clsV l ∧ st.get 2 = .int .i64 n ∧ st.get 7 = .int .i64 k ∧ (l.all fun x => fewCl x n) = ((l.drop k).all fun x => fewCl x n)
set_option maxRecDepth 8000 in
set_option maxHeartbeats 4000000 in
theorem few28 (l : List Cl) (c n : Int) (hn : n < 4000000) (hn0 : 0 ≤ n) (hc : c < 4000000) : CallP C 28 [clsV l, .int .i64 c, .int .i64 n] = some (.bool (fewCs l c n)) := by
  refine CallP_W rfl Tryz.func28 rfl (by kernel_rfl) (by simp [Tryz.f28]) fun R hR => ?_
  have fin : ∀ (st : PT) (h : H) (b : Bool), st.get 6 = .bool b → fewCs l c n = b → R .ret st h := fun st h e h2 he => hR _ _ _ (.inr rfl) ⟨.bool e, by simp [resultV, resV, Tryz.f28, h2], by rw [he]; exact snap_dat rfl rfl⟩
  have hln := len22c l
  by_cases h1 : c < l.length
  · simp [go_sem, initS, hln, h1]
    exact fin _ _ false (by simp [go_sem]) (by rw [fewCs, decide_eq_false (by omega), Bool.false_and])
  have he : fewCs l c n = l.all fun x => fewCl x n := by rw [fewCs, decide_eq_true (by omega), Bool.true_and]
  simp [go_sem, hln, h1]
  refine W_loop (NI28 l n) l.length ⟨0, rfl, Nat.zero_le _, by simp [go_sem], by simp [go_sem], by simp [go_sem], rfl⟩ ?_
  rintro m st h ⟨k, rfl, hk, g0, g2, g7, hd⟩
  by_cases hlt : k < l.length
  · have hlt' : (k : Int) < l.length := by omega
    have hix := idx22 l k hlt
    have w2 : IntKind.i64.wrap ((k : Int) + 1) = ((k + 1 : Nat) : Int) := by rw [wrap_in (by omega)]; omega
    have l37 := ld37i l[k]
    have c1 := call34 l[k] n hn hn0
    rw [List.drop_eq_getElem_cons hlt, List.all_cons] at hd
    by_cases hz : fewCl l[k] n = true
    · rw [hz, Bool.true_and] at hd
      simp [go_sem, g0, g2, g7, hln, hlt', hix, l37, c1, hz, -Int.natCast_add, w2]
      exact ⟨l.length - (k + 1), by omega, k + 1, rfl, hlt, by simp [go_sem, g0], by simp [go_sem, g2], by simp [go_sem], hd⟩
    · have hz' : fewCl l[k] n = false := by simpa using hz
      rw [hz', Bool.false_and] at hd
      simp [go_sem, g0, g2, g7, hln, hlt', hix, l37, c1, hz']
      exact fin _ _ false (by simp [go_sem]) (by rw [he, hd])
  · have : k = l.length := by omega
    subst this
    rw [List.drop_length, List.all_nil] at hd
    simp [go_sem, g0, g7, hln]
    exact fin _ _ true (by simp [go_sem]) (by rw [he, hd])
theorem call28 (l : List Cl) (c n : Int) (hn : n < 4000000) (hn0 : 0 ≤ n) (hc : c < 4000000) (h : H) : callV C h (.func 28 []) (some [clsV l, .int .i64 c, .int .i64 n]) = some (.bool (fewCs l c n), h) := callV_strip (by kernel_rfl) rfl (args' := [clsV l, .int .i64 c, .int .i64 n]) rfl (by simp [short_int]; rfl) (by simp) (few28 l c n hn hn0 hc)
theorem few8 (l : List Cl) : CallP C 8 [clsV l] = some (.bool (fewCs l 12 60)) := by
  refine CallP_W rfl Tryz.func8 rfl (by kernel_rfl) (by simp [Tryz.f8]) fun R hR => ?_
  have c1 := call28 l 12 60 (by omega) (by omega) (by omega)
  simp [go_sem, initS, c1]
  exact hR _ _ _ (.inr rfl) ⟨.bool (fewCs l 12 60), by simp [resultV, resV, Tryz.f8, go_sem], snap_dat rfl rfl⟩
theorem call8 (l : List Cl) (h : H) : callV C h (.func 8 []) (some [clsV l]) = some (.bool (fewCs l 12 60), h) := callV_strip (by kernel_rfl) rfl (args' := [clsV l]) rfl rfl (by simp) (few8 l)
def fewI (i : Inf) : Bool := if 14 < i.kids.length then false else if fewB i.bs 20 200 = false then false else fewCl ⟨[], i.fact⟩ 100
def fewTr (l : List Inf) : Bool := if 40 < l.length then false else l.all fewI
theorem bld37 (f : Fa) : buildV C.P 37 [(1, encFa f)] = some (.agg (.isl [] .full :: faC f)) := by
  have e : buildV C.P 37 [(1, .agg [.int .i64 f.kind, .int .i64 f.goal, .isl (f.terms.map enc) .unk])] = some (.agg [.isl [] .full, .int .i64 f.kind, .int .i64 f.goal, .isl (f.terms.map enc) .unk]) := by kernel_rfl
  exact e
theorem call34f (f : Fa) (n : Int) (hn : n < 4000000) (hn0 : 0 ≤ n) (h : H) : callV C h (.func 34 []) (some [.agg (.isl [] .full :: faC f), .int .i64 n]) = some (.bool (fewCl ⟨[], f⟩ n), h) := callV_strip (by kernel_rfl) rfl (args' := [encCl ⟨[], f⟩, .int .i64 n]) rfl (by simp [short_int]; rfl) (by simp) (few34 ⟨[], f⟩ n hn hn0)
def NI16 (l : List Inf) (m : Nat) (st : PT) (_h : H) : Prop := ∃ k : Nat, m = l.length - k ∧ k ≤ l.length ∧ st.get 0 = infs l ∧ st.get 3 = .int .i64 k ∧ l.all fewI = (l.drop k).all fewI
set_option maxRecDepth 8000 in
set_option maxHeartbeats 4000000 in
theorem few16 (l : List Inf) (hb : ∀ i ∈ l, i.bs.length * 112 ≤ 140737488355328) : CallP C 16 [infs l] = some (.bool (fewTr l)) := by
  refine CallP_W rfl Tryz.func16 rfl (by kernel_rfl) (by simp [Tryz.f16]) fun R hR => ?_
  have fin : ∀ (st : PT) (h : H) (b : Bool), st.get 2 = .bool b → fewTr l = b → R .ret st h := fun st h e h2 he => hR _ _ _ (.inr rfl) ⟨.bool e, by simp [resultV, resV, Tryz.f16, h2], by rw [he]; exact snap_dat rfl rfl⟩
  have hln := len42i l
  by_cases h1 : 40 < l.length
  · have h1' : (40 : Int) < l.length := by omega
    simp [go_sem, initS, hln, h1']
    exact fin _ _ false (by simp [go_sem]) (by rw [fewTr, if_pos h1])
  have h1' : ¬ (40 : Int) < l.length := by omega
  have he : fewTr l = l.all fewI := by rw [fewTr, if_neg h1]
  simp [go_sem, hln, h1']
  refine W_loop (NI16 l) l.length ⟨0, rfl, Nat.zero_le _, by simp [go_sem], by simp [go_sem], rfl⟩ ?_
  rintro m st h ⟨k, rfl, hk, g0, g3, hd⟩
  by_cases hlt : k < l.length
  · have hlt' : (k : Int) < l.length := by omega
    have hix := idx42 l k hlt
    have w2 : IntKind.i64.wrap ((k : Int) + 1) = ((k + 1 : Nat) : Int) := by rw [wrap_in (by omega)]; omega
    have hbb := hb _ (List.getElem_mem hlt)
    rw [List.drop_eq_getElem_cons hlt, List.all_cons] at hd
    generalize l[k] = i at hix hd hbb
    have lb := ld46i i
    have lk := ld47i i
    have lf := ld35i3 i
    have lnk := len47i i.kids
    have c1 := call21 i.bs 20 200 (by omega) (by omega) (by omega) (by omega) hbb
    have c2 := call34f i.fact 100 (by omega) (by omega)
    have bld := bld37 i.fact
    have nt : notTuple (encFa i.fact) = true := rfl
    by_cases q1 : 14 < i.kids.length
    · have q1' : (14 : Int) < i.kids.length := by omega
      rw [fewI, if_pos q1, Bool.false_and] at hd
      simp [go_sem, g0, g3, hln, hlt', hix, fa49i_2, lk, lnk, q1']
      exact fin _ _ false (by simp [go_sem]) (by rw [he, hd])
    have q1' : ¬ (14 : Int) < i.kids.length := by omega
    by_cases q2 : fewB i.bs 20 200 = true
    rotate_left
    · have q2' : fewB i.bs 20 200 = false := by simpa using q2
      rw [fewI, if_neg q1, if_pos q2', Bool.false_and] at hd
      simp [go_sem, g0, g3, hln, hlt', hix, fa49i_1, fa49i_2, lb, lk, lnk, q1', c1, q2']
      exact fin _ _ false (by simp [go_sem]) (by rw [he, hd])
    by_cases q3 : fewCl ⟨[], i.fact⟩ 100 = true
    rotate_left
    · have q3' : fewCl ⟨[], i.fact⟩ 100 = false := by simpa using q3
      rw [fewI, if_neg q1, if_neg (by simp [q2]), q3', Bool.false_and] at hd
      simp [go_sem, g0, g3, hln, hlt', hix, fa49i_1, fa49i_2, fa49i_3, lb, lk, lf, lnk, q1', c1, q2, nt, bld, c2, q3']
      exact fin _ _ false (by simp [go_sem]) (by rw [he, hd])
    · rw [fewI, if_neg q1, if_neg (by simp [q2]), q3, Bool.true_and] at hd
      simp [go_sem, g0, g3, hln, hlt', hix, fa49i_1, fa49i_2, fa49i_3, lb, lk, lf, lnk, q1', c1, q2, nt, bld, c2, q3, -Int.natCast_add, w2]
      exact ⟨l.length - (k + 1), by omega, k + 1, rfl, hlt, by simp [go_sem, g0], by simp [go_sem], hd⟩
  · have : k = l.length := by omega
    subst this
    rw [List.drop_length, List.all_nil] at hd
    simp [go_sem, g0, g3, hln]
    exact fin _ _ true (by simp [go_sem]) (by rw [he, hd])
theorem call16 (l : List Inf) (hb : ∀ i ∈ l, i.bs.length * 112 ≤ 140737488355328) (h : H) : callV C h (.func 16 []) (some [infs l]) = some (.bool (fewTr l), h) := callV_strip (by kernel_rfl) rfl (args' := [infs l]) rfl rfl (by simp) (few16 l hb)
end Go.VZ

/- Facts compared, both ways. -/
namespace Go.VZ
open Go Go.V Go.Proofs TL
theorem number122 (a b : Int) : CallP C 122 [.int .i64 a, .int .i64 b] = some (.int .i64 (sgn a b)) := by
  refine CallP_W rfl Tryz.func122 rfl (by kernel_rfl) (by simp [Tryz.f122]) fun R hR => ?_
  by_cases h1 : a < b
  · simp [go_sem, h1]
    refine hR _ _ _ (.inr rfl) ⟨_, rfl, ?_⟩
    simp [go_sem, sgn, h1]; exact snap_dat rfl rfl
  · by_cases h2 : b < a
    · simp [go_sem, h1, h2]
      refine hR _ _ _ (.inr rfl) ⟨_, rfl, ?_⟩
      simp [go_sem, sgn, h1, h2]; exact snap_dat rfl rfl
    · simp [go_sem, h1, h2]
      refine hR _ _ _ (.inr rfl) ⟨_, rfl, ?_⟩
      simp [go_sem, sgn, h1, h2]; exact snap_dat rfl rfl
theorem call122 (a b : Int) (h : H) : callV C h (.func 122 []) (some [.int .i64 a, .int .i64 b]) = some (.int .i64 (sgn a b), h) := callV_strip (by kernel_rfl) rfl rfl rfl (by simp) (number122 a b)
def NI115b (l m : List T) (n : Nat) (s : PT) (_h : H) : Prop := ∃ k : Nat, n = l.length - k ∧ k ≤ l.length ∧ s.get 1 = terms m ∧ s.get 2 = .func 62 [] ∧ s.get 15 = terms l ∧ s.get 16 = .int .i64 l.length ∧ s.get 17 = .int .i64 k ∧ (l.drop k = m.drop k ↔ l = m)
set_option maxRecDepth 8000 in
set_option maxHeartbeats 2000000 in
theorem eqf115b (l m : List T) (hl : smallT l) (hm : smallT m) : CallP C 115 [terms l, terms m, .func 62 []] = some (.bool (decide (l = m))) := by
  refine CallP_W rfl Tryz.func115 rfl (by kernel_rfl) (by simp [Tryz.f115]) fun R hR => ?_
  by_cases he : l.length = m.length
  · have he' : (l.length : Int) = m.length := by omega
    simp [go_sem, terms, len23, he']
    refine W_loop (NI115b l m) l.length ⟨0, rfl, Nat.zero_le _, by simp [go_sem, terms], by simp [go_sem], by simp [go_sem, terms], by simp [go_sem, he'], by simp [go_sem], by simp⟩ ?_
    rintro n s h ⟨k, rfl, hk, g1, g2, g15, g16, g17, hd⟩
    have hln := hl.1
    simp only [terms] at g1 g15
    by_cases hlt : k < l.length
    · have hlt' : (k : Int) < l.length := by omega
      have hltb : k < m.length := by omega
      have hix := idx23 l k hlt .unk
      have hiy := idx23 m k hltb .unk
      have ck := call62 l[k] m[k] (hl.2 _ (List.getElem_mem hlt)) (hm.2 _ (List.getElem_mem hltb))
      have w2 : IntKind.i64.wrap ((k : Int) + 1) = ((k + 1 : Nat) : Int) := by rw [wrap_in (by omega)]; omega
      rw [List.drop_eq_getElem_cons hlt, List.drop_eq_getElem_cons hltb, List.cons.injEq] at hd
      obtain ⟨h2, eh2⟩ : ∃ g, g = h ++ [.cells (enc l[k]).cells .live] := ⟨_, rfl⟩
      have e4 := st25z l[k] h
      rw [← eh2] at e4
      have e5 := st25z m[k] h2
      have e6 := ldb25z m[k] h2
      have e7 : loadV C.P (h2 ++ [.cells (enc m[k]).cells .live]) 25 (.ptr h.length 0) = some (enc l[k]) := by
        have q := ldb25z l[k] h
        rw [← eh2] at q
        have hlen : h.length < h2.length := by rw [eh2]; simp
        simp only [loadV] at q ⊢
        rw [List.getElem?_append_left hlen]; exact q
      by_cases hz : l[k].cmp m[k] = 0
      · simp [go_sem, g1, g2, g15, g16, g17, hlt', hix, hiy, ld25, e4, e5, e6, e7, ck, hz, -Int.natCast_add, w2]
        rw [cmp_zero] at hz
        exact ⟨l.length - (k + 1), by omega, k + 1, rfl, hlt, by simp [go_sem, g1, terms], by simp [go_sem, g2], by simp [go_sem, g15, terms], by simp [go_sem, g16], by simp [go_sem], by rw [← hd]; exact ⟨fun e => ⟨hz, e⟩, fun e => e.2⟩⟩
      · simp [go_sem, g1, g2, g15, g16, g17, hlt', hix, hiy, ld25, e4, e5, e6, e7, ck, hz]
        have hne : l ≠ m := fun e => hz (cmp_zero.mpr (hd.mpr e).1)
        refine hR _ _ _ (.inr rfl) ⟨.bool (decide (l = m)), by simp [resultV, resV, Tryz.f115, go_sem, hne], snap_dat rfl rfl⟩
    · have : k = l.length := by omega
      subst this
      rw [List.drop_length, he, List.drop_length] at hd
      have e := hd.mp rfl
      simp [go_sem, g16, g17]
      refine hR _ _ _ (.inr rfl) ⟨.bool (decide (l = m)), by simp [resultV, resV, Tryz.f115, go_sem, e], snap_dat rfl rfl⟩
  · have he' : ¬ (l.length : Int) = m.length := by omega
    simp [go_sem, initS, terms, len23, he']
    have hne : l ≠ m := fun e => he (by rw [e])
    refine hR _ _ _ (.inr rfl) ⟨.bool (decide (l = m)), by simp [resultV, resV, Tryz.f115, go_sem, hne], snap_dat rfl rfl⟩
theorem call115b (l m : List T) (hl : smallT l) (hm : smallT m) (h : H) : callV C h (.func 115 []) (some [terms l, terms m, .func 62 []]) = some (.bool (decide (l = m)), h) := callV_strip (by kernel_rfl) rfl rfl (by simp [short_terms, short_func]) (by simp) (eqf115b l m hl hm)
def sameFa (a b : Fa) : Bool := decide (a.kind = b.kind) && decide (a.goal = b.goal) && decide (a.terms = b.terms)
def fcmp (a b : Fa) : Int := thn (sgn a.kind b.kind) (thn (sgn a.goal b.goal) (thn (sgn a.terms.length b.terms.length) (cmps a.terms b.terms)))
theorem fcmp_zero (a b : Fa) : fcmp a b = 0 ↔ sameFa a b = true := by
  simp only [fcmp, thn_zero, sgn_zero, cmps_zero, sameFa, Bool.and_eq_true, decide_eq_true_eq]
  constructor
  · rintro ⟨a, b, _, d⟩; exact ⟨⟨a, b⟩, d⟩
  · rintro ⟨⟨a, b⟩, d⟩; exact ⟨a, b, by rw [d], d⟩
set_option maxRecDepth 8000 in
set_option maxHeartbeats 4000000 in
theorem same64 (a b : Fa) (ha : smallT a.terms) (hb : smallT b.terms) : CallP C 64 [encFa a, encFa b] = some (.bool (sameFa a b)) := by
  refine CallP_W rfl Tryz.func64 rfl (by kernel_rfl) (by simp [Tryz.f64]) fun R hR => ?_
  have fin : ∀ (st : PT) (h : H) (e : Bool), st.get 4 = .bool e → sameFa a b = e → R .ret st h := fun st h e h2 he => hR _ _ _ (.inr rfl) ⟨.bool e, by simp [resultV, resV, Tryz.f64, h2], by rw [he]; exact snap_dat rfl rfl⟩
  obtain ⟨h0, eh0⟩ : ∃ g : H, g = [.cells (faC a) .live, .cells (faC b) .live] := ⟨_, rfl⟩
  have m0 : h0[0]? = some (.cells (faC a) .live) := by rw [eh0]; rfl
  have m1 : h0[1]? = some (.cells (faC b) .live) := by rw [eh0]; rfl
  have c1 := call115b a.terms b.terms ha hb
  have k0 := ld3f0 m0
  have k1 := ld3f1 m0
  have k2 := ld23f m0
  have j0 := ld3f0 m1
  have j1 := ld3f1 m1
  have j2 := ld23f m1
  by_cases q1 : a.kind = b.kind
  · by_cases q2 : a.goal = b.goal
    · simp [go_sem, box35]
      rw [← eh0]
      simp [go_sem, k0, k1, k2, j0, j1, j2, q1, q2, c1]
      exact fin _ _ (decide (a.terms = b.terms)) (by simp [go_sem]) (by simp [sameFa, q1, q2])
    · simp [go_sem, box35]
      rw [← eh0]
      simp [go_sem, k0, k1, j0, j1, q1, q2]
      exact fin _ _ false (by simp [go_sem]) (by simp [sameFa, q2])
  · simp [go_sem, box35]
    rw [← eh0]
    simp [go_sem, k0, j0, q1]
    exact fin _ _ false (by simp [go_sem]) (by simp [sameFa, q1])
theorem call64 (a b : Fa) (ha : smallT a.terms) (hb : smallT b.terms) (h : H) : callV C h (.func 64 []) (some [encFa a, encFa b]) = some (.bool (sameFa a b), h) := callV_strip (by kernel_rfl) rfl (args' := [encFa a, encFa b]) rfl rfl (by simp) (same64 a b ha hb)
def NI72 (a b : Fa) (n : Nat) (st : PT) (h : H) : Prop := ∃ k : Nat, n = a.terms.length - k ∧ k ≤ a.terms.length ∧ h[0]? = some (.cells (faC a) .live) ∧ h[1]? = some (.cells (faC b) .live) ∧ st.get 2 = .ptr 0 0 ∧ st.get 3 = .ptr 1 0 ∧ st.get 8 = .int .i64 k ∧ cmps a.terms b.terms = cmps (a.terms.drop k) (b.terms.drop k)
set_option maxRecDepth 8000 in
set_option maxHeartbeats 4000000 in
theorem facts72 (a b : Fa) (ha : smallT a.terms) (hb : smallT b.terms) : CallP C 72 [encFa a, encFa b] = some (.int .i64 (fcmp a b)) := by
  refine CallP_W rfl Tryz.func72 rfl (by kernel_rfl) (by simp [Tryz.f72]) fun R hR => ?_
  have fin : ∀ (st : PT) (h : H) (e : Int), st.get 4 = .int .i64 e → fcmp a b = e → R .ret st h := fun st h e h2 he => hR _ _ _ (.inr rfl) ⟨.int .i64 e, by simp [resultV, resV, Tryz.f72, h2], by rw [he]; exact snap_dat rfl rfl⟩
  obtain ⟨h0, eh0⟩ : ∃ g : H, g = [.cells (faC a) .live, .cells (faC b) .live] := ⟨_, rfl⟩
  have m0 : h0[0]? = some (.cells (faC a) .live) := by rw [eh0]; rfl
  have m1 : h0[1]? = some (.cells (faC b) .live) := by rw [eh0]; rfl
  have k0 := ld3f0 m0
  have k1 := ld3f1 m0
  have k2 := ld23f m0
  have j0 := ld3f0 m1
  have j1 := ld3f1 m1
  have j2 := ld23f m1
  have lna := len23t a.terms
  have lnb := len23t b.terms
  simp [go_sem, box35]
  rw [← eh0]
  by_cases q1 : sgn a.kind b.kind = 0
  rotate_left
  · simp [go_sem, k0, j0, call122, q1]
    exact fin _ _ (sgn a.kind b.kind) (by simp [go_sem]) (by rw [fcmp, thn, if_neg q1])
  by_cases q2 : sgn a.goal b.goal = 0
  rotate_left
  · simp [go_sem, k0, k1, j0, j1, call122, q1, q2]
    exact fin _ _ (sgn a.goal b.goal) (by simp [go_sem]) (by rw [fcmp, thn, if_pos q1, thn, if_neg q2])
  by_cases q3 : sgn a.terms.length b.terms.length = 0
  rotate_left
  · simp [go_sem, k0, k1, k2, j0, j1, j2, lna, lnb, call122, q1, q2, q3]
    exact fin _ _ (sgn a.terms.length b.terms.length) (by simp [go_sem]) (by rw [fcmp, thn, if_pos q1, thn, if_pos q2, thn, if_neg q3])
  have he : fcmp a b = cmps a.terms b.terms := by rw [fcmp, thn, if_pos q1, thn, if_pos q2, thn, if_pos q3]
  simp [go_sem, k0, k1, k2, j0, j1, j2, lna, lnb, call122, q1, q2, q3]
  have hlen : a.terms.length = b.terms.length := by have := sgn_zero.1 q3; omega
  refine W_loop (NI72 a b) a.terms.length ⟨0, rfl, Nat.zero_le _, m0, m1, by simp [go_sem], by simp [go_sem], by simp [go_sem], rfl⟩ ?_
  clear m0 m1 k0 k1 k2 j0 j1 j2 eh0 h0
  rintro n st h ⟨k, rfl, hk, m0, m1, g2, g3, g8, hd⟩
  have k2 := ld23f m0
  have j2 := ld23f m1
  by_cases hlt : k < a.terms.length
  · have hlt' : (k : Int) < a.terms.length := by omega
    have hlb : k < b.terms.length := by omega
    have ix1 := idx23t a.terms k hlt
    have ix2 := idx23t b.terms k hlb
    have w2 : IntKind.i64.wrap ((k : Int) + 1) = ((k + 1 : Nat) : Int) := by have := ha.1; rw [wrap_in (by omega)]; omega
    have c1 := call118 a.terms[k] b.terms[k] (ha.2 _ (List.getElem_mem hlt)) (hb.2 _ (List.getElem_mem hlb))
    rw [List.drop_eq_getElem_cons hlt, List.drop_eq_getElem_cons hlb, cmps] at hd
    by_cases hz : a.terms[k].cmp b.terms[k] = 0
    · rw [thn, if_pos hz] at hd
      simp [go_sem, g2, g3, g8, k2, j2, lna, hlt', ix1, ix2, ld25, c1, hz, -Int.natCast_add, w2]
      exact ⟨a.terms.length - (k + 1), by omega, k + 1, rfl, hlt, m0, m1, by simp [go_sem, g2], by simp [go_sem, g3], by simp [go_sem], hd⟩
    · rw [thn, if_neg hz] at hd
      simp [go_sem, g2, g3, g8, k2, j2, lna, hlt', ix1, ix2, ld25, c1, hz]
      exact fin _ _ (a.terms[k].cmp b.terms[k]) (by simp [go_sem]) (by rw [he, hd])
  · have : k = a.terms.length := by omega
    subst this
    rw [List.drop_length, hlen, List.drop_length, cmps] at hd
    simp [go_sem, g2, g8, k2, lna]
    exact fin _ _ 0 (by simp [go_sem]) (by rw [he, hd])
theorem call72 (a b : Fa) (ha : smallT a.terms) (hb : smallT b.terms) (h : H) : callV C h (.func 72 []) (some [encFa a, encFa b]) = some (.int .i64 (fcmp a b), h) := callV_strip (by kernel_rfl) rfl (args' := [encFa a, encFa b]) rfl rfl (by simp) (facts72 a b ha hb)
/-- The copies of rows. -/
theorem clone11 (a : Cl) (l : List Cl) (hl : (a :: l).length ≤ 10000) : CallP C 11 [clsV (a :: l)] = some (clsV (a :: l)) := by
  refine CallP_W rfl Tryz.func11 rfl (by kernel_rfl) (by simp [Tryz.f11]) fun R hR => ?_
  have e1 : binV C.P .eql 22 (.tmp 3) (.const (.slice none 0 0)) (clsV (a :: l)) (.isl [] .full) = some (.bool false) := by
    simp [binV, clsV, toVal, toScalar, nilCmpV, sureV, isNil, isSl, u22, eqSign]
  have e2 : ∀ h, buildSliceV C.P h 22 0 [] = some (.isl [] .full, h) := fun h => buildSlice_dats u22 s37 z37 rfl (by omega) rfl rfl rfl (by simp) rfl
  obtain ⟨v', h', ha, ho, _, _⟩ := append_own (h := [.tok 0 37]) (v := .isl [] .full) (xs := []) (ys := (a :: l).map encCl) (x := .unk) u22 s37 b37 z37 rfl (.inl rfl) rfl (szOk_cl (a :: l)) (by simp only [List.length_map, List.length_nil] at hl ⊢; omega)
  obtain ⟨x, rfl⟩ := ho.isl
  have ha' : appendW C.P false [.tok 0 37] 22 (.isl [] .full) (clsV (a :: l)) = some (.isl ([] ++ (a :: l).map encCl) x, h') := ha
  simp [go_sem, initS, e1, e2, ha']
  refine hR _ _ _ (.inr rfl) ⟨.isl ((a :: l).map encCl) x, by simp [resultV, resV, Tryz.f11, go_sem], snap_dat rfl rfl⟩
theorem call11 (l : List Cl) (hl : l.length ≤ 10000) : ∃ x, ∀ h, callV C h (.func 11 []) (some [clsV l]) = some (.isl (l.map encCl) x, h) := by
  cases l with
  | nil =>
    refine ⟨.unk, fun h => ?_⟩
    have hp : C.prim 11 [.isl [] .unk] [] = some (.isl [] .full, []) := by simp [C, Go.VZ.prim, primClone, cloneIds]
    have hq : Go.V.Call C 11 [.isl [] .unk] [] = some (.isl [] .full, []) := Call_prim (C := C) (fn := Tryz.f11) Tryz.func11 hp
    refine callV_strip (by kernel_rfl) rfl (args' := [.isl [] .unk]) rfl rfl (by simp) ?_
    unfold CallP
    rw [hq]; rfl
  | cons a l => exact ⟨.unk, fun h => callV_strip (by kernel_rfl) rfl (args' := [clsV (a :: l)]) rfl rfl (by simp) (clone11 a l hl)⟩
theorem clone18 (a : Inf) (l : List Inf) (hl : (a :: l).length ≤ 10000) : CallP C 18 [infs (a :: l)] = some (infs (a :: l)) := by
  refine CallP_W rfl Tryz.func18 rfl (by kernel_rfl) (by simp [Tryz.f18]) fun R hR => ?_
  have e1 : binV C.P .eql 42 (.tmp 3) (.const (.slice none 0 0)) (infs (a :: l)) (.isl [] .full) = some (.bool false) := by
    simp [binV, infs, toVal, toScalar, nilCmpV, sureV, isNil, isSl, u42, eqSign]
  have e2 : ∀ h, buildSliceV C.P h 42 0 [] = some (.isl [] .full, h) := fun h => buildSlice_dats u42 s49 z49 rfl (by omega) rfl rfl rfl (by simp) rfl
  obtain ⟨v', h', ha, ho, _, _⟩ := append_own (h := [.tok 0 49]) (v := .isl [] .full) (xs := []) (ys := (a :: l).map encI) (x := .unk) u42 s49 b49 z49 rfl (.inl rfl) rfl (szOk_inf (a :: l)) (by simp only [List.length_map, List.length_nil] at hl ⊢; omega)
  obtain ⟨x, rfl⟩ := ho.isl
  have ha' : appendW C.P false [.tok 0 49] 42 (.isl [] .full) (infs (a :: l)) = some (.isl ([] ++ (a :: l).map encI) x, h') := ha
  simp [go_sem, initS, e1, e2, ha']
  refine hR _ _ _ (.inr rfl) ⟨.isl ((a :: l).map encI) x, by simp [resultV, resV, Tryz.f18, go_sem], snap_dat rfl rfl⟩
theorem call18 (l : List Inf) (hl : l.length ≤ 10000) : ∃ x, ∀ h, callV C h (.func 18 []) (some [infs l]) = some (.isl (l.map encI) x, h) := by
  cases l with
  | nil =>
    refine ⟨.unk, fun h => ?_⟩
    have hp : C.prim 18 [.isl [] .unk] [] = some (.isl [] .full, []) := by simp [C, Go.VZ.prim, primClone, cloneIds]
    have hq : Go.V.Call C 18 [.isl [] .unk] [] = some (.isl [] .full, []) := Call_prim (C := C) (fn := Tryz.f18) Tryz.func18 hp
    refine callV_strip (by kernel_rfl) rfl (args' := [.isl [] .unk]) rfl rfl (by simp) ?_
    unfold CallP
    rw [hq]; rfl
  | cons a l => exact ⟨.unk, fun h => callV_strip (by kernel_rfl) rfl (args' := [infs (a :: l)]) rfl rfl (by simp) (clone18 a l hl)⟩
end Go.VZ
