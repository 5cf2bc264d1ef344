/- Possible, of the document: walked. -/
import Derived.Test.YtdoegkegjaadeaaGreatDoorEScc
namespace Go.VZ
open Go Go.V Go.Proofs TL
def poss (l : List Mo) (cl : List Int) : Nat → Nat → List Int → Bool × List Int
  | 0, _, ow => (true, ow)
  | m + 1, i, ow => if kindB l (cl.getD i 0) 5 = false then (false, ow) else
    if (asg (fitK l cl) l.length (l.length + 1) i ow (List.replicate l.length false)).1 = false then (false, ow)
    else poss l cl m (i + 1) (asg (fitK l cl) l.length (l.length + 1) i ow (List.replicate l.length false)).2.1
def possible (l : List Mo) (cl : List Int) : Bool × List Int := poss l cl cl.length 0 (List.replicate l.length (-1))
theorem b3 : bytesV C.P 3 = some 8 := by kernel_rfl
theorem b4 : bytesV C.P 4 = some 1 := by kernel_rfl
theorem z3 : zeroOk C.P 3 = true := by kernel_rfl
theorem z4 : zeroOk C.P 4 = true := by kernel_rfl
theorem zv4 : zeroV C.P 4 = some (.bool false) := by kernel_rfl
theorem flat_rep (n : Nat) (x : AV) : (List.replicate n [x]).flatten = List.replicate n x := by
  induction n with
  | zero => rfl
  | succ n ih => rw [List.replicate_succ, List.flatten_cons, ih]; rfl
theorem mk47 (h : H) (n : Nat) (h0 : 0 < n) (hn : n ≤ 1000000) : makeSliceV C.P false h 47 (.int .i64 n) (.int .i64 n) = some (.msl h.length 0 1 n (some n), h ++ [.cells (intC (List.replicate n 0)) .live]) := by
  have h1 : (n : Int) ≤ 1073741824 := by omega
  have h2 : ¬ n = 0 := by omega
  simp [makeSliceV, u47, s3, b3, zv3, z3, h1, h2, AV.cells, flat_rep, intC]
theorem mk100 (h : H) (n : Nat) (h0 : 0 < n) (hn : n ≤ 1000000) : makeSliceV C.P false h 100 (.int .i64 n) (.int .i64 n) = some (.msl h.length 0 1 n (some n), h ++ [.cells (boolC (List.replicate n false)) .live]) := by
  have h1 : (n : Int) ≤ 1073741824 := by omega
  have h2 : ¬ n = 0 := by omega
  simp [makeSliceV, u100, s4, b4, zv4, z4, h1, h2, AV.cells, flat_rep, boolC]
theorem lenO {o n : Nat} {c : Option Nat} : lenV C.P 47 (.msl o 0 1 n c) = some (.int .i64 n) := by simp [lenV, u47]
theorem len47 (l : List Int) (x : Ext) : lenV C.P 47 (.isl (l.map (AV.int .i64)) x) = some (.int .i64 l.length) := by simp [lenV, u47]
def NI47 (l : List Mo) (cl : List Int) (m : Nat) (st : PT) (h : H) : Prop := ∃ k : Nat, m = l.length - k ∧ k ≤ l.length ∧ h = [.cells (intC (List.replicate k (-1) ++ List.replicate (l.length - k) 0)) .live] ∧ st.get 0 = moments l ∧ st.get 1 = ints cl ∧ st.get 5 = .msl 0 0 1 l.length (some l.length) ∧ st.get 6 = .int .i64 k
def NJ47 (l : List Mo) (cl : List Int) (T : Bool × List Int) (m : Nat) (st : PT) (h : H) : Prop := ∃ (i : Nat) (ow : List Int), m = cl.length - i ∧ i ≤ cl.length ∧ h[0]? = some (.cells (intC ow) .live) ∧ ow.length = l.length ∧ (∀ x ∈ ow, x < cl.length) ∧ st.get 0 = moments l ∧ st.get 1 = ints cl ∧ st.get 5 = .msl 0 0 1 l.length (some l.length) ∧ st.get 7 = .int .i64 i ∧ poss l cl (cl.length - i) i ow = T
theorem rep_set {k n : Nat} (hk : k < n) : (List.replicate k (-1 : Int) ++ List.replicate (n - k) 0).set k (-1) = List.replicate (k + 1) (-1) ++ List.replicate (n - (k + 1)) 0 := by
  have e : n - k = (n - (k + 1)) + 1 := by omega
  rw [List.set_append_right _ _ (by simp), e, List.replicate_succ]
  simp [List.replicate_succ']
set_option maxRecDepth 8000 in
set_option maxHeartbeats 4000000 in
theorem possible47 (l : List Mo) (cl : List Int) (hs : smallM l) (hl : l.length < 1000000) (hc : cl.length < 1000000) (h0 : 0 < l.length) : CallP C 47 [moments l, ints cl] = some (.bool (possible l cl).1) := by
  refine CallP_W rfl Tryz.func47 rfl (by kernel_rfl) (by simp [Tryz.f47]) fun R hR => ?_
  have fin : ∀ (st : PT) (h : H) (b : Bool), st.get 4 = .bool b → b = (possible l cl).1 → R .ret st h := fun st h b h4 hb => hR _ _ _ (.inr rfl) ⟨.bool b, by simp [resultV, resV, Tryz.f47, h4], by rw [hb]; exact snap_dat rfl rfl⟩
  have k1 := mk47 [] l.length h0 (by omega)
  simp only [List.nil_append, List.length_nil] at k1
  simp [go_sem, initS, moments, len50, k1]
  refine W_loop (NI47 l cl) l.length ⟨0, rfl, Nat.zero_le _, by simp, by simp [go_sem, moments], by simp [go_sem], by simp [go_sem], by simp [go_sem]⟩ ?_
  rintro m st h ⟨k, rfl, hk, rfl, g0, g1, g5, g6⟩
  by_cases hlt : k < l.length
  · have hlt' : (k : Int) < l.length := by omega
    have w2 : IntKind.i64.wrap ((k : Int) + 1) = ((k + 1 : Nat) : Int) := by rw [wrap_in (by omega)]; omega
    have e1 := idxO (o := 0) (c := some l.length) hlt
    obtain ⟨hh, ehh⟩ : ∃ g : H, g = [.cells (intC (List.replicate k (-1) ++ List.replicate (l.length - k) 0)) .live] := ⟨_, rfl⟩
    have e2 := stO (h := hh) (o := 0) (k := k) (l := List.replicate k (-1) ++ List.replicate (l.length - k) 0) (-1) (by rw [ehh]; rfl) (by simp; omega)
    rw [rep_set hlt] at e2
    have e3 : hh.set 0 (.cells (intC (List.replicate (k + 1) (-1) ++ List.replicate (l.length - (k + 1)) 0)) .live) = [.cells (intC (List.replicate (k + 1) (-1) ++ List.replicate (l.length - (k + 1)) 0)) .live] := by rw [ehh]; rfl
    rw [e3] at e2
    rw [← ehh]
    simp [go_sem, g0, g1, g5, g6, lenO, hlt', e1, e2, -Int.natCast_add, w2]
    exact ⟨l.length - (k + 1), by omega, k + 1, rfl, hlt, rfl, by simp [go_sem, g0], by simp [go_sem, g1], by simp [go_sem, g5], by simp [go_sem]⟩
  have : k = l.length := by omega
  subst this
  simp [go_sem, g0, g1, g5, g6, lenO]
  refine W_loop (NJ47 l cl (possible l cl)) cl.length ⟨0, List.replicate l.length (-1), rfl, Nat.zero_le _, by simp, by simp, fun x hx => by rw [List.eq_of_mem_replicate hx]; omega, by simp [go_sem, g0], by simp [go_sem, g1], by simp [go_sem, g5], by simp [go_sem], rfl⟩ ?_
  clear g0 g1 g5 g6
  rintro m st h ⟨i, ow, rfl, hi, hat, hol, hlo, g0, g1, g5, g7, hT⟩
  simp only [ints] at g1
  by_cases hlt : i < cl.length
  · have hlt' : (i : Int) < cl.length := by omega
    have w2 : IntKind.i64.wrap ((i : Int) + 1) = ((i + 1 : Nat) : Int) := by rw [wrap_in (by omega)]; omega
    have e4 := idx47 cl i hlt .unk
    have c1 := call88 l cl[i] 5
    have eln : cl.length - i = (cl.length - (i + 1)) + 1 := by omega
    rw [eln, poss, getD_of hlt] at hT
    by_cases hkb : kindB l cl[i] 5 = false
    · rw [if_pos hkb] at hT
      simp +contextual [go_sem, g0, g1, g5, g7, len47, hlt', e4, ld3i, c1, hkb]
      exact fin _ _ false (by simp [go_sem]) (by rw [← hT])
    · have hkb' : kindB l cl[i] 5 = true := by simpa using hkb
      rw [if_neg hkb] at hT
      have k2 := mk100 h l.length h0 (by omega)
      have h0l := (List.getElem?_eq_some_iff.1 hat).1
      obtain ⟨hz, ehz⟩ : ∃ g, g = h ++ [.cells (boolC (List.replicate l.length false)) .live] := ⟨_, rfl⟩
      have hat2 : At hz 0 h.length ow (List.replicate l.length false) := by
        rw [ehz]; exact ⟨by rw [List.getElem?_append_left h0l]; exact hat, by simp⟩
      rw [← ehz] at k2
      have g : Good l.length cl.length ow (List.replicate l.length false) := ⟨hol, by simp, hlo⟩
      have hcn : cnt (List.replicate l.length false) < l.length + 1 := by simp [cnt]
      obtain ⟨r, h3, cc, rfl, hat3, _⟩ := srch_all l cl (some l.length) hs (by omega) (l.length + 1) i ow (List.replicate l.length false) hz 0 h.length (by omega) hlt g hcn hat2
      have hlaw := asg_law (n := l.length) (c := cl.length) (fitK l cl) (l.length + 1) i ow (List.replicate l.length false) hlt g hcn
      have cv := (callV_open (f := 89) (by kernel_rfl) rfl).trans cc
      simp only [moments, ints] at cv g0 c1
      generalize asg (fitK l cl) l.length (l.length + 1) i ow (List.replicate l.length false) = rr at hT cv hlaw hat3
      obtain ⟨b, ow2, se2⟩ := rr
      cases b with
      | false =>
        simp only [if_true] at hT
        simp +contextual [go_sem, g0, g1, g5, g7, len47, len50, hlt', e4, ld3i, c1, hkb', k2, cv]
        exact fin _ _ false (by simp [go_sem]) (by rw [← hT])
      | true =>
        simp only [Bool.true_eq_false, if_false] at hT
        simp +contextual [go_sem, g0, g1, g5, g7, len47, len50, hlt', e4, ld3i, c1, hkb', k2, cv, -Int.natCast_add, w2]
        exact ⟨cl.length - (i + 1), by omega, i + 1, ow2, rfl, hlt, hat3.1, hlaw.1.ol, hlaw.1.lo, by simp [go_sem, g0, moments], by simp [go_sem, g1, ints], by simp [go_sem, g5], by simp [go_sem], hT⟩
  · have : i = cl.length := by omega
    subst this
    rw [Nat.sub_self, poss] at hT
    simp [go_sem, g0, g1, g5, g7, len47]
    exact fin _ _ true (by simp [go_sem]) (by rw [← hT])
end Go.VZ

/- Kuhn's search in the program: walked. -/
namespace Go.VZ
open Go Go.V Go.Proofs TL
theorem fa136_0 (i : Nat) : fieldAddrV C.P 136 (.ptr i 0) 0 = some (.ptr i 0) := by kernel_rfl
theorem fa136_1 (i : Nat) : fieldAddrV C.P 136 (.ptr i 0) 1 = some (.ptr i 1) := by kernel_rfl
theorem fa136_2 (i : Nat) : fieldAddrV C.P 136 (.ptr i 0) 2 = some (.ptr i 2) := by kernel_rfl
attribute [go_sem] fa136_0 fa136_1 fa136_2
theorem s47 : sizeV C.P 47 = some 1 := by kernel_rfl
theorem a47 : isAggB C.P 47 = some false := by kernel_rfl
theorem ldP {h : H} {p o n : Nat} {l : List Mo} {cl : List Int} {cq : Option Nat} (hp : h[p]? = some (.cells [moments l, ints cl, .msl o 0 1 n cq] .live)) : loadV C.P h 50 (.ptr p 0) = some (moments l) ∧ loadV C.P h 47 (.ptr p 1) = some (ints cl) ∧ loadV C.P h 47 (.ptr p 2) = some (.msl o 0 1 n cq) := by
  refine ⟨?_, ?_, ?_⟩
  · simp [loadV, hp, cellsAt, a50, s50, moments, notTuple]
  · simp [loadV, hp, cellsAt, a47, s47, ints, notTuple]
  · simp [loadV, hp, cellsAt, a47, s47, notTuple]
theorem len50' (l : List Mo) : lenV C.P 50 (moments l) = some (.int .i64 l.length) := by rw [moments, len50]; simp
theorem idx47' (l : List Int) (k : Nat) (hk : k < l.length) : indexAddrV C.P 47 (ints l) (.int .i64 k) = some (.iptr (.int .i64 l[k]) 0) := idx47 l k hk .unk
def Srcp (l : List Mo) (cl : List Int) (cp cq : Option Nat) (f : Nat) : Prop := ∀ (i : Nat) (ow : List Int) (se : List Bool) (h : H) (p o s : Nat), o ≠ s → p ≠ o → p ≠ s → h[p]? = some (.cells [moments l, ints cl, .msl o 0 1 l.length cq] .live) → i < cl.length → Good l.length cl.length ow se → cnt se < f → At h o s ow se →
  ∃ r h', Go.V.Call C 85 [.ptr p 0, .int .i64 i, .msl s 0 1 l.length cp] h = some (r, h') ∧ r = .bool (asg (fitK l cl) l.length f i ow se).1 ∧ At h' o s (asg (fitK l cl) l.length f i ow se).2.1 (asg (fitK l cl) l.length f i ow se).2.2 ∧ Else h h' o s
def NI85 (l : List Mo) (cl : List Int) (cp cq : Option Nat) (f i : Nat) (T : RS) (h0 : H) (p o s : Nat) (m : Nat) (st : PT) (h : H) : Prop := ∃ (k : Nat) (ow : List Int) (se : List Bool), m = l.length - k ∧ k ≤ l.length ∧ At h o s ow se ∧ Else h0 h o s ∧ Good l.length cl.length ow se ∧ cnt se ≤ f ∧
  st.get 0 = .ptr p 0 ∧ st.get 1 = .int .i64 i ∧ st.get 2 = .msl s 0 1 l.length cp ∧ st.get 11 = moments l ∧ st.get 12 = .int .i64 l.length ∧ st.get 13 = .int .i64 k ∧ asgK (asg (fitK l cl) l.length f) (fitK l cl i) i (l.length - k) k ow se = T
set_option maxRecDepth 8000 in
set_option maxHeartbeats 4000000 in
theorem srcp_step (l : List Mo) (cl : List Int) (cp cq : Option Nat) (hs : smallM l) (hl : l.length < 4000000) (f : Nat) (ih : Srcp l cl cp cq f) : Srcp l cl cp cq (f + 1) := by
  intro i ow se h p o s hos hpo hps hp hi g hc hat
  obtain ⟨T, hT⟩ : ∃ T, T = asg (fitK l cl) l.length (f + 1) i ow se := ⟨_, rfl⟩
  rw [← hT]
  refine Call_WQ (Q := fun r h' => r = .bool T.1 ∧ At h' o s T.2.1 T.2.2 ∧ Else h h' o s) rfl Tryz.func85 rfl (by kernel_rfl) (by simp [Tryz.f85]) fun R hR => ?_
  rw [asg] at hT
  obtain ⟨lp0, _, _⟩ := ldP hp
  simp [go_sem, initS, lp0, len50']
  refine W_loop (NI85 l cl cp cq f i T h p o s) l.length ⟨0, ow, se, rfl, Nat.zero_le _, hat, .refl _ _ _, g, by omega, by simp [go_sem], by simp [go_sem], by simp [go_sem], by simp [go_sem], by simp [go_sem], by simp [go_sem], hT.symm⟩ ?_
  clear hT g hc hat ow se
  rintro m st h1 ⟨k, ow, se, rfl, hk, hat, hel, g, hc, g0, g1, g2, g11, g12, g13, hT⟩
  have hp1 : h1[p]? = some (.cells [moments l, ints cl, .msl o 0 1 l.length cq] .live) := (hel.2 p hpo hps).trans hp
  obtain ⟨p0, p1, p2⟩ := ldP hp1
  have fin : ∀ (st : PT) (h' : H) (b : Bool) (ow' : List Int) (se' : List Bool), st.get 6 = .bool b → T = (b, ow', se') → At h' o s ow' se' → Else h h' o s → R .ret st h' := fun st h' b ow' se' h10 ht ha he => by
    subst ht
    exact hR _ _ _ (.inr rfl) ⟨.bool b, by simp [resultV, resV, Tryz.f85, h10], rfl, ha, he⟩
  have hol := g.ol
  have hsl := g.sl
  by_cases hlt : k < l.length
  · have hlt' : (k : Int) < l.length := by omega
    have e1 := fun (c : Option Nat) => idxS (o := s) (c := c) hlt
    have e2 := fun (c : Option Nat) => idxO (o := o) (c := c) hlt
    have e3 := ldS hat.2 (k := k) (by omega)
    have e4 := idx47' cl i hi
    have c1 := call142 l hs k cl[i]
    have w2 : IntKind.i64.wrap ((k : Int) + 1) = ((k + 1 : Nat) : Int) := by rw [wrap_in (by omega)]; omega
    have eln : l.length - k = (l.length - (k + 1)) + 1 := by omega
    have hfk : fitK l cl i k = fitsM l k cl[i] := by simp [fitK, hi]
    rw [eln, asgK, getD_of (by omega : k < se.length), hfk] at hT
    by_cases hse : se[k] = true
    · rw [hse] at e3 hT
      simp only [Bool.true_or, if_true] at hT
      simp +contextual [go_sem, g0, g1, g2, g11, g12, g13, hlt', p0, p1, p2, e1, e2, e3, -Int.natCast_add, w2]
      exact ⟨l.length - (k + 1), by omega, k + 1, ow, se, rfl, hlt, hat, hel, g, hc, by simp [go_sem, g0], by simp [go_sem, g1], by simp [go_sem, g2], by simp [go_sem, g11], by simp [go_sem, g12], by simp [go_sem], hT⟩
    have hse' : se[k] = false := by simpa using hse
    rw [hse'] at e3 hT
    by_cases hf : fitsM l k cl[i] = true
    rotate_left
    · have hf' : fitsM l k cl[i] = false := by simpa using hf
      rw [hf'] at c1 hT
      simp only [Bool.not_false, Bool.or_true, if_true] at hT
      simp +contextual [go_sem, g0, g1, g2, g11, g12, g13, hlt', p0, p1, p2, e1, e2, e3, e4, ld3i, c1, -Int.natCast_add, w2]
      exact ⟨l.length - (k + 1), by omega, k + 1, ow, se, rfl, hlt, hat, hel, g, hc, by simp [go_sem, g0], by simp [go_sem, g1], by simp [go_sem, g2], by simp [go_sem, g11], by simp [go_sem, g12], by simp [go_sem], hT⟩
    rw [hf] at c1 hT
    simp only [Bool.not_true, Bool.or_false, Bool.false_eq_true, if_false] at hT
    rw [getD_of (by omega : k < ow.length)] at hT
    have e5 := stS true hat.2 (k := k) (by omega)
    have hat2 := hat.setS hos (se.set k true)
    have hcs := cnt_set (by omega : k < se.length) hse'
    have hel2 := hel.trans (Else.setS h1 o s (.cells (boolC (se.set k true)) .live))
    obtain ⟨h2, eh2⟩ : ∃ g, g = h1.set s (.cells (boolC (se.set k true)) .live) := ⟨_, rfl⟩
    rw [← eh2] at e5 hat2 hel2
    have hp2 : h2[p]? = some (.cells [moments l, ints cl, .msl o 0 1 l.length cq] .live) := (hel2.2 p hpo hps).trans hp
    obtain ⟨r0, r1, r2⟩ := ldP hp2
    have e6 := ldO hat2.1 (k := k) (by omega)
    by_cases hneg : ow[k] < 0
    · rw [if_pos hneg] at hT
      have e7 := stO (i : Int) hat2.1 (k := k) (by omega)
      simp +contextual [go_sem, g0, g1, g2, g11, g12, g13, hlt', p0, p1, p2, e1, e2, e3, e4, r0, r1, r2, e5, e6, e7, ld3i, c1, hneg]
      exact fin _ _ true _ _ (by simp [go_sem]) hT.symm (hat2.setO hos _) (hel2.trans (Else.setO _ _ _ _))
    · rw [if_neg hneg] at hT
      have hlo := g.lo _ (List.getElem_mem (by omega : k < ow.length))
      have hnat : ((ow[k].toNat : Nat) : Int) = ow[k] := by omega
      have hlaw := asg_law (n := l.length) (c := cl.length) (fitK l cl) f ow[k].toNat ow (se.set k true) (by omega) (g.set_se k) (by omega)
      obtain ⟨r, h3, cc, rfl, hat3, hel3⟩ := ih ow[k].toNat ow (se.set k true) h2 p o s hos hpo hps hp2 (by omega) (g.set_se k) (by omega) hat2
      rw [hnat] at cc
      have cv := (callV_open (f := 85) (by kernel_rfl) rfl).trans cc
      have hp3 : h3[p]? = some (.cells [moments l, ints cl, .msl o 0 1 l.length cq] .live) := (hel3.2 p hpo hps).trans hp2
      obtain ⟨v0, v1, v2⟩ := ldP hp3
      generalize asg (fitK l cl) l.length f ow[k].toNat ow (se.set k true) = rr at hT cv hlaw hat3
      obtain ⟨b, ow2, se2⟩ := rr
      obtain ⟨g3', hc3⟩ := hlaw
      cases b with
      | true =>
        simp only [if_true] at hT
        have e7 := stO (i : Int) hat3.1 (k := k) (by have : ow2.length = l.length := g3'.ol; show k < ow2.length; omega)
        simp +contextual [go_sem, g0, g1, g2, g11, g12, g13, hlt', p0, p1, p2, e1, e2, e3, e4, r0, r1, r2, e5, e6, e7, v0, v1, v2, ld3i, c1, hneg, cv]
        exact fin _ _ true _ _ (by simp [go_sem]) hT.symm (hat3.setO hos _) ((hel2.trans hel3).trans (Else.setO _ _ _ _))
      | false =>
        simp only [Bool.false_eq_true, if_false] at hT
        simp +contextual [go_sem, g0, g1, g2, g11, g12, g13, hlt', p0, p1, p2, e1, e2, e3, e4, r0, r1, r2, e5, e6, v0, v1, v2, ld3i, c1, hneg, cv, -Int.natCast_add, w2]
        exact ⟨l.length - (k + 1), by omega, k + 1, ow2, se2, rfl, hlt, hat3, hel2.trans hel3, g3', by have : cnt se2 ≤ cnt (se.set k true) := hc3; omega, by simp [go_sem, g0], by simp [go_sem, g1], by simp [go_sem, g2], by simp [go_sem, g11], by simp [go_sem, g12], by simp [go_sem], hT⟩
  · have : k = l.length := by omega
    subst this
    rw [Nat.sub_self, asgK] at hT
    simp [go_sem, g0, g1, g2, g11, g12, g13]
    exact fin _ _ false ow se (by simp [go_sem]) hT.symm hat hel
theorem srcp_all (l : List Mo) (cl : List Int) (cp cq : Option Nat) (hs : smallM l) (hl : l.length < 4000000) : ∀ f, Srcp l cl cp cq f
  | 0 => fun _ _ _ _ _ _ _ _ _ _ _ _ _ h _ => by omega
  | f + 1 => srcp_step l cl cp cq hs hl f (srcp_all l cl cp cq hs hl f)
end Go.VZ
