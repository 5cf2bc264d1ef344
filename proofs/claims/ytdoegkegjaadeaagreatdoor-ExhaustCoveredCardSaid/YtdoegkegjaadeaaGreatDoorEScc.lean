/- Equality of goals, and fits, both ways. -/
import Derived.Test.YtdoegkegjaadeaaGreatDoorEScb
namespace Go.VZ
open Go Go.V Go.Proofs TL
def smallT (l : List T) : Prop := l.length < 4000000 ∧ ∀ t ∈ l, t.size < 4000000
theorem equal260 (a b : T) (h1 : a.size < 4000000) (h3 : b.size < 4000000) : CallP C 260 [enc a, enc b] = some (.bool (decide (a.cmp b = 0))) := by
  refine CallP_W rfl Tryz.func260 rfl (by kernel_rfl) (by simp [Tryz.f260]) fun R hR => ?_
  have c1 := call112 a b h1 h3
  simp [go_sem, initS, enc_cells, terms, ld25c, ld25d, c1]
  refine hR _ _ _ (.inr rfl) ⟨.bool (decide (a.cmp b = 0)), by simp [resultV, resV, Tryz.f260, go_sem], snap_dat rfl rfl⟩
theorem call260 (a b : T) (h1 : a.size < 4000000) (h3 : b.size < 4000000) (h : H) : callV C h (.func 260 []) (some [enc a, enc b]) = some (.bool (decide (a.cmp b = 0)), h) := callV_strip (by kernel_rfl) rfl (dat_enc2 _ _) (by simp [short_enc]) (by simp) (equal260 a b h1 h3)
def NI115 (l m : List T) (n : Nat) (s : PT) (h : H) : Prop := ∃ k : Nat, n = l.length - k ∧ k ≤ l.length ∧ s.get 1 = terms m ∧ s.get 2 = .func 260 [] ∧ s.get 15 = terms l ∧ s.get 16 = .int .i64 l.length ∧ s.get 17 = .int .i64 k ∧ (l.drop k = m.drop k ↔ l = m)
set_option maxRecDepth 8000 in
set_option maxHeartbeats 2000000 in
theorem eqf115 (l m : List T) (hl : smallT l) (hm : smallT m) : CallP C 115 [terms l, terms m, .func 260 []] = some (.bool (decide (l = m))) := by
  refine CallP_W rfl Tryz.func115 rfl (by kernel_rfl) (by simp [Tryz.f115]) fun R hR => ?_
  by_cases he : l.length = m.length
  · have he' : (l.length : Int) = m.length := by omega
    simp [go_sem, initS, terms, len23, he']
    refine W_loop (NI115 l m) l.length ⟨0, rfl, Nat.zero_le _, by simp [go_sem, terms], by simp [go_sem], by simp [go_sem, terms], by simp [go_sem, he'], by simp [go_sem], by simp⟩ ?_
    rintro n s h ⟨k, rfl, hk, g1, g2, g15, g16, g17, hd⟩
    have hln := hl.1
    simp only [terms] at g1 g15
    by_cases hlt : k < l.length
    · have hlt' : (k : Int) < l.length := by omega
      have hltb : k < m.length := by omega
      have hix := idx23 l k hlt .unk
      have hiy := idx23 m k hltb .unk
      have ck := call260 l[k] m[k] (hl.2 _ (List.getElem_mem hlt)) (hm.2 _ (List.getElem_mem hltb))
      have w2 : IntKind.i64.wrap ((k : Int) + 1) = ((k + 1 : Nat) : Int) := by rw [wrap_in (by omega)]; omega
      rw [List.drop_eq_getElem_cons hlt, List.drop_eq_getElem_cons hltb, List.cons.injEq] at hd
      obtain ⟨h2, eh2⟩ : ∃ g, g = h ++ [.cells (enc l[k]).cells .live] := ⟨_, rfl⟩
      have e4 := st25z l[k] h
      rw [← eh2] at e4
      have e5 := st25z m[k] h2
      have e6 := ldb25z m[k] h2
      have e7 : loadV C.P (h2 ++ [.cells (enc m[k]).cells .live]) 25 (.ptr h.length 0) = some (enc l[k]) := by
        have q := ldb25z l[k] h
        rw [← eh2] at q
        have hlen : h.length < h2.length := by rw [eh2]; simp
        simp only [loadV] at q ⊢
        rw [List.getElem?_append_left hlen]; exact q
      by_cases hz : l[k].cmp m[k] = 0
      · simp [go_sem, g1, g2, g15, g16, g17, hlt', hix, hiy, ld25, e4, e5, e6, e7, ck, hz, -Int.natCast_add, w2]
        rw [cmp_zero] at hz
        exact ⟨l.length - (k + 1), by omega, k + 1, rfl, hlt, by simp [go_sem, g1, terms], by simp [go_sem, g2], by simp [go_sem, g15, terms], by simp [go_sem, g16], by simp [go_sem], by rw [← hd]; exact ⟨fun e => ⟨hz, e⟩, fun e => e.2⟩⟩
      · simp [go_sem, g1, g2, g15, g16, g17, hlt', hix, hiy, ld25, e4, e5, e6, e7, ck, hz]
        have hne : l ≠ m := fun e => hz (cmp_zero.mpr (hd.mpr e).1)
        refine hR _ _ _ (.inr rfl) ⟨.bool (decide (l = m)), by simp [resultV, resV, Tryz.f115, go_sem, hne], snap_dat rfl rfl⟩
    · have : k = l.length := by omega
      subst this
      rw [List.drop_length, he, List.drop_length] at hd
      have e := hd.mp rfl
      simp [go_sem, g1, g2, g15, g16, g17]
      refine hR _ _ _ (.inr rfl) ⟨.bool (decide (l = m)), by simp [resultV, resV, Tryz.f115, go_sem, e], snap_dat rfl rfl⟩
  · have he' : ¬ (l.length : Int) = m.length := by omega
    simp [go_sem, initS, terms, len23, he']
    have hne : l ≠ m := fun e => he (by rw [e])
    refine hR _ _ _ (.inr rfl) ⟨.bool (decide (l = m)), by simp [resultV, resV, Tryz.f115, go_sem, hne], snap_dat rfl rfl⟩
theorem call115 (l m : List T) (hl : smallT l) (hm : smallT m) (h : H) : callV C h (.func 115 []) (some [terms l, terms m, .func 260 []]) = some (.bool (decide (l = m)), h) := callV_strip (by kernel_rfl) rfl rfl (by simp [short_terms, short_func]) (by simp) (eqf115 l m hl hm)
theorem call110 (l m : List T) (hl : smallT l) (hm : smallT m) (h : H) : callV C h (.func 110 []) (some [terms l, terms m]) = some (.bool (decide (l = m)), h) := callV_strip (by kernel_rfl) rfl rfl (by simp [short_terms]) (by simp) (lists110 l m hl.2 hm.2 hl.1)
def eqM (a b : Mo) : Bool := decide (a.goal = b.goal) && decide (a.terms = b.terms)
theorem ldm4' (a b c d f : AV) (v : Int) (l : List VObj) : loadV C.P (.cells [a, b, c, d, .int .i64 v, f] .live :: l) 3 (.ptr 0 4) = some (.int .i64 v) := by simp [loadV, cellsAt, a3, s3]
theorem ldn4 (x : VObj) (a b c d f : AV) (v : Int) (l : List VObj) : loadV C.P (x :: .cells [a, b, c, d, .int .i64 v, f] .live :: l) 3 (.ptr 1 4) = some (.int .i64 v) := by simp [loadV, cellsAt, a3, s3]
theorem ldm5 (a b c d e : AV) (m : List T) (l : List VObj) : loadV C.P (.cells [a, b, c, d, e, terms m] .live :: l) 23 (.ptr 0 5) = some (terms m) := by simp [loadV, cellsAt, a23, s23, terms, notTuple]
theorem ldn5 (x : VObj) (a b c d e : AV) (m : List T) (l : List VObj) : loadV C.P (x :: .cells [a, b, c, d, e, terms m] .live :: l) 23 (.ptr 1 5) = some (terms m) := by simp [loadV, cellsAt, a23, s23, terms, notTuple]
theorem encM_cells (m : Mo) : (encM m).cells = [.int .i64 m.kind, .int .i64 m.number, .int .i64 m.role, .isl m.ag .unk, .int .i64 m.goal, terms m.terms] := rfl
theorem equal212 (a b : Mo) (ha : smallT a.terms) (hb : smallT b.terms) : CallP C 212 [encM a, encM b] = some (.bool (eqM a b)) := by
  refine CallP_W rfl Tryz.func212 rfl (by kernel_rfl) (by simp [Tryz.f212]) fun R hR => ?_
  have c1 := call115 a.terms b.terms ha hb
  by_cases hg : a.goal = b.goal
  · simp +contextual [go_sem, initS, box54, encM_cells, ldm4', ldn4, ldm5, ldn5, c1, hg]
    refine hR _ _ _ (.inr rfl) ⟨.bool (eqM a b), by simp [resultV, resV, Tryz.f212, go_sem, eqM, hg], snap_dat rfl rfl⟩
  · simp +contextual [go_sem, initS, box54, encM_cells, ldm4', ldn4, ldm5, ldn5, c1, hg]
    refine hR _ _ _ (.inr rfl) ⟨.bool (eqM a b), by simp [resultV, resV, Tryz.f212, go_sem, eqM, hg], snap_dat rfl rfl⟩
theorem equal214 (a b : Mo) (ha : smallT a.terms) (hb : smallT b.terms) : CallP C 214 [encM a, encM b] = some (.bool (eqM a b)) := by
  refine CallP_W rfl Tryz.func214 rfl (by kernel_rfl) (by simp [Tryz.f214]) fun R hR => ?_
  have c1 := call110 a.terms b.terms ha hb
  by_cases hg : a.goal = b.goal
  · simp +contextual [go_sem, initS, box54, encM_cells, ldm4', ldn4, ldm5, ldn5, c1, hg]
    refine hR _ _ _ (.inr rfl) ⟨.bool (eqM a b), by simp [resultV, resV, Tryz.f214, go_sem, eqM, hg], snap_dat rfl rfl⟩
  · simp +contextual [go_sem, initS, box54, encM_cells, ldm4', ldn4, ldm5, ldn5, c1, hg]
    refine hR _ _ _ (.inr rfl) ⟨.bool (eqM a b), by simp [resultV, resV, Tryz.f214, go_sem, eqM, hg], snap_dat rfl rfl⟩
theorem dat_M2 (a b : Mo) : dats [encM a, encM b] = some [encM a, encM b] := rfl
theorem short_M (a : Mo) : short (encM a) = true := rfl
theorem call212 (a b : Mo) (ha : smallT a.terms) (hb : smallT b.terms) (h : H) : callV C h (.func 212 []) (some [encM a, encM b]) = some (.bool (eqM a b), h) := callV_strip (by kernel_rfl) rfl (dat_M2 _ _) (by simp [short_M]) (by simp) (equal212 a b ha hb)
theorem call214 (a b : Mo) (ha : smallT a.terms) (hb : smallT b.terms) (h : H) : callV C h (.func 214 []) (some [encM a, encM b]) = some (.bool (eqM a b), h) := callV_strip (by kernel_rfl) rfl (dat_M2 _ _) (by simp [short_M]) (by simp) (equal214 a b ha hb)
def smallM (l : List Mo) : Prop := ∀ m ∈ l, smallT m.terms
/-- The moment at a place that is in range. -/
def atM (l : List Mo) (i : Int) : Mo := (l[i.toNat]?).getD ⟨0, 0, 0, [], 0, []⟩
def fitsM (l : List Mo) (i j : Int) : Bool := kindB l i 4 && kindB l j 5 && decide (i < j) && eqM (atM l i) (atM l j)
theorem kindB_range {l : List Mo} {i g : Int} (h : kindB l i g = true) : ∃ k : Nat, ∃ hk : k < l.length, i = k ∧ atM l i = l[k] := by
  unfold kindB at h
  split at h
  · rename_i hh
    exact ⟨i.toNat, by omega, by omega, by simp [atM, show i.toNat < l.length by omega]⟩
  · cases h
theorem fits142 (l : List Mo) (hs : smallM l) (i j : Int) : CallP C 142 [moments l, .int .i64 i, .int .i64 j] = some (.bool (fitsM l i j)) := by
  refine CallP_W rfl Tryz.func142 rfl (by kernel_rfl) (by simp [Tryz.f142]) fun R hR => ?_
  have c1 := call84 l i 4
  have c2 := call84 l j 5
  have fin : ∀ (s : PT) (h : H) (b : Bool), s.get 6 = .bool b → b = fitsM l i j → R .ret s h := fun s h b h6 hb => hR _ _ _ (.inr rfl) ⟨.bool b, by simp [resultV, resV, Tryz.f142, h6], by rw [hb]; exact snap_dat rfl rfl⟩
  by_cases k1 : kindB l i 4 = true
  · by_cases k2 : kindB l j 5 = true
    · by_cases k3 : i < j
      · obtain ⟨a, ha, rfl, ea⟩ := kindB_range k1
        obtain ⟨b, hb, rfl, eb⟩ := kindB_range k2
        have k3' : a < b := by omega
        have hix : indexAddrV C.P 50 (moments l) (.int .i64 a) = some (.iptr (encM l[a]) 0) := idx50 l a ha .unk
        have hiy : indexAddrV C.P 50 (moments l) (.int .i64 b) = some (.iptr (encM l[b]) 0) := idx50 l b hb .unk
        have c3 := call212 l[a] l[b] (hs _ (List.getElem_mem ha)) (hs _ (List.getElem_mem hb))
        simp +contextual [go_sem, initS, c1, c2, k1, k2, k3', hix, hiy, ld54, c3]
        exact fin _ _ _ (by simp [go_sem]; rfl) (by simp [fitsM, k1, k2, k3', ea, eb])
      · simp +contextual [go_sem, initS, c1, c2, k1, k2, k3]
        exact fin _ _ _ (by simp [go_sem]; rfl) (by simp [fitsM, k1, k2, k3])
    · have k2' : kindB l j 5 = false := by simpa using k2
      simp +contextual [go_sem, initS, c1, c2, k1, k2']
      exact fin _ _ _ (by simp [go_sem]; rfl) (by simp [fitsM, k1, k2'])
  · have k1' : kindB l i 4 = false := by simpa using k1
    simp +contextual [go_sem, initS, c1, c2, k1']
    exact fin _ _ _ (by simp [go_sem]; rfl) (by simp [fitsM, k1'])
theorem call142 (l : List Mo) (hs : smallM l) (i j : Int) (h : H) : callV C h (.func 142 []) (some [moments l, .int .i64 i, .int .i64 j]) = some (.bool (fitsM l i j), h) := callV_strip (by kernel_rfl) rfl (dat_mo _ _ _) (by simp [short_mo, short_int]) (by simp) (fits142 l hs i j)
theorem fits147 (l : List Mo) (hs : smallM l) (i j : Int) : CallP C 147 [moments l, .int .i64 i, .int .i64 j] = some (.bool (fitsM l i j)) := by
  refine CallP_W rfl Tryz.func147 rfl (by kernel_rfl) (by simp [Tryz.f147]) fun R hR => ?_
  have c1 := call88 l i 4
  have c2 := call88 l j 5
  have fin : ∀ (s : PT) (h : H) (b : Bool), s.get 6 = .bool b → b = fitsM l i j → R .ret s h := fun s h b h6 hb => hR _ _ _ (.inr rfl) ⟨.bool b, by simp [resultV, resV, Tryz.f147, h6], by rw [hb]; exact snap_dat rfl rfl⟩
  by_cases k1 : kindB l i 4 = true
  · by_cases k2 : kindB l j 5 = true
    · by_cases k3 : i < j
      · obtain ⟨a, ha, rfl, ea⟩ := kindB_range k1
        obtain ⟨b, hb, rfl, eb⟩ := kindB_range k2
        have k3' : a < b := by omega
        have hix : indexAddrV C.P 50 (moments l) (.int .i64 a) = some (.iptr (encM l[a]) 0) := idx50 l a ha .unk
        have hiy : indexAddrV C.P 50 (moments l) (.int .i64 b) = some (.iptr (encM l[b]) 0) := idx50 l b hb .unk
        have c3 := call214 l[a] l[b] (hs _ (List.getElem_mem ha)) (hs _ (List.getElem_mem hb))
        simp +contextual [go_sem, initS, c1, c2, k1, k2, k3', hix, hiy, ld54, c3]
        exact fin _ _ _ (by simp [go_sem]; rfl) (by simp [fitsM, k1, k2, k3', ea, eb])
      · simp +contextual [go_sem, initS, c1, c2, k1, k2, k3]
        exact fin _ _ _ (by simp [go_sem]; rfl) (by simp [fitsM, k1, k2, k3])
    · have k2' : kindB l j 5 = false := by simpa using k2
      simp +contextual [go_sem, initS, c1, c2, k1, k2']
      exact fin _ _ _ (by simp [go_sem]; rfl) (by simp [fitsM, k1, k2'])
  · have k1' : kindB l i 4 = false := by simpa using k1
    simp +contextual [go_sem, initS, c1, c2, k1']
    exact fin _ _ _ (by simp [go_sem]; rfl) (by simp [fitsM, k1'])
theorem call147 (l : List Mo) (hs : smallM l) (i j : Int) (h : H) : callV C h (.func 147 []) (some [moments l, .int .i64 i, .int .i64 j]) = some (.bool (fitsM l i j), h) := callV_strip (by kernel_rfl) rfl (dat_mo _ _ _) (by simp [short_mo, short_int]) (by simp) (fits147 l hs i j)
end Go.VZ

/- Apply to a row of terms, the program's way. -/
namespace Go.VZ
open Go Go.V Go.Proofs TL
def applyAll (l : List (T × T)) : List T → List T × Int
  | [] => ([], 0)
  | t :: ts => if (applyR l t).2 ≠ 0 then ([], (applyR l t).2) else if (applyAll l ts).2 ≠ 0 then ([], (applyAll l ts).2) else ((applyR l t).1 :: (applyAll l ts).1, 0)
def resL (r : List T × Int) : AV := .tuple [terms r.1, .int .i64 r.2]
def NI44 (l : List (T × T)) (ts : List T) (n : Nat) (s : PT) (h : H) : Prop := ∃ k : Nat, ∃ done : List T, n = ts.length - k ∧ k ≤ ts.length ∧ done.length = k ∧ s.get 0 = binds l ∧ s.get 11 = terms ts ∧ s.get 12 = .int .i64 ts.length ∧ s.get 13 = .int .i64 k ∧ OwnR 25 h (s.get 6) (done.map enc) ∧
  applyAll l ts = (if (applyAll l (ts.drop k)).2 ≠ 0 then ([], (applyAll l (ts.drop k)).2) else (done ++ (applyAll l (ts.drop k)).1, 0))
theorem applyAll_err (l : List (T × T)) : ∀ ts, (applyAll l ts).2 ≠ 0 → applyAll l ts = ([], (applyAll l ts).2)
  | [], h => by simp [applyAll] at h
  | t :: ts, h => by
    rw [applyAll] at h ⊢
    split
    · rfl
    · split
      · rfl
      · rename_i h1 h2; rw [if_neg h1, if_neg h2] at h; exact absurd rfl h
theorem applyAll_ok (l : List (T × T)) : ∀ ts, (applyAll l ts).2 = 0 → applyAll l ts = ((applyAll l ts).1, 0) := fun ts h => by rw [← h]
theorem st25o {h : H} (a b c d : AV) (t : T) : storeV C.P (h ++ [.cells [a, b, c, d] .live]) 25 (.ptr h.length 0) (enc t) = some (h ++ [.cells (enc t).cells .live]) := by rw [st25 t _ _ _ _ h, enc_cells]
set_option maxRecDepth 8000 in
set_option maxHeartbeats 4000000 in
theorem apply44 (l : List (T × T)) (ts : List T) (hs : small l) (ht : smallT ts) : CallP C 44 [binds l, terms ts] = some (resL (applyAll l ts)) := by
  refine CallP_W rfl Tryz.func44 rfl (by kernel_rfl) (by simp [Tryz.f44]) fun R hR => ?_
  have htl := ht.1
  simp [go_sem, initS, terms, len23]
  refine W_loop (NI44 l ts) ts.length ⟨0, [], rfl, Nat.zero_le _, rfl, by simp [go_sem], by simp [go_sem, terms], by simp [go_sem], by simp [go_sem], .inr ⟨1, by simp [go_sem]⟩, ?_⟩ ?_
  · by_cases h : (applyAll l ts).2 = 0
    · simp [h]; exact applyAll_ok l ts h
    · simp [h]; exact applyAll_err l ts h
  rintro n s h ⟨k, done, rfl, hk, hdl, g0, g11, g12, g13, go, hd⟩
  simp only [terms] at g11
  by_cases hlt : k < ts.length
  · have hlt' : (k : Int) < ts.length := by omega
    have hix := idx23 ts k hlt .unk
    have ck := call83 l ts[k] hs (ht.2 _ (List.getElem_mem hlt))
    have w2 : IntKind.i64.wrap ((k : Int) + 1) = ((k + 1 : Nat) : Int) := by rw [wrap_in (by omega)]; omega
    rw [List.drop_eq_getElem_cons hlt, applyAll] at hd
    obtain ⟨h2, eh2⟩ : ∃ g, g = h ++ [.cells (enc ts[k]).cells .live] := ⟨_, rfl⟩
    have e4 := st25z ts[k] h
    have e5 := ldb25z ts[k] h
    rw [← eh2] at e4 e5
    obtain ⟨h3, eh3⟩ : ∃ g, g = h2 ++ [.cells (enc (applyR l ts[k]).1).cells .live] := ⟨_, rfl⟩
    have e6 := st25z (applyR l ts[k]).1 h2
    have e7 := ldb25z (applyR l ts[k]).1 h2
    rw [← eh3] at e6 e7
    obtain ⟨v6, ev6⟩ : ∃ v, v = s.get 6 := ⟨_, rfl⟩
    rw [← ev6] at go
    have go3 : OwnR 25 h3 v6 (done.map enc) := by
      rw [eh3, eh2, List.append_assoc]
      exact go.keep (Keep.append _ _ none) (by simp)
    obtain ⟨v', h4, ha, ho, hkp, hid⟩ := append23 (ys := [(applyR l ts[k]).1]) (x := .full) go3 (by simp only [hdl, List.length_cons, List.length_nil]; omega)
    simp only [List.map_cons, List.map_nil] at ha
    simp only [resV2] at ck
    by_cases hz : (applyR l ts[k]).2 = 0
    · simp [go_sem, g0, g11, g12, g13, ← ev6, hlt', hix, ld25, e4, e5, e6, e7, ck, hz, build23_1, ha, -Int.natCast_add, w2]
      refine ⟨ts.length - (k + 1), by omega, k + 1, done ++ [(applyR l ts[k]).1], rfl, hlt, by simp [hdl], by simp [go_sem, g0], by simp [go_sem, g11, terms], by simp [go_sem, g12], by simp [go_sem], by simpa [go_sem] using ho, ?_⟩
      rw [hd]
      by_cases hq : (applyAll l (ts.drop (k + 1))).2 = 0
      · simp [hz, hq]
      · simp [hz, hq]
    · simp [go_sem, g0, g11, g12, g13, ← ev6, hlt', hix, ld25, e4, e5, e6, e7, ck, hz]
      simp only [ne_eq, hz, not_false_eq_true, if_true] at hd
      refine hR _ _ _ (.inr rfl) ⟨.tuple [.isl [] (.tok h3.length), .int .i64 (applyR l ts[k]).2], ?_, ?_⟩
      · simp [resultV, resV, resVs, Tryz.f44, go_sem]
      · rw [hd]; exact snap_tuple rfl rfl (by simp)
  · have : k = ts.length := by omega
    subst this
    rw [List.drop_length, applyAll] at hd
    obtain ⟨x, hx⟩ := go.isl
    simp [go_sem, g0, g11, g12, g13, hx]
    refine hR _ _ _ (.inr rfl) ⟨.tuple [.isl (done.map enc) x, .int .i64 0], by simp [resultV, resV, resVs, Tryz.f44, go_sem], ?_⟩
    rw [hd]
    simp only [ne_eq, not_true_eq_false, if_false, List.append_nil]
    exact snap_tuple rfl rfl (by simp)
theorem dats_ap (l : List (T × T)) (ts : List T) : dats [binds l, terms ts] = some [binds l, terms ts] := rfl
theorem call44 (l : List (T × T)) (ts : List T) (hs : small l) (ht : smallT ts) (h : H) : callV C h (.func 44 []) (some [binds l, terms ts]) = some (resL (applyAll l ts), h) := callV_strip (by kernel_rfl) rfl (dats_ap _ _) (by simp [short_binds, short_terms]) (by simp) (apply44 l ts hs ht)
end Go.VZ

/- Kuhn's search for a place: the plain form, and its laws. -/
namespace Go.VZ
open Go Go.V Go.Proofs TL
abbrev RS := Bool × List Int × List Bool
def asgK (rec : Nat → List Int → List Bool → RS) (fit : Nat → Bool) (i : Nat) : Nat → Nat → List Int → List Bool → RS
  | 0, _, ow, se => (false, ow, se)
  | m + 1, k, ow, se =>
    if se.getD k true || !fit k then asgK rec fit i m (k + 1) ow se
    else if ow.getD k (-1) < 0 then (true, ow.set k i, se.set k true)
    else if (rec (ow.getD k (-1)).toNat ow (se.set k true)).1 = true then (true, (rec (ow.getD k (-1)).toNat ow (se.set k true)).2.1.set k i, (rec (ow.getD k (-1)).toNat ow (se.set k true)).2.2)
    else asgK rec fit i m (k + 1) (rec (ow.getD k (-1)).toNat ow (se.set k true)).2.1 (rec (ow.getD k (-1)).toNat ow (se.set k true)).2.2
def asg (fit : Nat → Nat → Bool) (n : Nat) : Nat → Nat → List Int → List Bool → RS
  | 0, _, ow, se => (false, ow, se)
  | f + 1, i, ow, se => asgK (asg fit n f) (fit i) i n 0 ow se
structure Good (n c : Nat) (ow : List Int) (se : List Bool) : Prop where
  ol : ow.length = n
  sl : se.length = n
  lo : ∀ x ∈ ow, x < c
def cnt (se : List Bool) : Nat := se.count false
theorem cnt_set : ∀ {se : List Bool} {k : Nat} (hk : k < se.length), se[k] = false → cnt (se.set k true) + 1 = cnt se
  | b :: se, 0, _, h => by
    have h : b = false := h
    subst h; simp [cnt]
  | b :: se, k + 1, hk, h => by
    have := cnt_set (se := se) (k := k) (by simpa using hk) (by simpa using h)
    simp only [cnt] at this ⊢
    cases b <;> simp [List.count_cons] <;> omega
/-- What a search keeps. -/
def Keeps (n c : Nat) (r : RS) (se : List Bool) : Prop := Good n c r.2.1 r.2.2 ∧ cnt r.2.2 ≤ cnt se
theorem Good.set_ow {n c : Nat} {ow : List Int} {se : List Bool} (g : Good n c ow se) (k i : Nat) (hi : i < c) : Good n c (ow.set k i) se :=
  ⟨by simp [g.ol], g.sl, fun x hx => by
    rcases List.mem_or_eq_of_mem_set hx with h | h
    · exact g.lo x h
    · omega⟩
theorem Good.set_se {n c : Nat} {ow : List Int} {se : List Bool} (g : Good n c ow se) (k : Nat) : Good n c ow (se.set k true) := ⟨g.ol, by simp [g.sl], g.lo⟩
theorem getD_of {α : Type} {l : List α} {k : Nat} {d : α} (hk : k < l.length) : l.getD k d = l[k] := by simp [List.getD, hk]
theorem asgK_law {n c : Nat} {rec : Nat → List Int → List Bool → RS} {fit : Nat → Bool} {i N : Nat} (hi : i < c) (hr : ∀ j ow se, j < c → Good n c ow se → cnt se < N → Keeps n c (rec j ow se) se) : ∀ (m k : Nat) (ow : List Int) (se : List Bool), m + k = n → Good n c ow se → cnt se ≤ N → Keeps n c (asgK rec fit i m k ow se) se
  | 0, k, ow, se, _, g, _ => ⟨g, Nat.le_refl _⟩
  | m + 1, k, ow, se, hm, g, hc => by
    have hk : k < n := by omega
    have ho := g.ol
    have hs := g.sl
    rw [asgK]
    split
    · exact asgK_law hi hr m (k + 1) ow se (by omega) g hc
    · rename_i hf
      rw [getD_of (by omega : k < se.length)] at hf
      have hsk : se[k]'(by omega) = false := by
        cases h : se[k]'(by omega)
        · rfl
        · simp [h] at hf
      have hcs := cnt_set (by omega : k < se.length) hsk
      split
      · exact ⟨(g.set_se k).set_ow k i hi, by show cnt (se.set k true) ≤ _; omega⟩
      · rename_i hneg
        rw [getD_of (by omega : k < ow.length)] at hneg ⊢
        have hlo := g.lo _ (List.getElem_mem (by omega : k < ow.length))
        have kr := hr (ow[k]'(by omega)).toNat ow (se.set k true) (by omega) (g.set_se k) (by omega)
        split
        · exact ⟨kr.1.set_ow k i hi, Nat.le_trans kr.2 (by omega)⟩
        · have := asgK_law (fit := fit) hi hr m (k + 1) _ _ (by omega) kr.1 (by have := kr.2; omega)
          exact ⟨this.1, by have := this.2; have := kr.2; omega⟩
theorem asg_law {n c : Nat} (fit : Nat → Nat → Bool) : ∀ (f j : Nat) (ow : List Int) (se : List Bool), j < c → Good n c ow se → cnt se < f → Keeps n c (asg fit n f j ow se) se
  | 0, _, _, _, _, _, h => by omega
  | f + 1, j, ow, se, hj, g, h => by
    rw [asg]
    exact asgK_law (N := f) hj (fun j' ow' se' h1 h2 h3 => asg_law fit f j' ow' se' h1 h2 h3) n 0 ow se (by omega) g (by omega)
end Go.VZ

/- Kuhn's search in the document: walked. -/
namespace Go.VZ
open Go Go.V Go.Proofs TL
def ints (l : List Int) : AV := .isl (l.map (AV.int .i64)) .unk
theorem u47 : C.P.underlying 47 = some (.slice 3) := Tryz.underlying47
theorem u100 : C.P.underlying 100 = some (.slice 4) := Tryz.underlying100
theorem s4 : sizeV C.P 4 = some 1 := by kernel_rfl
theorem a4 : isAggB C.P 4 = some false := by kernel_rfl
attribute [go_sem] u47 u100 s4 a4
theorem idx47 (l : List Int) (k : Nat) (hk : k < l.length) (x : Ext) : indexAddrV C.P 47 (.isl (l.map (AV.int .i64)) x) (.int .i64 k) = some (.iptr (.int .i64 l[k]) 0) := by
  simp [indexAddrV, u47, s3, hk, AV.cells]
theorem ld3i (v : Int) (h : H) : loadV C.P h 3 (.iptr (.int .i64 v) 0) = some (.int .i64 v) := by simp [loadV, cellsAt, a3, s3, AV.cells]
theorem idxO {o n k : Nat} {c : Option Nat} (hk : k < n) : indexAddrV C.P 47 (.msl o 0 1 n c) (.int .i64 k) = some (.ptr o k) := by simp [indexAddrV, u47, s3, hk]
theorem idxS {o n k : Nat} {c : Option Nat} (hk : k < n) : indexAddrV C.P 100 (.msl o 0 1 n c) (.int .i64 k) = some (.ptr o k) := by simp [indexAddrV, u100, s4, hk]
def intC (l : List Int) : List AV := l.map (AV.int .i64)
def boolC (l : List Bool) : List AV := l.map AV.bool
theorem ldO {h : H} {o k : Nat} {l : List Int} (ho : h[o]? = some (.cells (intC l) .live)) (hk : k < l.length) : loadV C.P h 3 (.ptr o k) = some (.int .i64 l[k]) := by
  simp [loadV, ho, cellsAt, a3, s3, intC, hk, notTuple]
theorem ldS {h : H} {o k : Nat} {l : List Bool} (ho : h[o]? = some (.cells (boolC l) .live)) (hk : k < l.length) : loadV C.P h 4 (.ptr o k) = some (.bool l[k]) := by
  simp [loadV, ho, cellsAt, a4, s4, boolC, hk, notTuple]
theorem stO {h : H} {o k : Nat} {l : List Int} (v : Int) (ho : h[o]? = some (.cells (intC l) .live)) (hk : k < l.length) : storeV C.P h 3 (.ptr o k) (.int .i64 v) = some (h.set o (.cells (intC (l.set k v)) .live)) := by
  have : k + 1 ≤ l.length := by omega
  simp only [storeV, ho, s3, intC, List.length_map]
  simp [this, List.set_eq_take_append_cons_drop, hk]
theorem stS {h : H} {o k : Nat} {l : List Bool} (v : Bool) (ho : h[o]? = some (.cells (boolC l) .live)) (hk : k < l.length) : storeV C.P h 4 (.ptr o k) (.bool v) = some (h.set o (.cells (boolC (l.set k v)) .live)) := by
  have : k + 1 ≤ l.length := by omega
  simp only [storeV, ho, s4, boolC, List.length_map]
  simp [this, List.set_eq_take_append_cons_drop, hk]
end Go.VZ

/- Kuhn's search in the document: walked. -/
namespace Go.VZ
open Go Go.V Go.Proofs TL
def At (h : H) (o s : Nat) (ow : List Int) (se : List Bool) : Prop := h[o]? = some (.cells (intC ow) .live) ∧ h[s]? = some (.cells (boolC se) .live)
def Else (h h' : H) (o s : Nat) : Prop := h'.length = h.length ∧ ∀ j, j ≠ o → j ≠ s → h'[j]? = h[j]?
theorem Else.refl (h : H) (o s : Nat) : Else h h o s := ⟨rfl, fun _ _ _ => rfl⟩
theorem Else.trans {h h1 h2 : H} {o s : Nat} (a : Else h h1 o s) (b : Else h1 h2 o s) : Else h h2 o s := ⟨b.1.trans a.1, fun j h1 h2 => (b.2 j h1 h2).trans (a.2 j h1 h2)⟩
theorem Else.setO (h : H) (o s : Nat) (x : VObj) : Else h (h.set o x) o s := ⟨by simp, fun j h1 _ => List.getElem?_set_ne (fun e => h1 e.symm)⟩
theorem Else.setS (h : H) (o s : Nat) (x : VObj) : Else h (h.set s x) o s := ⟨by simp, fun j _ h2 => List.getElem?_set_ne (fun e => h2 e.symm)⟩
theorem At.setO {h : H} {o s : Nat} {ow : List Int} {se : List Bool} (a : At h o s ow se) (hos : o ≠ s) (ow' : List Int) : At (h.set o (.cells (intC ow') .live)) o s ow' se :=
  ⟨List.getElem?_set_self (List.getElem?_eq_some_iff.1 a.1).1, by rw [List.getElem?_set_ne hos]; exact a.2⟩
theorem At.setS {h : H} {o s : Nat} {ow : List Int} {se : List Bool} (a : At h o s ow se) (hos : o ≠ s) (se' : List Bool) : At (h.set s (.cells (boolC se') .live)) o s ow se' :=
  ⟨by rw [List.getElem?_set_ne (fun e => hos e.symm)]; exact a.1, List.getElem?_set_self (List.getElem?_eq_some_iff.1 a.2).1⟩
def fitK (l : List Mo) (cl : List Int) (i k : Nat) : Bool := fitsM l k (cl.getD i 0)
def Srch (l : List Mo) (cl : List Int) (cp : Option Nat) (f : Nat) : Prop := ∀ (i : Nat) (ow : List Int) (se : List Bool) (h : H) (o s : Nat), o ≠ s → i < cl.length → Good l.length cl.length ow se → cnt se < f → At h o s ow se →
  ∃ r h', Go.V.Call C 89 [moments l, ints cl, .int .i64 i, .msl o 0 1 l.length cp, .msl s 0 1 l.length cp] h = some (r, h') ∧ r = .bool (asg (fitK l cl) l.length f i ow se).1 ∧ At h' o s (asg (fitK l cl) l.length f i ow se).2.1 (asg (fitK l cl) l.length f i ow se).2.2 ∧ Else h h' o s
def NI89 (l : List Mo) (cl : List Int) (cp : Option Nat) (f i : Nat) (T : RS) (h0 : H) (o s : Nat) (m : Nat) (st : PT) (h : H) : Prop := ∃ (k : Nat) (ow : List Int) (se : List Bool), m = l.length - k ∧ k ≤ l.length ∧ At h o s ow se ∧ Else h0 h o s ∧ Good l.length cl.length ow se ∧ cnt se ≤ f ∧
  st.get 0 = moments l ∧ st.get 1 = ints cl ∧ st.get 2 = .int .i64 i ∧ st.get 3 = .msl o 0 1 l.length cp ∧ st.get 4 = .msl s 0 1 l.length cp ∧ st.get 11 = .int .i64 k ∧ asgK (asg (fitK l cl) l.length f) (fitK l cl i) i (l.length - k) k ow se = T
set_option maxRecDepth 8000 in
set_option maxHeartbeats 4000000 in
theorem srch_step (l : List Mo) (cl : List Int) (cp : Option Nat) (hs : smallM l) (hl : l.length < 4000000) (f : Nat) (ih : Srch l cl cp f) : Srch l cl cp (f + 1) := by
  intro i ow se h o s hos hi g hc hat
  obtain ⟨T, hT⟩ : ∃ T, T = asg (fitK l cl) l.length (f + 1) i ow se := ⟨_, rfl⟩
  rw [← hT]
  refine Call_WQ (Q := fun r h' => r = .bool T.1 ∧ At h' o s T.2.1 T.2.2 ∧ Else h h' o s) rfl Tryz.func89 rfl (by kernel_rfl) (by simp [Tryz.f89]) fun R hR => ?_
  rw [asg] at hT
  simp [go_sem, initS]
  refine W_loop (NI89 l cl cp f i T h o s) l.length ⟨0, ow, se, rfl, Nat.zero_le _, hat, .refl _ _ _, g, by omega, by simp [go_sem], by simp [go_sem], by simp [go_sem], by simp [go_sem], by simp [go_sem], by simp [go_sem], hT.symm⟩ ?_
  clear hT g hc hat ow se
  rintro m st h1 ⟨k, ow, se, rfl, hk, hat, hel, g, hc, g0, g1, g2, g3, g4, g11, hT⟩
  have fin : ∀ (st : PT) (h' : H) (b : Bool) (ow' : List Int) (se' : List Bool), st.get 10 = .bool b → T = (b, ow', se') → At h' o s ow' se' → Else h h' o s → R .ret st h' := fun st h' b ow' se' h10 ht ha he => by
    subst ht
    exact hR _ _ _ (.inr rfl) ⟨.bool b, by simp [resultV, resV, Tryz.f89, h10], rfl, ha, he⟩
  have hol := g.ol
  have hsl := g.sl
  by_cases hlt : k < l.length
  · have hlt' : (k : Int) < l.length := by omega
    have e1 := fun (c : Option Nat) => idxS (o := s) (c := c) hlt
    have e2 := fun (c : Option Nat) => idxO (o := o) (c := c) hlt
    have e3 := ldS hat.2 (k := k) (by omega)
    have e4 := idx47 cl i hi .unk
    have c1 := call147 l hs k cl[i]
    have w2 : IntKind.i64.wrap ((k : Int) + 1) = ((k + 1 : Nat) : Int) := by rw [wrap_in (by omega)]; omega
    have eln : l.length - k = (l.length - (k + 1)) + 1 := by omega
    have hfk : fitK l cl i k = fitsM l k cl[i] := by simp [fitK, hi]
    rw [eln, asgK, getD_of (by omega : k < se.length), hfk] at hT
    simp only [moments, ints] at g0 g1 c1
    by_cases hse : se[k] = true
    · rw [hse] at e3 hT
      simp only [Bool.true_or, if_true] at hT
      simp +contextual [go_sem, g0, g1, g2, g3, g4, g11, len50, hlt', e1, e2, e3, -Int.natCast_add, w2]
      exact ⟨l.length - (k + 1), by omega, k + 1, ow, se, rfl, hlt, hat, hel, g, hc, by simp [go_sem, g0, moments], by simp [go_sem, g1, ints], by simp [go_sem, g2], by simp [go_sem, g3], by simp [go_sem, g4], by simp [go_sem], hT⟩
    have hse' : se[k] = false := by simpa using hse
    rw [hse'] at e3 hT
    by_cases hf : fitsM l k cl[i] = true
    rotate_left
    · have hf' : fitsM l k cl[i] = false := by simpa using hf
      rw [hf'] at c1 hT
      simp only [Bool.not_false, Bool.or_true, if_true] at hT
      simp +contextual [go_sem, g0, g1, g2, g3, g4, g11, len50, hlt', e1, e2, e3, e4, ld3i, c1, -Int.natCast_add, w2]
      exact ⟨l.length - (k + 1), by omega, k + 1, ow, se, rfl, hlt, hat, hel, g, hc, by simp [go_sem, g0, moments], by simp [go_sem, g1, ints], by simp [go_sem, g2], by simp [go_sem, g3], by simp [go_sem, g4], by simp [go_sem], hT⟩
    rw [hf] at c1 hT
    simp only [Bool.not_true, Bool.or_false, Bool.false_eq_true, if_false] at hT
    rw [getD_of (by omega : k < ow.length)] at hT
    have e5 := stS true hat.2 (k := k) (by omega)
    have hat2 := hat.setS hos (se.set k true)
    have hcs := cnt_set (by omega : k < se.length) hse'
    have hel2 := hel.trans (Else.setS h1 o s (.cells (boolC (se.set k true)) .live))
    obtain ⟨h2, eh2⟩ : ∃ g, g = h1.set s (.cells (boolC (se.set k true)) .live) := ⟨_, rfl⟩
    rw [← eh2] at e5 hat2 hel2
    have e6 := ldO hat2.1 (k := k) (by omega)
    by_cases hneg : ow[k] < 0
    · rw [if_pos hneg] at hT
      have e7 := stO (i : Int) hat2.1 (k := k) (by omega)
      simp +contextual [go_sem, g0, g1, g2, g3, g4, g11, len50, hlt', e1, e2, e3, e4, e5, e6, e7, ld3i, c1, hneg]
      exact fin _ _ true _ _ (by simp [go_sem]) hT.symm (hat2.setO hos _) (hel2.trans (Else.setO _ _ _ _))
    · rw [if_neg hneg] at hT
      have hlo := g.lo _ (List.getElem_mem (by omega : k < ow.length))
      have hnat : ((ow[k].toNat : Nat) : Int) = ow[k] := by omega
      have hlaw := asg_law (n := l.length) (c := cl.length) (fitK l cl) f ow[k].toNat ow (se.set k true) (by omega) (g.set_se k) (by omega)
      obtain ⟨r, h3, cc, rfl, hat3, hel3⟩ := ih ow[k].toNat ow (se.set k true) h2 o s hos (by omega) (g.set_se k) (by omega) hat2
      rw [hnat] at cc
      have cv := (callV_open (f := 89) (by kernel_rfl) rfl).trans cc
      simp only [moments, ints] at cv
      generalize asg (fitK l cl) l.length f ow[k].toNat ow (se.set k true) = rr at hT cv hlaw hat3
      obtain ⟨b, ow2, se2⟩ := rr
      obtain ⟨g3', hc3⟩ := hlaw
      cases b with
      | true =>
        simp only [if_true] at hT
        have e7 := stO (i : Int) hat3.1 (k := k) (by have : ow2.length = l.length := g3'.ol; show k < ow2.length; omega)
        simp +contextual [go_sem, g0, g1, g2, g3, g4, g11, len50, hlt', e1, e2, e3, e4, e5, e6, e7, ld3i, c1, hneg, cv]
        exact fin _ _ true _ _ (by simp [go_sem]) hT.symm (hat3.setO hos _) ((hel2.trans hel3).trans (Else.setO _ _ _ _))
      | false =>
        simp only [Bool.false_eq_true, if_false] at hT
        simp +contextual [go_sem, g0, g1, g2, g3, g4, g11, len50, hlt', e1, e2, e3, e4, e5, e6, ld3i, c1, hneg, cv, -Int.natCast_add, w2]
        exact ⟨l.length - (k + 1), by omega, k + 1, ow2, se2, rfl, hlt, hat3, hel2.trans hel3, g3', by have : cnt se2 ≤ cnt (se.set k true) := hc3; omega, by simp [go_sem, g0, moments], by simp [go_sem, g1, ints], by simp [go_sem, g2], by simp [go_sem, g3], by simp [go_sem, g4], by simp [go_sem], hT⟩
  · have : k = l.length := by omega
    subst this
    rw [Nat.sub_self, asgK] at hT
    simp only [moments, ints] at g0 g1
    simp [go_sem, g0, g1, g2, g3, g4, g11, len50]
    exact fin _ _ false ow se (by simp [go_sem]) hT.symm hat hel
theorem srch_all (l : List Mo) (cl : List Int) (cp : Option Nat) (hs : smallM l) (hl : l.length < 4000000) : ∀ f, Srch l cl cp f
  | 0 => fun _ _ _ _ _ _ _ _ _ h _ => by omega
  | f + 1 => srch_step l cl cp hs hl f (srch_all l cl cp hs hl f)
end Go.VZ
