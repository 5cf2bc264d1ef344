/- Moments: their form; kinds, equality, fits, both ways. -/
import Derived.Test.YtdoegkegjaadeaaGreatDoorQSc
namespace Go.VZ
open Go Go.V Go.Proofs TL
/-- A moment; its agents are only carried. -/
structure Mo where
  kind : Int
  number : Int
  role : Int
  ag : List AV
  goal : Int
  terms : List T
def encM (m : Mo) : AV := .agg [.int .i64 m.kind, .int .i64 m.number, .int .i64 m.role, .isl m.ag .unk, .int .i64 m.goal, terms m.terms]
def moments (l : List Mo) : AV := .isl (l.map encM) .unk
theorem u50 : C.P.underlying 50 = some (.slice 54) := Tryz.underlying50
theorem s54 : sizeV C.P 54 = some 6 := by kernel_rfl
theorem s50 : sizeV C.P 50 = some 1 := by kernel_rfl
theorem a54 : isAggB C.P 54 = some true := by kernel_rfl
theorem a50 : isAggB C.P 50 = some false := by kernel_rfl
attribute [go_sem] u50 s54 s50 a54 a50
theorem fa54i_0 (e : AV) : fieldAddrV C.P 54 (.iptr e 0) 0 = some (.iptr e 0) := by kernel_rfl
theorem fa54_0 (i : Nat) : fieldAddrV C.P 54 (.ptr i 0) 0 = some (.ptr i 0) := by kernel_rfl
theorem fa54_4 (i : Nat) : fieldAddrV C.P 54 (.ptr i 0) 4 = some (.ptr i 4) := by kernel_rfl
theorem fa54_5 (i : Nat) : fieldAddrV C.P 54 (.ptr i 0) 5 = some (.ptr i 5) := by kernel_rfl
attribute [go_sem] fa54i_0 fa54_0 fa54_4 fa54_5
theorem zv54 : zeroV C.P 54 = some (.agg [.int .i64 0, .int .i64 0, .int .i64 0, .isl [] .full, .int .i64 0, .isl [] .full]) := by kernel_rfl
attribute [go_sem] zv54
theorem len50 (es : List AV) (x : Ext) : lenV C.P 50 (.isl es x) = some (.int .i64 es.length) := by simp [lenV, u50]
theorem idx50 (l : List Mo) (k : Nat) (hk : k < l.length) (x : Ext) : indexAddrV C.P 50 (.isl (l.map encM) x) (.int .i64 k) = some (.iptr (encM l[k]) 0) := by
  simp [indexAddrV, u50, s54, encM, cells_agg, hk]
theorem ld54 (m : Mo) (h : H) : loadV C.P h 54 (.iptr (encM m) 0) = some (encM m) := by simp [loadV, cellsAt, a54, s54, encM, cells_agg]
theorem ld3m (m : Mo) (h : H) : loadV C.P h 3 (.iptr (encM m) 0) = some (.int .i64 m.kind) := by simp [loadV, cellsAt, a3, s3, encM, cells_agg]
theorem box54 (m : Mo) (h : H) : boxV C.P h 54 (encM m) = some (.ptr h.length 0, h ++ [.cells (encM m).cells .live]) := by
  simp [boxV, encM, cells_agg, s54, notTuple]
def kindB (l : List Mo) (i g : Int) : Bool := if h : 0 ≤ i ∧ i < l.length then decide ((l[i.toNat]'(by omega)).kind = g) else false
theorem kind84 (l : List Mo) (i g : Int) : CallP C 84 [moments l, .int .i64 i, .int .i64 g] = some (.bool (kindB l i g)) := by
  refine CallP_W rfl Tryz.func84 rfl (by kernel_rfl) (by simp [Tryz.f84]) fun R hR => ?_
  by_cases h : 0 ≤ i ∧ i < l.length
  · obtain ⟨k, rfl⟩ : ∃ k : Nat, i = k := ⟨i.toNat, by omega⟩
    have hk : k < l.length := by omega
    have hk' : (k : Int) < l.length := by omega
    have hix := idx50 l k hk .unk
    simp +contextual [go_sem, initS, moments, len50, hk', hix, ld3m]
    refine hR _ _ _ (.inr rfl) ⟨.bool (kindB l k g), ?_, snap_dat rfl rfl⟩
    simp [resultV, resV, Tryz.f84, go_sem, kindB, hk]
  · by_cases h0 : 0 ≤ i
    · have h1 : ¬ i < l.length := by omega
      simp +contextual [go_sem, initS, moments, len50, h0, h1]
      refine hR _ _ _ (.inr rfl) ⟨.bool (kindB l i g), ?_, snap_dat rfl rfl⟩
      simp [resultV, resV, Tryz.f84, go_sem, kindB, h0, h1]
    · simp +contextual [go_sem, initS, moments, len50, h0]
      refine hR _ _ _ (.inr rfl) ⟨.bool (kindB l i g), ?_, snap_dat rfl rfl⟩
      simp [resultV, resV, Tryz.f84, go_sem, kindB, h0]
theorem dat_mo (l : List Mo) (i g : Int) : dats [moments l, .int .i64 i, .int .i64 g] = some [moments l, .int .i64 i, .int .i64 g] := rfl
theorem short_mo (l : List Mo) : short (moments l) = true := rfl
theorem call84 (l : List Mo) (i g : Int) (h : H) : callV C h (.func 84 []) (some [moments l, .int .i64 i, .int .i64 g]) = some (.bool (kindB l i g), h) := callV_strip (by kernel_rfl) rfl (dat_mo _ _ _) (by simp [short_mo, short_int]) (by simp) (kind84 l i g)
theorem kind88 (l : List Mo) (i g : Int) : CallP C 88 [moments l, .int .i64 i, .int .i64 g] = some (.bool (kindB l i g)) := by
  refine CallP_W rfl Tryz.func88 rfl (by kernel_rfl) (by simp [Tryz.f88]) fun R hR => ?_
  by_cases h : 0 ≤ i ∧ i < l.length
  · obtain ⟨k, rfl⟩ : ∃ k : Nat, i = k := ⟨i.toNat, by omega⟩
    have hk : k < l.length := by omega
    have hk' : (k : Int) < l.length := by omega
    have hix := idx50 l k hk .unk
    simp +contextual [go_sem, initS, moments, len50, hk', hix, ld3m]
    refine hR _ _ _ (.inr rfl) ⟨.bool (kindB l k g), ?_, snap_dat rfl rfl⟩
    simp [resultV, resV, Tryz.f88, go_sem, kindB, hk]
  · by_cases h0 : 0 ≤ i
    · have h1 : ¬ i < l.length := by omega
      simp +contextual [go_sem, initS, moments, len50, h0, h1]
      refine hR _ _ _ (.inr rfl) ⟨.bool (kindB l i g), ?_, snap_dat rfl rfl⟩
      simp [resultV, resV, Tryz.f88, go_sem, kindB, h0, h1]
    · simp +contextual [go_sem, initS, moments, len50, h0]
      refine hR _ _ _ (.inr rfl) ⟨.bool (kindB l i g), ?_, snap_dat rfl rfl⟩
      simp [resultV, resV, Tryz.f88, go_sem, kindB, h0]
theorem call88 (l : List Mo) (i g : Int) (h : H) : callV C h (.func 88 []) (some [moments l, .int .i64 i, .int .i64 g]) = some (.bool (kindB l i g), h) := callV_strip (by kernel_rfl) rfl (dat_mo _ _ _) (by simp [short_mo, short_int]) (by simp) (kind88 l i g)
end Go.VZ

/- Equality of goals, and fits, both ways. -/
namespace Go.VZ
open Go Go.V Go.Proofs TL
def smallT (l : List T) : Prop := l.length < 4000000 ∧ ∀ t ∈ l, t.size < 4000000
theorem equal260 (a b : T) (h1 : a.size < 4000000) (h3 : b.size < 4000000) : CallP C 260 [enc a, enc b] = some (.bool (decide (a.cmp b = 0))) := by
  refine CallP_W rfl Tryz.func260 rfl (by kernel_rfl) (by simp [Tryz.f260]) fun R hR => ?_
  have c1 := call112 a b h1 h3
  simp [go_sem, initS, terms, ld25c, ld25d, c1]
  refine hR _ _ _ (.inr rfl) ⟨.bool (decide (a.cmp b = 0)), by simp [resultV, resV, Tryz.f260, go_sem], snap_dat rfl rfl⟩
theorem call260 (a b : T) (h1 : a.size < 4000000) (h3 : b.size < 4000000) (h : H) : callV C h (.func 260 []) (some [enc a, enc b]) = some (.bool (decide (a.cmp b = 0)), h) := callV_strip (by kernel_rfl) rfl (dat_enc2 _ _) (by simp [short_enc]) (by simp) (equal260 a b h1 h3)
def NI115 (l m : List T) (n : Nat) (s : PT) (_h : H) : Prop := ∃ k : Nat, n = l.length - k ∧ k ≤ l.length ∧ s.get 1 = terms m ∧ s.get 2 = .func 260 [] ∧ s.get 15 = terms l ∧ s.get 16 = .int .i64 l.length ∧ s.get 17 = .int .i64 k ∧ (l.drop k = m.drop k ↔ l = m)
set_option maxRecDepth 8000 in
set_option maxHeartbeats 2000000 in
theorem eqf115 (l m : List T) (hl : smallT l) (hm : smallT m) : CallP C 115 [terms l, terms m, .func 260 []] = some (.bool (decide (l = m))) := by
  refine CallP_W rfl Tryz.func115 rfl (by kernel_rfl) (by simp [Tryz.f115]) fun R hR => ?_
  by_cases he : l.length = m.length
  · have he' : (l.length : Int) = m.length := by omega
    simp [go_sem, terms, len23, he']
    refine W_loop (NI115 l m) l.length ⟨0, rfl, Nat.zero_le _, by simp [go_sem, terms], by simp [go_sem], by simp [go_sem, terms], by simp [go_sem, he'], by simp [go_sem], by simp⟩ ?_
    rintro n s h ⟨k, rfl, hk, g1, g2, g15, g16, g17, hd⟩
    have hln := hl.1
    simp only [terms] at g1 g15
    by_cases hlt : k < l.length
    · have hlt' : (k : Int) < l.length := by omega
      have hltb : k < m.length := by omega
      have hix := idx23 l k hlt .unk
      have hiy := idx23 m k hltb .unk
      have ck := call260 l[k] m[k] (hl.2 _ (List.getElem_mem hlt)) (hm.2 _ (List.getElem_mem hltb))
      have w2 : IntKind.i64.wrap ((k : Int) + 1) = ((k + 1 : Nat) : Int) := by rw [wrap_in (by omega)]; omega
      rw [List.drop_eq_getElem_cons hlt, List.drop_eq_getElem_cons hltb, List.cons.injEq] at hd
      obtain ⟨h2, eh2⟩ : ∃ g, g = h ++ [.cells (enc l[k]).cells .live] := ⟨_, rfl⟩
      have e4 := st25z l[k] h
      rw [← eh2] at e4
      have e5 := st25z m[k] h2
      have e6 := ldb25z m[k] h2
      have e7 : loadV C.P (h2 ++ [.cells (enc m[k]).cells .live]) 25 (.ptr h.length 0) = some (enc l[k]) := by
        have q := ldb25z l[k] h
        rw [← eh2] at q
        have hlen : h.length < h2.length := by rw [eh2]; simp
        simp only [loadV] at q ⊢
        rw [List.getElem?_append_left hlen]; exact q
      by_cases hz : l[k].cmp m[k] = 0
      · simp [go_sem, g1, g2, g15, g16, g17, hlt', hix, hiy, ld25, e4, e5, e6, e7, ck, hz, -Int.natCast_add, w2]
        rw [cmp_zero] at hz
        exact ⟨l.length - (k + 1), by omega, k + 1, rfl, hlt, by simp [go_sem, g1, terms], by simp [go_sem, g2], by simp [go_sem, g15, terms], by simp [go_sem, g16], by simp [go_sem], by rw [← hd]; exact ⟨fun e => ⟨hz, e⟩, fun e => e.2⟩⟩
      · simp [go_sem, g1, g2, g15, g16, g17, hlt', hix, hiy, ld25, e4, e5, e6, e7, ck, hz]
        have hne : l ≠ m := fun e => hz (cmp_zero.mpr (hd.mpr e).1)
        refine hR _ _ _ (.inr rfl) ⟨.bool (decide (l = m)), by simp [resultV, resV, Tryz.f115, go_sem, hne], snap_dat rfl rfl⟩
    · have : k = l.length := by omega
      subst this
      rw [List.drop_length, he, List.drop_length] at hd
      have e := hd.mp rfl
      simp [go_sem, g16, g17]
      refine hR _ _ _ (.inr rfl) ⟨.bool (decide (l = m)), by simp [resultV, resV, Tryz.f115, go_sem, e], snap_dat rfl rfl⟩
  · have he' : ¬ (l.length : Int) = m.length := by omega
    simp [go_sem, initS, terms, len23, he']
    have hne : l ≠ m := fun e => he (by rw [e])
    refine hR _ _ _ (.inr rfl) ⟨.bool (decide (l = m)), by simp [resultV, resV, Tryz.f115, go_sem, hne], snap_dat rfl rfl⟩
theorem call115 (l m : List T) (hl : smallT l) (hm : smallT m) (h : H) : callV C h (.func 115 []) (some [terms l, terms m, .func 260 []]) = some (.bool (decide (l = m)), h) := callV_strip (by kernel_rfl) rfl rfl (by simp [short_terms, short_func]) (by simp) (eqf115 l m hl hm)
theorem call110 (l m : List T) (hl : smallT l) (hm : smallT m) (h : H) : callV C h (.func 110 []) (some [terms l, terms m]) = some (.bool (decide (l = m)), h) := callV_strip (by kernel_rfl) rfl rfl (by simp [short_terms]) (by simp) (lists110 l m hl.2 hm.2 hl.1)
def eqM (a b : Mo) : Bool := decide (a.goal = b.goal) && decide (a.terms = b.terms)
theorem ldm4' (a b c d f : AV) (v : Int) (l : List VObj) : loadV C.P (.cells [a, b, c, d, .int .i64 v, f] .live :: l) 3 (.ptr 0 4) = some (.int .i64 v) := by simp [loadV, cellsAt, a3, s3]
theorem ldn4 (x : VObj) (a b c d f : AV) (v : Int) (l : List VObj) : loadV C.P (x :: .cells [a, b, c, d, .int .i64 v, f] .live :: l) 3 (.ptr 1 4) = some (.int .i64 v) := by simp [loadV, cellsAt, a3, s3]
theorem ldm5 (a b c d e : AV) (m : List T) (l : List VObj) : loadV C.P (.cells [a, b, c, d, e, terms m] .live :: l) 23 (.ptr 0 5) = some (terms m) := by simp [loadV, cellsAt, a23, s23, terms]
theorem ldn5 (x : VObj) (a b c d e : AV) (m : List T) (l : List VObj) : loadV C.P (x :: .cells [a, b, c, d, e, terms m] .live :: l) 23 (.ptr 1 5) = some (terms m) := by simp [loadV, cellsAt, a23, s23, terms]
theorem encM_cells (m : Mo) : (encM m).cells = [.int .i64 m.kind, .int .i64 m.number, .int .i64 m.role, .isl m.ag .unk, .int .i64 m.goal, terms m.terms] := rfl
theorem equal212 (a b : Mo) (ha : smallT a.terms) (hb : smallT b.terms) : CallP C 212 [encM a, encM b] = some (.bool (eqM a b)) := by
  refine CallP_W rfl Tryz.func212 rfl (by kernel_rfl) (by simp [Tryz.f212]) fun R hR => ?_
  have c1 := call115 a.terms b.terms ha hb
  by_cases hg : a.goal = b.goal
  · simp +contextual [go_sem, initS, box54, encM_cells, ldm4', ldn4, ldm5, ldn5, c1, hg]
    refine hR _ _ _ (.inr rfl) ⟨.bool (eqM a b), by simp [resultV, resV, Tryz.f212, go_sem, eqM, hg], snap_dat rfl rfl⟩
  · simp +contextual [go_sem, initS, box54, encM_cells, ldm4', ldn4, ldm5, ldn5, c1, hg]
    refine hR _ _ _ (.inr rfl) ⟨.bool (eqM a b), by simp [resultV, resV, Tryz.f212, go_sem, eqM, hg], snap_dat rfl rfl⟩
theorem equal214 (a b : Mo) (ha : smallT a.terms) (hb : smallT b.terms) : CallP C 214 [encM a, encM b] = some (.bool (eqM a b)) := by
  refine CallP_W rfl Tryz.func214 rfl (by kernel_rfl) (by simp [Tryz.f214]) fun R hR => ?_
  have c1 := call110 a.terms b.terms ha hb
  by_cases hg : a.goal = b.goal
  · simp +contextual [go_sem, initS, box54, encM_cells, ldm4', ldn4, ldm5, ldn5, c1, hg]
    refine hR _ _ _ (.inr rfl) ⟨.bool (eqM a b), by simp [resultV, resV, Tryz.f214, go_sem, eqM, hg], snap_dat rfl rfl⟩
  · simp +contextual [go_sem, initS, box54, encM_cells, ldm4', ldn4, ldm5, ldn5, c1, hg]
    refine hR _ _ _ (.inr rfl) ⟨.bool (eqM a b), by simp [resultV, resV, Tryz.f214, go_sem, eqM, hg], snap_dat rfl rfl⟩
theorem dat_M2 (a b : Mo) : dats [encM a, encM b] = some [encM a, encM b] := rfl
theorem short_M (a : Mo) : short (encM a) = true := rfl
theorem call212 (a b : Mo) (ha : smallT a.terms) (hb : smallT b.terms) (h : H) : callV C h (.func 212 []) (some [encM a, encM b]) = some (.bool (eqM a b), h) := callV_strip (by kernel_rfl) rfl (dat_M2 _ _) (by simp [short_M]) (by simp) (equal212 a b ha hb)
theorem call214 (a b : Mo) (ha : smallT a.terms) (hb : smallT b.terms) (h : H) : callV C h (.func 214 []) (some [encM a, encM b]) = some (.bool (eqM a b), h) := callV_strip (by kernel_rfl) rfl (dat_M2 _ _) (by simp [short_M]) (by simp) (equal214 a b ha hb)
def smallM (l : List Mo) : Prop := ∀ m ∈ l, smallT m.terms
/-- The moment at a place that is in range. -/
def atM (l : List Mo) (i : Int) : Mo := (l[i.toNat]?).getD ⟨0, 0, 0, [], 0, []⟩
def fitsM (l : List Mo) (i j : Int) : Bool := kindB l i 4 && kindB l j 5 && decide (i < j) && eqM (atM l i) (atM l j)
theorem kindB_range {l : List Mo} {i g : Int} (h : kindB l i g = true) : ∃ k : Nat, ∃ hk : k < l.length, i = k ∧ atM l i = l[k] := by
  unfold kindB at h
  split at h
  · rename_i hh
    exact ⟨i.toNat, by omega, by omega, by simp [atM, show i.toNat < l.length by omega]⟩
  · cases h
theorem fits142 (l : List Mo) (hs : smallM l) (i j : Int) : CallP C 142 [moments l, .int .i64 i, .int .i64 j] = some (.bool (fitsM l i j)) := by
  refine CallP_W rfl Tryz.func142 rfl (by kernel_rfl) (by simp [Tryz.f142]) fun R hR => ?_
  have c1 := call84 l i 4
  have c2 := call84 l j 5
  have fin : ∀ (s : PT) (h : H) (b : Bool), s.get 6 = .bool b → b = fitsM l i j → R .ret s h := fun s h b h6 hb => hR _ _ _ (.inr rfl) ⟨.bool b, by simp [resultV, resV, Tryz.f142, h6], by rw [hb]; exact snap_dat rfl rfl⟩
  by_cases k1 : kindB l i 4 = true
  · by_cases k2 : kindB l j 5 = true
    · by_cases k3 : i < j
      · obtain ⟨a, ha, rfl, ea⟩ := kindB_range k1
        obtain ⟨b, hb, rfl, eb⟩ := kindB_range k2
        have k3' : a < b := by omega
        have hix : indexAddrV C.P 50 (moments l) (.int .i64 a) = some (.iptr (encM l[a]) 0) := idx50 l a ha .unk
        have hiy : indexAddrV C.P 50 (moments l) (.int .i64 b) = some (.iptr (encM l[b]) 0) := idx50 l b hb .unk
        have c3 := call212 l[a] l[b] (hs _ (List.getElem_mem ha)) (hs _ (List.getElem_mem hb))
        simp +contextual [go_sem, initS, c1, c2, k1, k2, k3', hix, hiy, ld54, c3]
        exact fin _ _ _ (by simp [go_sem]; rfl) (by simp [fitsM, k1, k2, k3', ea, eb])
      · simp +contextual [go_sem, initS, c1, c2, k1, k2, k3]
        exact fin _ _ _ (by simp [go_sem]; rfl) (by simp [fitsM, k1, k2, k3])
    · have k2' : kindB l j 5 = false := by simpa using k2
      simp +contextual [go_sem, initS, c1, c2, k1, k2']
      exact fin _ _ _ (by simp [go_sem]; rfl) (by simp [fitsM, k1, k2'])
  · have k1' : kindB l i 4 = false := by simpa using k1
    simp +contextual [go_sem, initS, c1, c2, k1']
    exact fin _ _ _ (by simp [go_sem]; rfl) (by simp [fitsM, k1'])
theorem call142 (l : List Mo) (hs : smallM l) (i j : Int) (h : H) : callV C h (.func 142 []) (some [moments l, .int .i64 i, .int .i64 j]) = some (.bool (fitsM l i j), h) := callV_strip (by kernel_rfl) rfl (dat_mo _ _ _) (by simp [short_mo, short_int]) (by simp) (fits142 l hs i j)
theorem fits147 (l : List Mo) (hs : smallM l) (i j : Int) : CallP C 147 [moments l, .int .i64 i, .int .i64 j] = some (.bool (fitsM l i j)) := by
  refine CallP_W rfl Tryz.func147 rfl (by kernel_rfl) (by simp [Tryz.f147]) fun R hR => ?_
  have c1 := call88 l i 4
  have c2 := call88 l j 5
  have fin : ∀ (s : PT) (h : H) (b : Bool), s.get 6 = .bool b → b = fitsM l i j → R .ret s h := fun s h b h6 hb => hR _ _ _ (.inr rfl) ⟨.bool b, by simp [resultV, resV, Tryz.f147, h6], by rw [hb]; exact snap_dat rfl rfl⟩
  by_cases k1 : kindB l i 4 = true
  · by_cases k2 : kindB l j 5 = true
    · by_cases k3 : i < j
      · obtain ⟨a, ha, rfl, ea⟩ := kindB_range k1
        obtain ⟨b, hb, rfl, eb⟩ := kindB_range k2
        have k3' : a < b := by omega
        have hix : indexAddrV C.P 50 (moments l) (.int .i64 a) = some (.iptr (encM l[a]) 0) := idx50 l a ha .unk
        have hiy : indexAddrV C.P 50 (moments l) (.int .i64 b) = some (.iptr (encM l[b]) 0) := idx50 l b hb .unk
        have c3 := call214 l[a] l[b] (hs _ (List.getElem_mem ha)) (hs _ (List.getElem_mem hb))
        simp +contextual [go_sem, initS, c1, c2, k1, k2, k3', hix, hiy, ld54, c3]
        exact fin _ _ _ (by simp [go_sem]; rfl) (by simp [fitsM, k1, k2, k3', ea, eb])
      · simp +contextual [go_sem, initS, c1, c2, k1, k2, k3]
        exact fin _ _ _ (by simp [go_sem]; rfl) (by simp [fitsM, k1, k2, k3])
    · have k2' : kindB l j 5 = false := by simpa using k2
      simp +contextual [go_sem, initS, c1, c2, k1, k2']
      exact fin _ _ _ (by simp [go_sem]; rfl) (by simp [fitsM, k1, k2'])
  · have k1' : kindB l i 4 = false := by simpa using k1
    simp +contextual [go_sem, initS, c1, c2, k1']
    exact fin _ _ _ (by simp [go_sem]; rfl) (by simp [fitsM, k1'])
theorem call147 (l : List Mo) (hs : smallM l) (i j : Int) (h : H) : callV C h (.func 147 []) (some [moments l, .int .i64 i, .int .i64 j]) = some (.bool (fitsM l i j), h) := callV_strip (by kernel_rfl) rfl (dat_mo _ _ _) (by simp [short_mo, short_int]) (by simp) (fits147 l hs i j)
end Go.VZ

/- Rows of numbers: facts on their types. -/
namespace Go.VZ
open Go Go.V Go.Proofs TL
def ints (l : List Int) : AV := .isl (l.map (AV.int .i64)) .unk
theorem u47 : C.P.underlying 47 = some (.slice 3) := Tryz.underlying47
theorem u100 : C.P.underlying 100 = some (.slice 4) := Tryz.underlying100
theorem s4 : sizeV C.P 4 = some 1 := by kernel_rfl
theorem a4 : isAggB C.P 4 = some false := by kernel_rfl
attribute [go_sem] u47 u100 s4 a4
theorem idx47 (l : List Int) (k : Nat) (hk : k < l.length) (x : Ext) : indexAddrV C.P 47 (.isl (l.map (AV.int .i64)) x) (.int .i64 k) = some (.iptr (.int .i64 l[k]) 0) := by
  simp [indexAddrV, u47, s3, hk, AV.cells]
theorem ld3i (v : Int) (h : H) : loadV C.P h 3 (.iptr (.int .i64 v) 0) = some (.int .i64 v) := by simp [loadV, cellsAt, a3, s3, AV.cells]
theorem b3 : bytesV C.P 3 = some 8 := by kernel_rfl
theorem b4 : bytesV C.P 4 = some 1 := by kernel_rfl
theorem z3 : zeroOk C.P 3 = true := by kernel_rfl
theorem len47 (l : List Int) (x : Ext) : lenV C.P 47 (.isl (l.map (AV.int .i64)) x) = some (.int .i64 l.length) := by simp [lenV, u47]
theorem s47 : sizeV C.P 47 = some 1 := by kernel_rfl
theorem a47 : isAggB C.P 47 = some false := by kernel_rfl
theorem idx47' (l : List Int) (k : Nat) (hk : k < l.length) : indexAddrV C.P 47 (ints l) (.int .i64 k) = some (.iptr (.int .i64 l[k]) 0) := idx47 l k hk .unk
end Go.VZ

/- Terms, bindings, moments and numbers that came in. -/
namespace Go.VZ
open Go Go.V Go.Proofs TL
theorem c3 : Tryz.prog.cellsOf 3 = 1 := by kernel_rfl
theorem c9 : Tryz.prog.cellsOf 9 = 1 := by kernel_rfl
theorem c23 : Tryz.prog.cellsOf 23 = 1 := by kernel_rfl
theorem c25 : Tryz.prog.cellsOf 25 = 4 := by kernel_rfl
theorem c52 : Tryz.prog.cellsOf 52 = 1 := by kernel_rfl
theorem c54 : Tryz.prog.cellsOf 54 = 6 := by kernel_rfl
theorem c86 : Tryz.prog.cellsOf 86 = 8 := by kernel_rfl
section
variable {H : Type} {ec : TypeId × Value → H} {w : World}
noncomputable abbrev TR (ec : TypeId × Value → H) (w : World) (n : Nat) (t : TypeId) (cs : List Value) : Option (DataW H × List MemPlace) := DataW.trod ec Tryz.prog w 0 (fun _ => true) true n t cs
theorem len4 {α : Type} {l : List α} (h : l.length = 4) : ∃ a b c d, l = [a, b, c, d] := by
  match l, h with
  | [a, b, c, d], _ => exact ⟨a, b, c, d, rfl⟩
theorem len6 {α : Type} {l : List α} (h : l.length = 6) : ∃ a b c d e f, l = [a, b, c, d, e, f] := by
  match l, h with
  | [a, b, c, d, e, f], _ => exact ⟨a, b, c, d, e, f, rfl⟩
theorem len8 {α : Type} {l : List α} (h : l.length = 8) : ∃ a b c d e f g i, l = [a, b, c, d, e, f, g, i] := by
  match l, h with
  | [a, b, c, d, e, f, g, i], _ => exact ⟨a, b, c, d, e, f, g, i, rfl⟩
theorem enc_ok (t : T) : (enc t).cells.length = 4 ∧ notTuple (enc t) = true ∧ ∀ c ∈ (enc t).cells, c.one = true := by
  rw [enc_cells]
  refine ⟨rfl, by rw [enc_eq]; rfl, fun c hc => ?_⟩
  simp only [List.mem_cons, List.not_mem_nil, or_false] at hc
  rcases hc with rfl | rfl | rfl | rfl <;> rfl
theorem dec_term : ∀ (fuel : Nat) (cs : List Value) (y : DataW H × List MemPlace), cs.length = 4 → TR ec w fuel 25 cs = some y → ∃ t : T, t.size ≤ uBulk y.1 ∧ ∀ (j : Nat) c u, (enc t).cells[j]? = some c → cs[j]? = some u → IRel (fun _ _ => True) w c u := by
  intro fuel
  induction fuel using Nat.strongRecOn with
  | _ fuel ih =>
    intro cs y hcs h
    obtain ⟨xs, n, rfl, rfl, hl, hx, hf⟩ := DataW.trod_struct Tryz.underlying25 h
    have f0 : TR ec w n 3 ((cs.drop 0).take (Tryz.prog.cellsOf 3)) = xs[0]? := hf 0 _ rfl
    have f1 : TR ec w n 9 ((cs.drop 1).take (Tryz.prog.cellsOf 9)) = xs[1]? := hf 1 _ rfl
    have f2 : TR ec w n 3 ((cs.drop 2).take (Tryz.prog.cellsOf 3)) = xs[2]? := hf 2 _ rfl
    have f3 : TR ec w n 23 ((cs.drop 3).take (Tryz.prog.cellsOf 23)) = xs[3]? := hf 3 _ rfl
    obtain ⟨v0, v1, v2, v3, rfl⟩ := len4 hcs
    obtain ⟨x0, x1, x2, x3, rfl⟩ := len4 (l := xs) hx
    simp only [c3, c9, c23, List.drop_zero, List.drop_succ_cons, List.take_succ_cons, List.take_zero, List.getElem?_cons_zero, List.getElem?_cons_succ] at f0 f1 f2 f3
    obtain ⟨k0, e0, rfl, _⟩ := DataW.trod_int Tryz.underlying3 f0
    obtain ⟨s1, e1, rfl, _⟩ := DataW.trod_string Tryz.underlying9 f1
    obtain ⟨k2, e2, rfl, _⟩ := DataW.trod_int Tryz.underlying3 f2
    simp only [List.cons.injEq, and_true] at e0 e1 e2
    subst e0; subst e1; subst e2
    obtain ⟨l, hr, hll, hls⟩ := dec_slice (toV := enc) (sz := T.size) Tryz.underlying23 c25 (by omega) enc_ok (fun m hm cs y h1 h2 => ih m (by omega) cs y h1 h2) f3
    refine ⟨.mk k0 s1 k2 l, ?_, fun j c u hc hu => ?_⟩
    · rw [size_kids]
      show sizes l + 1 ≤ _
      rw [sizes_eq]
      simp only [List.map_cons, List.map_nil, uBulk, YtdoegkegjaadeaaGreatDoor.Rows.uptoBulk, YtdoegkegjaadeaaGreatDoor.Rows.uptoBulkAll] at hls ⊢
      omega
    · rw [enc_cells] at hc
      match j, hc, hu with
      | 0, hc, hu => simp at hc hu; subst hc; subst hu; exact .int _ _
      | 1, hc, hu => simp at hc hu; subst hc; subst hu; exact .str _
      | 2, hc, hu => simp at hc hu; subst hc; subst hu; exact .int _ _
      | 3, hc, hu => simp at hc hu; subst hc; subst hu; exact hr
      | j + 4, hc, hu => simp at hc
theorem dec_terms {n : Nat} {v : Value} {x : DataW H × List MemPlace} (h : TR ec w n 23 [v] = some x) : ∃ l : List T, IRel (fun _ _ => True) w (terms l) v ∧ l.length + 1 ≤ uBulk x.1 ∧ (l.map T.size).sum + 1 ≤ uBulk x.1 :=
  dec_slice (toV := enc) (sz := T.size) Tryz.underlying23 c25 (by omega) enc_ok (fun m _ cs y h1 h2 => dec_term m cs y h1 h2) h
/-- Words. -/
theorem dec_words {n : Nat} {v : Value} {x : DataW H × List MemPlace} (h : TR ec w n 52 [v] = some x) : ∃ l : List AV, IRel (fun _ _ => True) w (.isl l .unk) v := by
  obtain ⟨l, hr, _⟩ := dec_slice (α := ByteArray) (toV := AV.str) (sz := fun _ => 0) Tryz.underlying52 c9 (by omega) (fun a => ⟨rfl, rfl, fun c hc => by simp [AV.cells] at hc; subst hc; rfl⟩) (fun m _ cs y h1 h2 => by
    obtain ⟨s, e, _⟩ := DataW.trod_string Tryz.underlying9 h2
    subst e
    refine ⟨s, Nat.zero_le _, fun j c u hc hu => ?_⟩
    match j, hc, hu with
    | 0, hc, hu => simp [AV.cells] at hc hu; subst hc; subst hu; exact .str _
    | j + 1, hc, hu => simp [AV.cells] at hc) h
  exact ⟨_, hr⟩
theorem dec_ints {n : Nat} {v : Value} {x : DataW H × List MemPlace} (h : TR ec w n 47 [v] = some x) : ∃ l : List Int, IRel (fun _ _ => True) w (ints l) v := by
  obtain ⟨l, hr, _⟩ := dec_slice (α := Int) (toV := AV.int .i64) (sz := fun _ => 0) Tryz.underlying47 c3 (by omega) (fun a => ⟨rfl, rfl, fun c hc => by simp [AV.cells] at hc; subst hc; rfl⟩) (fun m _ cs y h1 h2 => by
    obtain ⟨s, e, _⟩ := DataW.trod_int Tryz.underlying3 h2
    subst e
    refine ⟨s, Nat.zero_le _, fun j c u hc hu => ?_⟩
    match j, hc, hu with
    | 0, hc, hu => simp [AV.cells] at hc hu; subst hc; subst hu; exact .int _ _
    | j + 1, hc, hu => simp [AV.cells] at hc) h
  exact ⟨_, hr⟩
theorem dec_binds {n : Nat} {v : Value} {x : DataW H × List MemPlace} (h : TR ec w n 46 [v] = some x) : ∃ l : List (T × T), IRel (fun _ _ => True) w (binds l) v ∧ l.length = (elemsD x.1).length := by
  obtain ⟨l, hr, hll, _⟩ := dec_sliceQ (toV := encB) (Q := fun _ _ => True) Tryz.underlying46 c86 (by omega) (fun b => ⟨rfl, rfl, fun c hc => by
    simp only [encB, cells_agg, List.mem_cons, List.not_mem_nil, or_false] at hc
    rcases hc with rfl | rfl | rfl | rfl | rfl | rfl | rfl | rfl <;> rfl⟩) (fun m _ cs y h1 h2 => by
    obtain ⟨xs, n, rfl, rfl, hl, hx, hf⟩ := DataW.trod_struct Tryz.underlying86 h2
    have f0 : TR ec w n 25 ((cs.drop 0).take (Tryz.prog.cellsOf 25)) = xs[0]? := hf 0 _ rfl
    have f1 : TR ec w n 25 ((cs.drop 4).take (Tryz.prog.cellsOf 25)) = xs[1]? := hf 1 _ rfl
    obtain ⟨v0, v1, v2, v3, v4, v5, v6, v7, rfl⟩ := len8 h1
    obtain ⟨x0, x1, rfl⟩ : ∃ a b, xs = [a, b] := by
      match xs, hx with
      | [a, b], _ => exact ⟨a, b, rfl⟩
    simp only [c25, List.drop_zero, List.drop_succ_cons, List.take_succ_cons, List.take_zero, List.getElem?_cons_zero, List.getElem?_cons_succ] at f0 f1
    obtain ⟨t0, _, h0⟩ := dec_term _ _ _ rfl f0
    obtain ⟨t1, _, h1⟩ := dec_term _ _ _ rfl f1
    rw [enc_cells] at h0 h1
    refine ⟨(t0, t1), trivial, fun j c u hc hu => ?_⟩
    simp only [encB, cells_agg] at hc
    match j, hc, hu with
    | 0, hc, hu => exact h0 0 c u hc hu
    | 1, hc, hu => exact h0 1 c u hc hu
    | 2, hc, hu => exact h0 2 c u hc hu
    | 3, hc, hu => exact h0 3 c u hc hu
    | 4, hc, hu => exact h1 0 c u hc hu
    | 5, hc, hu => exact h1 1 c u hc hu
    | 6, hc, hu => exact h1 2 c u hc hu
    | 7, hc, hu => exact h1 3 c u hc hu
    | j + 8, hc, hu => simp at hc) h
  exact ⟨l, hr, hll⟩
end
end Go.VZ

/- Facts of clauses: their form; whether they are valid, both ways. -/
namespace Go.VZ
open Go Go.V Go.Proofs TL
structure Fa where
  kind : Int
  goal : Int
  terms : List T
def faC (f : Fa) : List AV := [.int .i64 f.kind, .int .i64 f.goal, terms f.terms]
def encFa (f : Fa) : AV := .agg (faC f)
theorem s35 : sizeV C.P 35 = some 3 := by kernel_rfl
theorem a35 : isAggB C.P 35 = some true := by kernel_rfl
theorem box35 (f : Fa) (h : H) : boxV C.P h 35 (encFa f) = some (.ptr h.length 0, h ++ [.cells (faC f) .live]) := by
  simp [boxV, encFa, s35, faC, notTuple, cells_agg]
theorem fa35_0 (i o : Nat) : fieldAddrV C.P 35 (.ptr i o) 0 = some (.ptr i o) := by kernel_rfl
theorem fa35_1 (i o : Nat) : fieldAddrV C.P 35 (.ptr i o) 1 = some (.ptr i (o + 1)) := by kernel_rfl
theorem fa35_2 (i o : Nat) : fieldAddrV C.P 35 (.ptr i o) 2 = some (.ptr i (o + 2)) := by kernel_rfl
attribute [go_sem] fa35_0 fa35_1 fa35_2
theorem ld3f0 {h : H} {i : Nat} {f : Fa} (hi : h[i]? = some (.cells (faC f) .live)) : loadV C.P h 3 (.ptr i 0) = some (.int .i64 f.kind) := by simp [loadV, hi, cellsAt, a3, s3, faC]
theorem ld3f1 {h : H} {i : Nat} {f : Fa} (hi : h[i]? = some (.cells (faC f) .live)) : loadV C.P h 3 (.ptr i 1) = some (.int .i64 f.goal) := by simp [loadV, hi, cellsAt, a3, s3, faC]
theorem ld23f {h : H} {i : Nat} {f : Fa} (hi : h[i]? = some (.cells (faC f) .live)) : loadV C.P h 23 (.ptr i 2) = some (terms f.terms) := by simp [loadV, hi, cellsAt, a23, s23, faC, terms]
theorem len23t (l : List T) : lenV C.P 23 (terms l) = some (.int .i64 l.length) := by simp [terms, len23]
theorem idx23t (l : List T) (k : Nat) (hk : k < l.length) : indexAddrV C.P 23 (terms l) (.int .i64 k) = some (.iptr (enc l[k]) 0) := idx23 l k hk .unk
theorem dat_fa (f : Fa) : dats [encFa f] = some [encFa f] := rfl
theorem short_fa (f : Fa) : short (encFa f) = true := rfl
def validsE : List T → Int
  | [] => 0
  | t :: l => if validE t ≠ 0 then validE t else validsE l
def factE (f : Fa) : Int :=
  if (f.kind ≠ 1 ∧ f.kind ≠ 2 ∧ f.kind ≠ 3) ∨ f.kind = 1 ∧ (f.terms.length ≠ 1 ∨ f.goal ≠ 0) then 1
  else if f.goal < 0 ∨ 7 < f.goal then 7
  else if f.terms.length = 0 then 8
  else if 8 < f.terms.length then 3
  else validsE f.terms
def smallF (l : List T) : Prop := ∀ t ∈ l, t.size < 4000000
def NI66 (f : Fa) (n : Nat) (st : PT) (h : H) : Prop := ∃ k : Nat, n = f.terms.length - k ∧ k ≤ f.terms.length ∧ h[0]? = some (.cells (faC f) .live) ∧ st.get 1 = .ptr 0 0 ∧ st.get 3 = .int .i64 k ∧ validsE f.terms = validsE (f.terms.drop k)
set_option maxRecDepth 8000 in
set_option maxHeartbeats 4000000 in
theorem fact66 (f : Fa) (hs : smallF f.terms) (hl : f.terms.length < 4000000) : CallP C 66 [encFa f] = some (.int .i64 (factE f)) := by
  refine CallP_W rfl Tryz.func66 rfl (by kernel_rfl) (by simp [Tryz.f66]) fun R hR => ?_
  have fin : ∀ (st : PT) (h : H) (e : Int), st.get 2 = .int .i64 e → factE f = e → R .ret st h := fun st h e h2 he => hR _ _ _ (.inr rfl) ⟨.int .i64 e, by simp [resultV, resV, Tryz.f66, h2], by rw [he]; exact snap_dat rfl rfl⟩
  have m0 : ([.cells (faC f) .live] : H)[0]? = some (.cells (faC f) .live) := rfl
  have k0 := ld3f0 m0
  have k1 := ld3f1 m0
  have k2 := ld23f m0
  have hln := len23t f.terms
  have q0 : ([] : H) ++ [.cells (faC f) .live] = [.cells (faC f) .live] := rfl
  simp +contextual [go_sem, box35, k0, k1, k2, hln]
  refine Ife_iff.2 ⟨fun h1 => ?_, fun h1 => ?_⟩
  · simp [go_sem]
    refine fin _ _ 1 (by simp [go_sem]) ?_
    unfold factE
    rw [if_pos]
    rcases h1 with ⟨⟨a, b⟩, c⟩ | ⟨a, b⟩
    · exact .inl ⟨a, b, c⟩
    · exact .inr ⟨a, b.imp (fun e h => e (by omega)) id⟩
  have n1 : ¬((f.kind ≠ 1 ∧ f.kind ≠ 2 ∧ f.kind ≠ 3) ∨ f.kind = 1 ∧ (f.terms.length ≠ 1 ∨ f.goal ≠ 0)) := by
    rintro (⟨a, b, c⟩ | ⟨a, b⟩)
    · exact h1 (.inl ⟨⟨a, b⟩, c⟩)
    · exact h1 (.inr ⟨a, b.imp (fun e h => e (by omega)) id⟩)
  simp +contextual [go_sem, k1]
  refine Ife_iff.2 ⟨fun h2 => ?_, fun h2 => ?_⟩
  · simp [go_sem]
    exact fin _ _ 7 (by simp [go_sem]) (by unfold factE; rw [if_neg n1, if_pos h2])
  simp +contextual [go_sem, k2, hln]
  refine Ife_iff.2 ⟨fun h3 => ?_, fun h3 => ?_⟩
  · simp [go_sem]
    exact fin _ _ 8 (by simp [go_sem]) (by unfold factE; rw [if_neg n1, if_neg h2, if_pos (by simpa using h3)])
  simp +contextual [go_sem, k2, hln]
  refine Ife_iff.2 ⟨fun h4 => ?_, fun h4 => ?_⟩
  · simp [go_sem]
    exact fin _ _ 3 (by simp [go_sem]) (by unfold factE; rw [if_neg n1, if_neg h2, if_neg (by simpa using h3), if_pos (by omega)])
  have he : factE f = validsE f.terms := by unfold factE; rw [if_neg n1, if_neg h2, if_neg (by simpa using h3), if_neg (by omega)]
  simp [go_sem]
  refine W_loop (NI66 f) f.terms.length ⟨0, rfl, Nat.zero_le _, rfl, by simp [go_sem], by simp [go_sem], rfl⟩ ?_
  rintro n st h ⟨k, rfl, hk, n0, g1, g3, hd⟩
  have k2' := ld23f n0
  by_cases hlt : k < f.terms.length
  · have hlt' : (k : Int) < f.terms.length := by omega
    have hix := idx23t f.terms k hlt
    have c86 := call86 f.terms[k] (hs _ (List.getElem_mem hlt))
    have w2 : IntKind.i64.wrap ((k : Int) + 1) = ((k + 1 : Nat) : Int) := by rw [wrap_in (by omega)]; omega
    rw [List.drop_eq_getElem_cons hlt, validsE] at hd
    by_cases hz : validE f.terms[k] = 0
    · simp [go_sem, g1, g3, k2', hln, hlt', hix, ld25, c86, hz, -Int.natCast_add, w2]
      exact ⟨f.terms.length - (k + 1), by omega, k + 1, rfl, hlt, n0, by simp [go_sem, g1], by simp [go_sem], by rw [hd, if_neg (by simpa using hz)]⟩
    · simp [go_sem, g1, g3, k2', hln, hlt', hix, ld25, c86, hz]
      exact fin _ _ (validE f.terms[k]) (by simp [go_sem]) (by rw [he, hd, if_pos hz])
  · have : k = f.terms.length := by omega
    subst this
    rw [List.drop_length, validsE] at hd
    simp [go_sem, g1, g3, k2', hln]
    exact fin _ _ 0 (by simp [go_sem]) (by rw [he, hd])
theorem call66 (f : Fa) (hs : smallF f.terms) (hl : f.terms.length < 4000000) (h : H) : callV C h (.func 66 []) (some [encFa f]) = some (.int .i64 (factE f), h) := callV_strip (by kernel_rfl) rfl (dat_fa f) (by simp [short_fa]) (by simp) (fact66 f hs hl)
def NI58 (f : Fa) (n : Nat) (st : PT) (_h : H) : Prop := ∃ k : Nat, n = f.terms.length - k ∧ k ≤ f.terms.length ∧ st.get 42 = terms f.terms ∧ st.get 43 = .int .i64 f.terms.length ∧ st.get 44 = .int .i64 k ∧ validsE f.terms = validsE (f.terms.drop k)
set_option maxRecDepth 8000 in
set_option maxHeartbeats 4000000 in
theorem fact58 (f : Fa) (hs : smallF f.terms) (hl : f.terms.length < 4000000) : CallP C 58 [encFa f] = some (.int .i64 (factE f)) := by
  refine CallP_W rfl Tryz.func58 rfl (by kernel_rfl) (by simp [Tryz.f58]) fun R hR => ?_
  have fin : ∀ (st : PT) (h : H) (e : Int), st.get 2 = .int .i64 e → factE f = e → R .ret st h := fun st h e h2 he => hR _ _ _ (.inr rfl) ⟨.int .i64 e, by simp [resultV, resV, Tryz.f58, h2], by rw [he]; exact snap_dat rfl rfl⟩
  have m0 : ([.cells (faC f) .live] : H)[0]? = some (.cells (faC f) .live) := rfl
  have k0 := ld3f0 m0
  have k1 := ld3f1 m0
  have k2 := ld23f m0
  have hln := len23t f.terms
  by_cases e1 : f.kind = 1
  · simp +contextual [go_sem, box35, k0, k1, k2, hln, e1]
    refine Ife_iff.2 ⟨fun h1 => ?_, fun h1 => ?_⟩
    · simp [go_sem]
      exact fin _ _ 1 (by simp [go_sem]) (by unfold factE; rw [if_pos (.inr ⟨e1, h1.imp (fun e h => e (by omega)) id⟩)])
    have n1 : f.terms.length = 1 ∧ f.goal = 0 := by
      constructor
      · exact Decidable.byContradiction fun e => h1 (.inl (by omega))
      · exact Decidable.byContradiction fun e => h1 (.inr e)
    have he : factE f = validsE f.terms := by
      unfold factE
      rw [if_neg (by rintro (⟨a, _⟩ | ⟨_, b⟩); exact a e1; omega), if_neg (by omega), if_neg (by omega), if_neg (by omega)]
    revert he
    intro he
    simp [go_sem, k2, hln]
    refine W_loop (NI58 f) f.terms.length ⟨0, rfl, Nat.zero_le _, by simp [go_sem], by simp [go_sem], by simp [go_sem], rfl⟩ ?_
    rintro n st h ⟨k, rfl, hk, g42, g43, g44, hd⟩
    by_cases hlt : k < f.terms.length
    · have hlt' : (k : Int) < f.terms.length := by omega
      have hix := idx23t f.terms k hlt
      have c111 := call111 f.terms[k] (hs _ (List.getElem_mem hlt))
      have e4 := st25z f.terms[k] h
      have e5 := ldb25z f.terms[k] h
      have w2 : IntKind.i64.wrap ((k : Int) + 1) = ((k + 1 : Nat) : Int) := by rw [wrap_in (by omega)]; omega
      rw [List.drop_eq_getElem_cons hlt, validsE] at hd
      by_cases hz : validE f.terms[k] = 0
      · simp [go_sem, g42, g43, g44, hlt', hix, ld25, e4, e5, c111, hz, -Int.natCast_add, w2]
        exact ⟨f.terms.length - (k + 1), by omega, k + 1, rfl, hlt, by simp [go_sem, g42], by simp [go_sem, g43], by simp [go_sem], by rw [hd, if_neg (by simpa using hz)]⟩
      · simp [go_sem, g42, g43, g44, hlt', hix, ld25, e4, e5, c111, hz]
        exact fin _ _ (validE f.terms[k]) (by simp [go_sem]) (by rw [he, hd, if_pos hz])
    · have : k = f.terms.length := by omega
      subst this
      rw [List.drop_length, validsE] at hd
      simp [go_sem, g43, g44]
      exact fin _ _ 0 (by simp [go_sem]) (by rw [he, hd])
  by_cases e2 : f.kind = 2 ∨ f.kind = 3
  · have n1 : ¬((f.kind ≠ 1 ∧ f.kind ≠ 2 ∧ f.kind ≠ 3) ∨ f.kind = 1 ∧ (f.terms.length ≠ 1 ∨ f.goal ≠ 0)) := by
      rintro (⟨a, b, c⟩ | ⟨a, b⟩)
      · rcases e2 with e | e
        · exact b e
        · exact c e
      · exact e1 a
    rcases e2 with e2 | e2
    all_goals
      simp +contextual [go_sem, box35, k0, k1, e2]
      refine Ife_iff.2 ⟨fun h2 => ?_, fun h2 => ?_⟩
      · simp [go_sem]
        exact fin _ _ 7 (by simp [go_sem]) (by unfold factE; rw [if_neg n1, if_pos h2])
      simp +contextual [go_sem, k2, hln]
      refine Ife_iff.2 ⟨fun h3 => ?_, fun h3 => ?_⟩
      · simp [go_sem]
        exact fin _ _ 8 (by simp [go_sem]) (by unfold factE; rw [if_neg n1, if_neg h2, if_pos (by simpa using h3)])
      simp +contextual [go_sem, k2, hln]
      refine Ife_iff.2 ⟨fun h4 => ?_, fun h4 => ?_⟩
      · simp [go_sem]
        exact fin _ _ 3 (by simp [go_sem]) (by unfold factE; rw [if_neg n1, if_neg h2, if_neg (by simpa using h3), if_pos (by omega)])
      have he : factE f = validsE f.terms := by unfold factE; rw [if_neg n1, if_neg h2, if_neg (by simpa using h3), if_neg (by omega)]
      simp [go_sem, k2, hln]
      refine W_loop (NI58 f) f.terms.length ⟨0, rfl, Nat.zero_le _, by simp [go_sem], by simp [go_sem], by simp [go_sem], rfl⟩ ?_
      rintro n st h ⟨k, rfl, hk, g42, g43, g44, hd⟩
      by_cases hlt : k < f.terms.length
      · have hlt' : (k : Int) < f.terms.length := by omega
        have hix := idx23t f.terms k hlt
        have c111 := call111 f.terms[k] (hs _ (List.getElem_mem hlt))
        have e4 := st25z f.terms[k] h
        have e5 := ldb25z f.terms[k] h
        have w2 : IntKind.i64.wrap ((k : Int) + 1) = ((k + 1 : Nat) : Int) := by rw [wrap_in (by omega)]; omega
        rw [List.drop_eq_getElem_cons hlt, validsE] at hd
        by_cases hz : validE f.terms[k] = 0
        · simp [go_sem, g42, g43, g44, hlt', hix, ld25, e4, e5, c111, hz, -Int.natCast_add, w2]
          exact ⟨f.terms.length - (k + 1), by omega, k + 1, rfl, hlt, by simp [go_sem, g42], by simp [go_sem, g43], by simp [go_sem], by rw [hd, if_neg (by simpa using hz)]⟩
        · simp [go_sem, g42, g43, g44, hlt', hix, ld25, e4, e5, c111, hz]
          exact fin _ _ (validE f.terms[k]) (by simp [go_sem]) (by rw [he, hd, if_pos hz])
      · have : k = f.terms.length := by omega
        subst this
        rw [List.drop_length, validsE] at hd
        simp [go_sem, g43, g44]
        exact fin _ _ 0 (by simp [go_sem]) (by rw [he, hd])

  · simp +contextual [go_sem, initS, box35, k0, e1, show f.kind ≠ 2 from fun e => e2 (.inl e), show f.kind ≠ 3 from fun e => e2 (.inr e)]
    exact fin _ _ 1 (by simp [go_sem]) (by unfold factE; rw [if_pos (.inl ⟨e1, fun e => e2 (.inl e), fun e => e2 (.inr e)⟩)])
theorem call58 (f : Fa) (hs : smallF f.terms) (hl : f.terms.length < 4000000) (h : H) : callV C h (.func 58 []) (some [encFa f]) = some (.int .i64 (factE f), h) := callV_strip (by kernel_rfl) rfl (dat_fa f) (by simp [short_fa]) (by simp) (fact58 f hs hl)
end Go.VZ

/- Clauses: their form; the copy of a row of facts; the facts of a clause; whether it is valid, both ways. -/
namespace Go.VZ
open Go Go.V Go.Proofs TL
structure Cl where
  body : List Fa
  head : Fa
def factsV (l : List Fa) : AV := .isl (l.map encFa) .unk
def clC (c : Cl) : List AV := factsV c.body :: faC c.head
def encCl (c : Cl) : AV := .agg (clC c)
def cellsF (l : List Fa) : List AV := l.flatMap faC
theorem cellsF_cons (a : Fa) (l : List Fa) : cellsF (a :: l) = [.int .i64 a.kind, .int .i64 a.goal, terms a.terms] ++ cellsF l := rfl
theorem cellsF_len (l : List Fa) : (cellsF l).length = 3 * l.length := by
  induction l with
  | nil => rfl
  | cons a l ih => rw [cellsF_cons, List.length_append, ih]; simp; omega
theorem dats_cellsF (l : List Fa) : dats (cellsF l) = some (cellsF l) := by
  induction l with
  | nil => rfl
  | cons a l ih => rw [cellsF_cons]; exact dats_append rfl ih
theorem short_cellsF (l : List Fa) : (cellsF l).all short = true := by
  induction l with
  | nil => rfl
  | cons a l ih => rw [cellsF_cons, List.all_append, ih]; rfl
theorem u33 : C.P.underlying 33 = some (.slice 35) := Tryz.underlying33
theorem s33 : sizeV C.P 33 = some 1 := by kernel_rfl
theorem a33 : isAggB C.P 33 = some false := by kernel_rfl
theorem s37 : sizeV C.P 37 = some 4 := by kernel_rfl
theorem a37 : isAggB C.P 37 = some true := by kernel_rfl
theorem b35 : bytesV C.P 35 = some 40 := by kernel_rfl
theorem z35 : zeroOk C.P 35 = true := by kernel_rfl
theorem szOk_encFa (l : List Fa) : szOk 3 (l.map encFa) = true := by cases l <;> simp [szOk, encFa, faC, cells_agg]
theorem is33 : isSliceT C.P 33 = some 35 := by kernel_rfl
attribute [go_sem] is33
theorem len33 (es : List AV) (x : Ext) : lenV C.P 33 (.isl es x) = some (.int .i64 es.length) := by simp [lenV, u33]
theorem len33f (l : List Fa) : lenV C.P 33 (factsV l) = some (.int .i64 l.length) := by simp [factsV, len33]
theorem len33m (id n : Nat) : lenV C.P 33 (.msl id 0 3 n none) = some (.int .i64 n) := by simp [lenV, u33]
theorem idx33 (l : List Fa) (k : Nat) (hk : k < l.length) (x : Ext) : indexAddrV C.P 33 (.isl (l.map encFa) x) (.int .i64 k) = some (.iptr (encFa l[k]) 0) := by
  simp [indexAddrV, u33, s35, encFa, faC, cells_agg, hk]
theorem ld35i (f : Fa) (h : H) : loadV C.P h 35 (.iptr (encFa f) 0) = some (encFa f) := by simp [loadV, cellsAt, a35, s35, encFa, faC, cells_agg]
theorem fa37_0 (i : Nat) : fieldAddrV C.P 37 (.ptr i 0) 0 = some (.ptr i 0) := by kernel_rfl
theorem fa37_1 (i : Nat) : fieldAddrV C.P 37 (.ptr i 0) 1 = some (.ptr i 1) := by kernel_rfl
attribute [go_sem] fa37_0 fa37_1
theorem box37 (c : Cl) (h : H) : boxV C.P h 37 (encCl c) = some (.ptr h.length 0, h ++ [.cells (clC c) .live]) := by
  simp [boxV, encCl, s37, clC, faC, notTuple, cells_agg]
theorem ld33c {h : H} {i : Nat} {c : Cl} (hi : h[i]? = some (.cells (clC c) .live)) : loadV C.P h 33 (.ptr i 0) = some (factsV c.body) := by simp [loadV, hi, cellsAt, a33, s33, clC, factsV]
theorem ld35c {h : H} {i : Nat} {c : Cl} (hi : h[i]? = some (.cells (clC c) .live)) : loadV C.P h 35 (.ptr i 1) = some (encFa c.head) := by simp [loadV, hi, cellsAt, a35, s35, clC, encFa, faC]
theorem ld37c {h : H} {i : Nat} {c : Cl} (hi : h[i]? = some (.cells (clC c) .live)) : loadV C.P h 37 (.ptr i 0) = some (encCl c) := by simp [loadV, hi, cellsAt, a37, s37, clC, encCl, faC]
theorem dat_cl (c : Cl) : dats [encCl c] = some [encCl c] := rfl
theorem short_cl (c : Cl) : short (encCl c) = true := rfl
def RowF (h : H) (v : AV) (l : List Fa) : Prop := (l = [] ∧ v = .isl [] .full) ∨ ∃ id, v = .msl id 0 3 l.length none ∧ h[id]? = some (.cells (cellsF l) .live)
set_option maxHeartbeats 1000000 in
theorem clone96 (a : Fa) (l : List Fa) (hl : (a :: l).length ≤ 10000) : Go.V.Call C 96 [factsV (a :: l)] [] = some (.msl 0 0 3 (a :: l).length none, [.cells (cellsF (a :: l)) .live]) := by
  refine Call_W rfl Tryz.func96 rfl (by kernel_rfl) (by simp [Tryz.f96]) fun R hR => ?_
  have hsz := szOk_encFa (a :: l)
  have e1 : binV C.P .eql 33 (.tmp 3) (.const (.slice none 0 0)) (factsV (a :: l)) (.isl [] .full) = some (.bool false) := by
    simp [binV, factsV, toVal, toScalar, nilCmpV, sureV, isNil, isSl, u33, eqSign]
  have e2 : buildSliceV C.P [] 33 0 [] = some (.isl [] .full, []) := buildSlice_dats u33 s35 z35 rfl (by omega) rfl rfl rfl (by simp) rfl
  have e3 : appendW C.P true [] 33 (.isl [] .full) (factsV (a :: l)) = some (.msl 0 0 3 (a :: l).length none, [.cells (cellsF (a :: l)) .live]) := by
    have e4 : srcV [] 3 (.isl ((a :: l).map encFa) .unk) = some (cellsF (a :: l), (a :: l).length) := by
      simp only [srcV, hsz, if_true, cellsF, List.flatMap_map, List.length_map, encFa, cells_agg]
    simp only [appendW, knownCap, Bool.not_true, if_false, Bool.false_eq_true, appendN, u33, s35, b35, z35, factsV, e4]
    have h0 : 0 < (a :: l).length := by simp
    generalize (a :: l).length = m at hl h0
    have h1 : ¬ m = 0 := by omega
    have h2 : m * 41 ≤ 35184372088832 := by omega
    simp [szOk, h1, h2]
  simp [go_sem, initS, e1, e2, e3]
  refine hR _ _ _ (.inr rfl) ⟨.msl 0 0 3 (a :: l).length none, by simp [resultV, resV, Tryz.f96, go_sem], rfl⟩
theorem callV_ownM3 {f : FuncId} {h : H} {args args' : List AV} (hb : hasBody C.P f = true) (hm : C.mode f = .ownM) (hd : dats args = some args') (hs : args.all short = true) (hl : args.length < 90000)
    {id len sz : Nat} {h1 : H} {cs : List AV} (hsz : 1 < sz) (hc : Go.V.Call C f args' [] = some (.msl id 0 sz len none, h1)) (hid : h1[id]? = some (.cells cs .live)) (hcs : dats cs = some cs) (hsh : cs.all short = true) (hcl : cs.length ≤ 90000) (hlen : len * sz ≤ cs.length) :
    callV C h (.func f []) (some args) = some (.msl h.length 0 sz len none, h ++ [.cells cs .live]) := by
  obtain ⟨e1, e2⟩ := dats_snap (h := h) hd hs deep (by unfold deep; omega)
  simp only [callV, hb, if_true, List.append_nil]
  unfold applyCall
  rw [hm]
  dsimp only
  rw [e2]
  simp only [Go.V.freeze, e1]
  rw [hc]
  dsimp only
  unfold finishV
  dsimp only
  have f1 := (dats_snap (h := freezeBut h1 id) hcs hsh deep (by unfold deep; omega)).1
  have f2 : adoptR C.P .ownM h1 h (.msl id 0 sz len none) = none := by
    simp only [adoptR, adopt, hid]
    rw [if_neg (by omega)]
  rw [f2]
  simp only [adoptD, adoptM, hid, f1]
  rw [if_pos ⟨by omega, by omega⟩]
theorem call96 (l : List Fa) (h : H) (hl : l.length ≤ 10000) : ∃ v h', callV C h (.func 96 []) (some [factsV l]) = some (v, h') ∧ RowF h' v l ∧ Keep h h' none := by
  cases l with
  | nil =>
    refine ⟨.isl [] .full, h, ?_, .inl ⟨rfl, rfl⟩, .refl _ _⟩
    have e1 := (dats_snap (h := h) (l := [factsV []]) (l' := [.isl [] .unk]) rfl rfl deep (by simp [deep]))
    have hbd : hasBody C.P 96 = true := by kernel_rfl
    simp only [callV, hbd, if_true, List.append_nil]
    unfold applyCall
    rw [show C.mode 96 = .ownM from rfl]
    dsimp only
    rw [e1.2]
    simp only [Go.V.freeze, e1.1]
    have hp : C.prim 96 [.isl [] .unk] [] = some (.isl [] .full, []) := by kernel_rfl
    have hq : Go.V.Call C 96 [.isl [] .unk] [] = some (.isl [] .full, []) := Call_prim (C := C) (fn := Tryz.f96) Tryz.func96 hp
    rw [hq]
    rfl
  | cons a l =>
    refine ⟨.msl h.length 0 3 (a :: l).length none, h ++ [.cells (cellsF (a :: l)) .live], ?_, .inr ⟨_, rfl, by simp⟩, .append _ _ _⟩
    have hcl := cellsF_len (a :: l)
    exact callV_ownM3 (by kernel_rfl) rfl (args' := [factsV (a :: l)]) rfl rfl (by simp) (by omega) (clone96 a l hl) rfl (dats_cellsF _) (short_cellsF _) (by omega) (by omega)
/-- A fact behind a row of facts of one's own. -/
theorem appendF {h : H} {v : AV} {l : List Fa} (f : Fa) (r : RowF h v l) (hl : l.length ≤ 10000) : ∃ id h', appendW C.P true h 33 v (.isl [encFa f] .full) = some (.msl id 0 3 (l.length + 1) none, h') ∧ h'[id]? = some (.cells (cellsF (l ++ [f])) .live) ∧ Keep h h' (idOf v) := by
  have hsz := szOk_encFa [f]
  have e4 : srcV h 3 (.isl [encFa f] .full) = some (faC f, 1) := by
    simp only [List.map_cons, List.map_nil] at hsz
    simp only [srcV, hsz, if_true]; simp [encFa, cells_agg]
  have hcf : cellsF (l ++ [f]) = cellsF l ++ faC f := by simp [cellsF]
  rcases r with ⟨rfl, rfl⟩ | ⟨id, rfl, hid⟩
  · refine ⟨h.length, h ++ [.cells (faC f) .live], ?_, by rw [hcf]; simp [cellsF], .append _ _ _⟩
    simp only [appendW, knownCap, Bool.not_true, if_false, Bool.false_eq_true, appendN, u33, s35, b35, z35, e4]
    simp [szOk]
  · have hcl := cellsF_len l
    refine ⟨h.length, h.set id (.cells (cellsF l) .dead) ++ [.cells (cellsF l ++ faC f) .live], ?_, by rw [hcf, List.getElem?_append_right (by simp)]; simp, ?_⟩
    · simp only [appendW, knownCap, Bool.not_true, if_false, Bool.false_eq_true, appendN, u33, s35, b35, z35, e4, hid]
      rw [if_neg (by simp)]
      rw [if_neg (by simp), if_pos ⟨trivial, trivial, by omega, by omega⟩, List.take_of_length_le (by omega)]
    · exact ⟨by simp, fun j hj hn => by rw [List.getElem?_append_left (by simpa using hj), List.getElem?_set_ne (fun e => hn (by simp [idOf, e]))]⟩
theorem build33_1 (h : H) (f : Fa) : buildSliceV C.P h 33 1 [(0, encFa f)] = some (.isl [encFa f] .full, h) := buildSlice_dats u33 s35 z35 rfl (by omega) rfl rfl rfl (by simp) rfl
theorem chunk_cellsF : ∀ l : List Fa, chunk 3 l.length (cellsF l) = l.map encFa
  | [] => rfl
  | a :: l => by
    have := chunk_cellsF l
    rw [cellsF_cons]
    simp only [List.length_cons, chunk, List.cons_append, List.nil_append, List.take_succ_cons, List.take_zero, List.drop_succ_cons, List.drop_zero, List.map_cons, this, encFa, faC]
theorem freezeAll_live {cs : List AV} : ∀ (h : H) (i : Nat), h[i]? = some (.cells cs .live) → (freezeAll h)[i]? = some (.cells cs .frozen)
  | [], i, e => by cases e
  | o :: r, 0, e => by
    have : o = .cells cs .live := by simpa using e
    subst this; rfl
  | o :: r, i + 1, e => by
    have e2 : r[i]? = some (.cells cs .live) := by simpa using e
    have := freezeAll_live r i e2
    cases o with
    | cells c st => cases st <;> simpa [freezeAll] using this
    | _ => simpa [freezeAll] using this
/-- What a row of facts of one's own holds. -/
theorem snap_rowF {h : H} {id : Nat} {l : List Fa} (hid : h[id]? = some (.cells (cellsF l) .live)) (hl : l.length ≤ 20000) : snap (freezeAll h) deep (.msl id 0 3 l.length none) = some (factsV l) := by
  have hcl := cellsF_len l
  obtain ⟨e3, _⟩ := dats_snap (h := freezeAll h) (dats_cellsF l) (short_cellsF l) 999999 (by omega)
  have hz : (freezeAll h)[id]? = some (.cells (cellsF l) .frozen) := freezeAll_live h id hid
  have : deep = 999999 + 1 := rfl
  rw [this]
  simp only [snap, hz, e3]
  rw [if_pos (by omega), List.drop_zero, chunk_cellsF]; rfl
def factsOf (c : Cl) : List Fa := c.body ++ [c.head]
end Go.VZ

/- A mixed region, walked by its value. -/
namespace Go.VZ
open Go Go.V Go.Proofs TL
theorem W_regionM {C : Cfg} {cf : FuncId} {R : Ex → PT → H → Prop} {k : List It} {s s' : PT} {h h' : H} (id : Nat) (ops : Array Oper) (hm : C.mix cf id = true) (hx : mixV C (Go.V.Call C) cf ops s h = some (s', h')) (hk : N C cf R k s' h') : W C cf R (.region id ops true) k s h :=
  ⟨.normal, s', h', by rw [Exe_mix id ops hm, hx], hk⟩
end Go.VZ

/- Mixed regions, walked operation by operation. -/
namespace Go.V
open Go
/-- A mixed region from operation i on. -/
def MX (C : Cfg) (cf : FuncId) (ops : Array Oper) (base : Nat) (K : PT → H → List FP → Prop) : Nat → List Oper → PT → H → List FP → Prop
  | _, [], s, h, F => K s h F
  | i, o :: l, s, h, F => ∃ v h2 f, mixStep C (Call C) cf ops base i o s h = some (v, h2, f) ∧ MX C cf ops base K (i + 1) l (putV s o.dst v) h2 (F ++ [f])
theorem MX_to {C : Cfg} {cf : FuncId} {ops : Array Oper} {base : Nat} {K : PT → H → List FP → Prop} {s0 : PT} {h0 : H} : ∀ (l : List Oper) (i : Nat) (s : PT) (h : H) (F : List FP), i + l.length = ops.size → ops.toList.drop i = l →
    mixTo C (Call C) cf ops base i s0 h0 = some (s, h, F) → MX C cf ops base K i l s h F → ∃ s' h' F', mixTo C (Call C) cf ops base ops.size s0 h0 = some (s', h', F') ∧ K s' h' F'
  | [], i, s, h, F, hi, _, hs, hm => ⟨s, h, F, by rw [← hi]; exact hs, hm⟩
  | o :: l, i, s, h, F, hi, hd, hs, ⟨v, h2, f, e, hm⟩ => by
    have hlt : i < ops.size := by simp only [List.length_cons] at hi; omega
    have ho : ops[i]? = some o := by
      have := congrArg (fun l => l[0]?) hd
      simpa using this
    refine MX_to l (i + 1) _ _ _ (by simp only [List.length_cons] at hi; omega) (by rw [← List.tail_drop, hd]; rfl) ?_ hm
    simp only [mixTo, hs, ho, e]
def lids : AV → List Nat
  | .ptr id _ => [id]
  | _ => []
section
variable {C : Cfg} {cf : FuncId} {ops : Array Oper} {base : Nat} {K : PT → H → List FP → Prop} {i : Nat} {l : List Oper} {s : PT} {h : H} {F : List FP}
theorem foot_pure {o : Oper} (ha : active o = false) (hl : isLoad o = false) : foot C s h o = some ([], false) := by
  unfold foot
  rw [if_neg (by rw [ha]; simp)]
  unfold isLoad at hl
  split
  · rename_i e; rw [e] at hl; cases hl
  · rfl
theorem MX_pure0 {o : Oper} (v : AV) (hg : o.guard = none) (ha : active o = false) (hl : isLoad o = false) (hp : isVoid h[base + i]? = true) (hv : opN C.P s o = some v) (hm : v.mv h.length (base + i) = v)
    (hk : MX C cf ops base K (i + 1) l (putV s o.dst v) h (F ++ [([], [])])) : MX C cf ops base K i (o :: l) s h F := by
  refine ⟨v, h, ([], []), ?_, hk⟩
  unfold mixStep
  rw [if_pos (by simp [Region.wanted, hg]), foot_pure ha hl, opV_pure ha hl, hv]
  dsimp only
  rw [if_pos ⟨by omega, rfl, hp⟩, hm]
  rfl
theorem MX_pure {d : Tmp} {op : Op} {ty : TypeId} {p : String} {af : Array Edge} (v : AV) (ha : active ⟨some d, op, ty, p, af, none⟩ = false) (hl : isLoad ⟨some d, op, ty, p, af, none⟩ = false) (hp : isVoid h[base + i]? = true) (hv : opN C.P s ⟨some d, op, ty, p, af, none⟩ = some v) (hm : v.mv h.length (base + i) = v)
    (hk : MX C cf ops base K (i + 1) l (s.set d v) h (F ++ [([], [])])) : MX C cf ops base K i (⟨some d, op, ty, p, af, none⟩ :: l) s h F := MX_pure0 v rfl ha hl hp hv hm hk
theorem MX_load {d : Tmp} {t ty : TypeId} {x : Operand} {p : String} {af : Array Edge} (a v : AV) (hx : ev s x = some a) (hv : loadV C.P h t a = some v) (hn : (lids a).contains (base + i) = false) (hp : isVoid h[base + i]? = true) (hm : v.mv h.length (base + i) = v)
    (hk : MX C cf ops base K (i + 1) l (s.set d v) h (F ++ [(lids a, [])])) : MX C cf ops base K i (⟨some d, .load t x, ty, p, af, none⟩ :: l) s h F := by
  refine ⟨v, h, (lids a, []), ?_, hk⟩
  have hf : foot C s h ⟨some d, .load t x, ty, p, af, none⟩ = some (lids a, false) := by
    simp only [foot, active, Bool.false_eq_true, if_false, hx]
    cases a <;> rfl
  unfold mixStep
  rw [if_pos (by simp [Region.wanted]), hf, opV_load rfl]
  simp only [hx, hv]
  rw [if_pos ⟨by omega, hn, hp⟩, hm]
  rfl
theorem fin_none (p : Nat) (h : H) : fin p [] h h = h := by
  apply List.ext_getElem?
  intro j
  rw [fin_get]
  simp
theorem fin_push {p : Nat} {h : H} {y : VObj} (hp : p < h.length) : fin p [] h (h ++ [y]) = h.set p (y.mv h.length p) := by
  apply List.ext_getElem?
  intro j
  rw [fin_get, List.getElem?_set]
  by_cases e : p = j
  · subst e; simp [hp]
  · simp [e, show ¬ j = p from fun h => e h.symm]
theorem fin_store {p id : Nat} {h : H} {z : VObj} (hp : id ≠ p) : fin p [id] h (h.set id z) = h.set id (z.mv h.length p) := by
  apply List.ext_getElem?
  intro j
  rw [fin_get]
  by_cases e : id = j
  · subst e
    by_cases hl : id < h.length
    · simp [hl, hp]
    · simp [hl]
  · by_cases e2 : j = p
    · subst e2
      have e3 : (h.set id z)[h.length]? = none := by simp
      rw [e3, List.getElem?_set_ne e (a := z.mv h.length j)]
      simp
    · simp [e, e2, show ¬ j = id from fun h => e h.symm]
theorem isVoid_lt {h : H} {p : Nat} (hp : isVoid h[p]? = true) : p < h.length := by
  cases e : h[p]? with
  | none => rw [e] at hp; cases hp
  | some x => exact (List.getElem?_eq_some_iff.1 e).1
theorem MX_call {d : Tmp} {ty : TypeId} {p : String} {af : Array Edge} {f : FuncId} {args : List Operand} {at_ : Array TypeId} (al : List AV) (v : AV) (hb : hasBody C.P f = true) (hmd : C.mode f = .strip) (hx : evs s args = some al) (hr : reachs h deep al = [])
    (hc : callV C h (.func f []) (some al) = some (v, h)) (hp : isVoid h[base + i]? = true) (hm : v.mv h.length (base + i) = v)
    (hk : MX C cf ops base K (i + 1) l (s.set d v) h (F ++ [([base + i], [base + i])])) : MX C cf ops base K i (⟨some d, .call { callee := .value (.func f), args := args.toArray, argTypes := at_ }, ty, p, af, none⟩ :: l) s h F := by
  refine ⟨v, h, ([base + i], [base + i]), ?_, hk⟩
  have hf : foot C s h ⟨some d, .call { callee := .value (.func f), args := args.toArray, argTypes := at_ }, ty, p, af, none⟩ = some ([], true) := by
    simp only [foot, active, if_true, hx, ev, hb, hmd, List.append_nil, hr]
  have ho : opV C (Call C) cf s h ⟨some d, .call { callee := .value (.func f), args := args.toArray, argTypes := at_ }, ty, p, af, none⟩ = some (v, h) := by
    rw [opV_active rfl, ← hc]
    simp only [opA, hx, ev, callV]
  unfold mixStep
  rw [if_pos (by simp [Region.wanted]), hf, ho]
  dsimp only
  rw [if_pos ⟨by omega, rfl, hp⟩, hm, if_pos rfl, if_pos rfl, fin_none]
theorem MX_push0 {o : Oper} (v : AV) (y : VObj) (hg : o.guard = none) (hf : foot C s h o = some ([], true)) (ho : opV C (Call C) cf s h o = some (v, h ++ [y])) (hp : isVoid h[base + i]? = true)
    (hk : MX C cf ops base K (i + 1) l (putV s o.dst (v.mv h.length (base + i))) (h.set (base + i) (y.mv h.length (base + i))) (F ++ [([base + i], [base + i])])) : MX C cf ops base K i (o :: l) s h F := by
  refine ⟨v.mv h.length (base + i), h.set (base + i) (y.mv h.length (base + i)), ([base + i], [base + i]), ?_, hk⟩
  unfold mixStep
  rw [if_pos (by simp [Region.wanted, hg]), hf, ho]
  dsimp only
  rw [if_pos ⟨by simp, rfl, hp⟩, if_pos rfl, if_pos rfl, fin_push (isVoid_lt hp)]
theorem MX_alloc {d : Tmp} {t ty : TypeId} {p : String} {af : Array Edge} (z : AV) (hz : zeroV C.P t = some z) (hp : isVoid h[base + i]? = true)
    (hk : MX C cf ops base K (i + 1) l (s.set d (.ptr (base + i) 0)) (h.set (base + i) ((VObj.cells z.cells .live).mv h.length (base + i))) (F ++ [([base + i], [base + i])])) : MX C cf ops base K i (⟨some d, .alloc t, ty, p, af, none⟩ :: l) s h F := by
  refine MX_push0 (.ptr h.length 0) (.cells z.cells .live) rfl rfl ?_ hp ?_
  · rw [opV_active rfl]; simp only [opA, hz]
  · have : (AV.ptr h.length 0).mv h.length (base + i) = .ptr (base + i) 0 := by simp [AV.mv]
    rw [this]; exact hk
theorem MX_store {t ty : TypeId} {a x : Operand} {p : String} {af : Array Edge} (id off : Nat) (v : AV) (z : VObj) (hx : ev s a = some (.ptr id off)) (hv : ev s x = some v) (hs : storeV C.P h t (.ptr id off) v = some (h.set id z)) (hn : id ≠ base + i) (hp : isVoid h[base + i]? = true)
    (hk : MX C cf ops base K (i + 1) l (s) (h.set id (z.mv h.length (base + i))) (F ++ [([base + i, id], [base + i, id])])) : MX C cf ops base K i (⟨none, .store t a x, ty, p, af, none⟩ :: l) s h F := by
  refine ⟨AV.undef, h.set id (z.mv h.length (base + i)), ([base + i, id], [base + i, id]), ?_, hk⟩
  have hf : foot C s h ⟨none, .store t a x, ty, p, af, none⟩ = some ([id], true) := by simp only [foot, active, if_true, hx]
  have ho : opV C (Call C) cf s h ⟨none, .store t a x, ty, p, af, none⟩ = some (AV.undef, h.set id z) := by
    rw [opV_active rfl]
    simp only [opA, hx, hv, hs]
  unfold mixStep
  rw [if_pos (by simp [Region.wanted]), hf, ho]
  dsimp only
  rw [if_pos ⟨by simp, by simpa using fun e => hn e.symm, hp⟩, if_pos rfl, if_pos rfl, fin_store hn]
  rfl
end
end Go.V
namespace Go.VZ
open Go Go.V Go.Proofs TL
theorem W_mixed {C : Cfg} {cf : FuncId} {R : Ex → PT → H → Prop} {k : List It} {s : PT} {h : H} (id : Nat) (ops : Array Oper) (hm : C.mix cf id = true) (ht : tmpOk ops = true)
    (hx : MX C cf ops h.length (fun s' h' F => fpOk ops F = true ∧ N C cf R k s' h') 0 ops.toList s (h ++ List.replicate ops.size .void) []) : W C cf R (.region id ops true) k s h := by
  obtain ⟨s', h', F, e, hf, hk⟩ := MX_to ops.toList 0 s _ [] (by simp) rfl rfl hx
  exact W_regionM id ops hm (by simp only [mixV, ht, if_true, e, hf]) hk
end Go.VZ

/- The mixed region of the document's Covered: one term with the bindings put. -/
namespace Go.VZ
open Go Go.V Go.Proofs TL
theorem mv_enc (i k : Nat) (t : T) : (enc t).mv i k = enc t := by
  cases t; simp only [enc, AV.mv, AV.mvs]
theorem mv_zero (i k : Nat) : VObj.mv i k (.cells [.int .i64 0, .str ⟨#[]⟩, .int .i64 0, .isl [] .full] .live) = .cells [.int .i64 0, .str ⟨#[]⟩, .int .i64 0, .isl [] .full] .live := rfl
theorem mv_cellsT (i k : Nat) (t : T) : VObj.mv i k (.cells (enc t).cells .live) = .cells (enc t).cells .live := by rw [enc_cells]; rfl
/-- The memory of a mixed region: old objects, and places. -/
structure Pl (h H0 : H) (n : Nat) : Prop where
  len : H0.length = h.length + n
  old : ∀ j, j < h.length → H0[j]? = h[j]?
  void : ∀ i, i < n → H0[h.length + i]? = some .void
theorem Pl.mk' (h : H) (n : Nat) : Pl h (h ++ List.replicate n .void) n := ⟨by simp, fun j hj => List.getElem?_append_left hj, fun i hi => by rw [List.getElem?_append_right (by omega)]; simp [hi]⟩
theorem Pl.isV {h H0 : H} {n : Nat} (p : Pl h H0 n) {i : Nat} (hi : i < n) : isVoid H0[h.length + i]? = true := by rw [p.void i hi]; rfl
theorem Pl.get {h H0 : H} {n : Nat} (p : Pl h H0 n) {j : Nat} {o : VObj} (hj : h[j]? = some o) : H0[j]? = some o := by rw [p.old j (List.getElem?_eq_some_iff.1 hj).1]; exact hj
theorem ptr_mv {i j o n k : Nat} (h : i < j) (hn : j ≤ n) : (AV.ptr i o).mv n k = .ptr i o := by simp [AV.mv]; omega
theorem isV_set {H0 : H} {a b : Nat} {y : VObj} (hb : isVoid H0[b]? = true) (h : a ≠ b) : isVoid (H0.set a y)[b]? = true := by rw [List.getElem?_set_ne h]; exact hb
theorem ldn25 {h : H} {i : Nat} (t : T) (hi : h[i]? = some (.cells (enc t).cells .live)) : loadV C.P h 25 (.ptr i 0) = some (enc t) := by
  rw [enc_cells] at hi
  simp [loadV, hi, cellsAt, a25, s25]; rw [enc_eq]
theorem lids_no {i o k : Nat} (h : i ≠ k) : (lids (.ptr i o)).contains k = false := by simpa [lids] using fun e => h e.symm
end Go.VZ
