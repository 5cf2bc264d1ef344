/- Apply, both ways. -/
import Derived.Test.YtdoegkegjaadeaaGreatDoorESc
namespace Go.VZ
open Go Go.V Go.Proofs TL
/-- No term. -/
def zT : T := .mk 0 ⟨#[]⟩ 0 []
theorem nodes_zero {t : T} (h : validE t = 0) : nodesE t = 0 ∧ t.size ≤ 400 ∧ t.depth ≤ 40 := by
  unfold validE at h
  obtain ⟨h1, h2⟩ := thn_zero.1 h
  split at h2
  · cases h2
  · exact ⟨h1, by omega, by omega⟩
theorem getB_mem : ∀ (l : List (T × T)) (t : T), getB l t = t ∨ ∃ b ∈ l, getB l t = b.2
  | [], _ => .inl rfl
  | b :: l, t => by
    rw [getB]
    split
    · exact .inr ⟨b, by simp, rfl⟩
    · rcases getB_mem l t with h | ⟨c, hc, h⟩
      · exact .inl h
      · exact .inr ⟨c, by simp [hc], h⟩
theorem putB_size (l : List (T × T)) (hl : ∀ b ∈ l, b.2.size ≤ 400) (t : T) : (putB l t).size ≤ 400 * t.size := by
  induction t using T.ind with
  | _ t ih =>
    have h0 := size_kids t
    rw [putB_eq]
    split
    · rcases getB_mem l t with h | ⟨b, hb, h⟩
      · rw [h]; omega
      · rw [h]; have := hl b hb; omega
    · rw [size_kids]
      show sizes (t.kids.map (putB l)) + 1 ≤ _
      have : ∀ m : List T, (∀ k ∈ m, (putB l k).size ≤ 400 * k.size) → sizes (m.map (putB l)) ≤ 400 * sizes m := by
        intro m
        induction m with
        | nil => intro _; simp [sizes]
        | cons a m ihm =>
          intro hm
          have h1 := hm a (by simp)
          have h2 := ihm fun k hk => hm k (by simp [hk])
          rw [List.map_cons, sizes, sizes]; omega
      have := this t.kids ih
      omega
def applyR (l : List (T × T)) (t : T) : T × Int := if subE l ≠ 0 then (zT, subE l) else if validE t ≠ 0 then (zT, validE t) else if validE (putB l t) ≠ 0 then (zT, validE (putB l t)) else (putB l t, 0)
/-- Bindings that were found in order. -/
theorem sub_good {l : List (T × T)} (h : subE l = 0) : Inc l ∧ l.length ≤ 200 ∧ ∀ b ∈ l, b.1.size ≤ 400 ∧ b.2.size ≤ 400 := by
  refine ⟨inc_of h, ?_, fun b hb => ?_⟩
  · unfold subE at h; split at h
    · cases h
    · omega
  · unfold subE at h; split at h
    · cases h
    have h1 := (subEs_adj h).1 b hb
    unfold bindE at h1
    obtain ⟨h2, h3⟩ := thn_zero.1 h1
    split at h3
    · cases h3
    obtain ⟨h4, _⟩ := thn_zero.1 h3
    exact ⟨(nodes_zero h2).2.1, (nodes_zero h4).2.1⟩
def resV2 (r : T × Int) : AV := .tuple [enc r.1, .int .i64 r.2]
/-- A result: a term in a cell, and a number. -/
theorem snap_resV2 (h : H) (t : T) (e : Int) : snap h deep (resV2 (t, e)) = some (resV2 (t, e)) := snap_tuple (by rw [enc_eq]; rfl) (by simp [short_enc, short_int]) (by simp)
theorem snap_resZ (h : H) (e : Int) : snap h deep (.tuple [.agg [.int .i64 0, .str ⟨#[]⟩, .int .i64 0, .isl [] .full], .int .i64 e]) = some (resV2 (zT, e)) := snap_tuple rfl rfl (by simp)
@[go_sem] theorem OWbuild {C : Cfg} {cf : FuncId} {ops : Array Oper} {d : Tmp} {ty : TypeId} {p : String} {af : Array Edge} {l : List Oper} {s : PT} {h : H} {K : PT → H → Prop} (t : TypeId) (parts : List (Nat × Operand)) :
    OW C cf ops (⟨some d, .build t parts.toArray, ty, p, af, none⟩ :: l) s h K ↔ bO (bi1 (partsV s parts) (buildV C.P t)) fun v => OW C cf ops l (s.set d v) h K := OWn (by simp only [opN, bi1]; cases partsV s parts <;> rfl) rfl rfl
theorem bld25 : buildV C.P 25 [] = some (.agg [.int .i64 0, .str ⟨#[]⟩, .int .i64 0, .isl [] .full]) := by kernel_rfl
theorem st25e (a b c d : AV) (y : VObj) (l : List VObj) (a' b' c' d' : AV) : storeV C.P (y :: .cells [a, b, c, d] .live :: l) 25 (.ptr 1 0) (.agg [a', b', c', d']) = some (y :: .cells [a', b', c', d'] .live :: l) := by simp [storeV, s25]
theorem st25f (t : T) (a b c d : AV) (y : VObj) (l : List VObj) : storeV C.P (y :: .cells [a, b, c, d] .live :: l) 25 (.ptr 1 0) (enc t) = some (y :: .cells (enc t).cells .live :: l) := by simp [storeV, s25, enc_cells]; rw [enc_eq]; rfl
theorem ld25e (t : T) (x y : VObj) : loadV C.P [x, y, .cells (enc t).cells .live] 25 (.ptr 2 0) = some (enc t) := ldb25z t [x, y]
set_option maxRecDepth 8000 in
set_option maxHeartbeats 4000000 in
theorem apply46 (l : List (T × T)) (t : T) (hs : small l) (hv : t.size < 4000000) (hl : l.length < 1000000) : CallP C 46 [binds l, enc t] = some (resV2 (applyR l t)) := by
  refine CallP_W rfl Tryz.func46 rfl (by kernel_rfl) (by simp [Tryz.f46]) fun R hR => ?_
  have c1 := call67 l hs
  have c2 := call86 t hv
  have c3 := call87 l t hs hv (by omega)
  have fz : ∀ (s : PT) (h : H) (e : Int), s.get 4 = .ptr 1 0 → s.get 5 = .int .i64 e → h[1]? = some (.cells zc .live) → applyR l t = (zT, e) → R .ret s h := fun s h e h4 h5 hh he => by
    refine hR _ _ _ (.inr rfl) ⟨_, ?_, (snap_resZ _ e).trans (by rw [he])⟩
    simp [resultV, resV, resVs, Tryz.f46, h4, h5, loadV, hh, cellsAt, a25, s25, zc]
  have fin : ∀ (s : PT) (h : H) (t' : T), s.get 4 = .ptr 1 0 → s.get 5 = .int .i64 0 → h[1]? = some (.cells (enc t').cells .live) → applyR l t = (t', 0) → R .ret s h := fun s h t' h4 h5 hh he => by
    refine hR _ _ _ (.inr rfl) ⟨resV2 (t', 0), ?_, (snap_resV2 _ t' 0).trans (by rw [he])⟩
    simp [resultV, resV, resVs, Tryz.f46, h4, h5, loadV, hh, cellsAt, a25, s25, enc_cells, resV2]; rw [enc_eq]
  have bx : boxV C.P [] 25 (enc t) = some (.ptr 0 0, [.cells (enc t).cells .live]) := by rw [box25, enc_cells]; rfl
  have q4 : ∀ (l : List VObj), loadV C.P (.cells (enc t).cells .live :: l) 25 (.ptr 0 0) = some (enc t) := fun l => by rw [enc_cells]; exact ld25c t l
  simp [go_sem, initS, bx, c1]
  refine Ife_iff.2 ⟨fun h1 => ?_, fun h1 => ?_⟩
  · simp [go_sem, bld25, st25e]
    exact fz _ _ (subE l) (by simp [go_sem]) (by simp [go_sem]) rfl (by unfold applyR; rw [if_pos h1])
  simp only [Decidable.not_not] at h1
  simp [go_sem, q4, c2]
  refine Ife_iff.2 ⟨fun h2 => ?_, fun h2 => ?_⟩
  · simp [go_sem, bld25, st25e]
    exact fz _ _ (validE t) (by simp [go_sem]) (by simp [go_sem]) rfl (by unfold applyR; rw [if_neg (by omega), if_pos h2])
  simp only [Decidable.not_not] at h2
  obtain ⟨hi, hl2, h4⟩ := sub_good h1
  have hps := putB_size l (fun b hb => (h4 b hb).2) t
  have := nodes_zero h2
  have c4 := call86 (putB l t) (by omega)
  simp [go_sem, q4, c3, c4, st25c, ld25e]
  refine Ife_iff.2 ⟨fun h3 => ?_, fun h3 => ?_⟩
  · simp [go_sem, bld25, st25e]
    exact fz _ _ (validE (putB l t)) (by simp [go_sem]) (by simp [go_sem]) rfl (by unfold applyR; rw [if_neg (by omega), if_neg (by omega), if_pos h3])
  simp only [Decidable.not_not] at h3
  simp [go_sem, ld25e, st25f]
  exact fin _ _ (putB l t) (by simp [go_sem]) (by simp [go_sem]) (by simp) (by unfold applyR; rw [if_neg (by omega), if_neg (by omega), if_neg (by omega)])
theorem call46 (l : List (T × T)) (t : T) (hs : small l) (hv : t.size < 4000000) (hl : l.length < 1000000) (h : H) : callV C h (.func 46 []) (some [binds l, enc t]) = some (resV2 (applyR l t), h) := callV_strip (by kernel_rfl) rfl (dat_binds2 _ _) (by simp [short_binds, short_enc]) (by simp) (apply46 l t hs hv hl)
/-- The same, where the bindings are good. -/
def applyT (l : List (T × T)) (t : T) : T × Int := if validE t ≠ 0 then (zT, validE t) else if validE (putB l t) ≠ 0 then (zT, validE (putB l t)) else (putB l t, 0)
set_option maxRecDepth 8000 in
set_option maxHeartbeats 4000000 in
theorem apply141 (l : List (T × T)) (t : T) (h1 : subE l = 0) (hv : t.size < 4000000) : CallP C 141 [binds l, enc t] = some (resV2 (applyT l t)) := by
  refine CallP_W rfl Tryz.func141 rfl (by kernel_rfl) (by simp [Tryz.f141]) fun R hR => ?_
  have c2 := call111 t hv
  have fz : ∀ (s : PT) (h : H) (e : Int), s.get 4 = .ptr 1 0 → s.get 5 = .int .i64 e → h[1]? = some (.cells zc .live) → applyT l t = (zT, e) → R .ret s h := fun s h e h4 h5 hh he => by
    refine hR _ _ _ (.inr rfl) ⟨_, ?_, (snap_resZ _ e).trans (by rw [he])⟩
    simp [resultV, resV, resVs, Tryz.f141, h4, h5, loadV, hh, cellsAt, a25, s25, zc]
  have fin : ∀ (s : PT) (h : H) (t' : T), s.get 4 = .ptr 1 0 → s.get 5 = .int .i64 0 → h[1]? = some (.cells (enc t').cells .live) → applyT l t = (t', 0) → R .ret s h := fun s h t' h4 h5 hh he => by
    refine hR _ _ _ (.inr rfl) ⟨resV2 (t', 0), ?_, (snap_resV2 _ t' 0).trans (by rw [he])⟩
    simp [resultV, resV, resVs, Tryz.f141, h4, h5, loadV, hh, cellsAt, a25, s25, enc_cells, resV2]; rw [enc_eq]
  have bx : boxV C.P [] 25 (enc t) = some (.ptr 0 0, [.cells (enc t).cells .live]) := by rw [box25, enc_cells]; rfl
  have q4 : ∀ (l : List VObj), loadV C.P (.cells (enc t).cells .live :: l) 25 (.ptr 0 0) = some (enc t) := fun l => by rw [enc_cells]; exact ld25c t l
  simp [go_sem, initS, bx, q4, c2]
  refine Ife_iff.2 ⟨fun h2 => ?_, fun h2 => ?_⟩
  · simp [go_sem, bld25, st25e]
    exact fz _ _ (validE t) (by simp [go_sem]) (by simp [go_sem]) rfl (by unfold applyT; rw [if_pos h2])
  simp only [Decidable.not_not] at h2
  obtain ⟨hi, hl2, h4⟩ := sub_good h1
  have hps := putB_size l (fun b hb => (h4 b hb).2) t
  have := nodes_zero h2
  have c3 := call211 l t (fun b hb => by have := h4 b hb; omega) hi (by omega) (fun b hb => by have := h4 b hb; omega) (by omega)
  have c4 := call111 (putB l t) (by omega)
  simp [go_sem, q4, c3, c4, st25c, ld25e]
  refine Ife_iff.2 ⟨fun h3 => ?_, fun h3 => ?_⟩
  · simp [go_sem, bld25, st25e]
    exact fz _ _ (validE (putB l t)) (by simp [go_sem]) (by simp [go_sem]) rfl (by unfold applyT; rw [if_neg (by omega), if_pos h3])
  simp only [Decidable.not_not] at h3
  simp [go_sem, ld25e, st25f]
  exact fin _ _ (putB l t) (by simp [go_sem]) (by simp [go_sem]) (by simp) (by unfold applyT; rw [if_neg (by omega), if_neg (by omega)])
theorem call141 (l : List (T × T)) (t : T) (h1 : subE l = 0) (hv : t.size < 4000000) (h : H) : callV C h (.func 141 []) (some [binds l, enc t]) = some (resV2 (applyT l t), h) := callV_strip (by kernel_rfl) rfl (dat_binds2 _ _) (by simp [short_binds, short_enc]) (by simp) (apply141 l t h1 hv)
set_option maxRecDepth 8000 in
set_option maxHeartbeats 4000000 in
theorem apply83 (l : List (T × T)) (t : T) (hs : small l) (hv : t.size < 4000000) : CallP C 83 [binds l, enc t] = some (resV2 (applyR l t)) := by
  refine CallP_W rfl Tryz.func83 rfl (by kernel_rfl) (by simp [Tryz.f83]) fun R hR => ?_
  have c1 := call59 l hs
  have fz : ∀ (s : PT) (h : H) (e : Int), s.get 4 = .ptr 1 0 → s.get 5 = .int .i64 e → h[1]? = some (.cells zc .live) → applyR l t = (zT, e) → R .ret s h := fun s h e h4 h5 hh he => by
    refine hR _ _ _ (.inr rfl) ⟨_, ?_, (snap_resZ _ e).trans (by rw [he])⟩
    simp [resultV, resV, resVs, Tryz.f83, h4, h5, loadV, hh, cellsAt, a25, s25, zc]
  have fin : ∀ (s : PT) (h : H) (t' : T) (e : Int), s.get 4 = .ptr 1 0 → s.get 5 = .int .i64 e → h[1]? = some (.cells (enc t').cells .live) → applyR l t = (t', e) → R .ret s h := fun s h t' e h4 h5 hh he => by
    refine hR _ _ _ (.inr rfl) ⟨resV2 (t', e), ?_, (snap_resV2 _ t' e).trans (by rw [he])⟩
    simp [resultV, resV, resVs, Tryz.f83, h4, h5, loadV, hh, cellsAt, a25, s25, enc_cells, resV2]; rw [enc_eq]
  have bx : boxV C.P [] 25 (enc t) = some (.ptr 0 0, [.cells (enc t).cells .live]) := by rw [box25, enc_cells]; rfl
  have q4 : ∀ (l : List VObj), loadV C.P (.cells (enc t).cells .live :: l) 25 (.ptr 0 0) = some (enc t) := fun l => by rw [enc_cells]; exact ld25c t l
  simp [go_sem, initS, bx, c1]
  refine Ife_iff.2 ⟨fun h1 => ?_, fun h1 => ?_⟩
  · simp [go_sem, bld25, st25e]
    exact fz _ _ (subE l) (by simp [go_sem]) (by simp [go_sem]) rfl (by unfold applyR; rw [if_pos h1])
  simp only [Decidable.not_not] at h1
  have c2 := call141 l t h1 hv
  simp [go_sem, q4, c2, resV2, st25f]
  exact fin _ _ (applyT l t).1 (applyT l t).2 (by simp [go_sem]) (by simp [go_sem]) (by simp) (by unfold applyR; rw [if_neg (by omega)]; rfl)
theorem call83 (l : List (T × T)) (t : T) (hs : small l) (hv : t.size < 4000000) (h : H) : callV C h (.func 83 []) (some [binds l, enc t]) = some (resV2 (applyR l t), h) := callV_strip (by kernel_rfl) rfl (dat_binds2 _ _) (by simp [short_binds, short_enc]) (by simp) (apply83 l t hs hv)
end Go.VZ

/- Moments: their form; kinds, equality, fits, both ways. -/
namespace Go.VZ
open Go Go.V Go.Proofs TL
/-- A moment; its agents are only carried. -/
structure Mo where
  kind : Int
  number : Int
  role : Int
  ag : List AV
  goal : Int
  terms : List T
def encM (m : Mo) : AV := .agg [.int .i64 m.kind, .int .i64 m.number, .int .i64 m.role, .isl m.ag .unk, .int .i64 m.goal, terms m.terms]
def moments (l : List Mo) : AV := .isl (l.map encM) .unk
theorem u50 : C.P.underlying 50 = some (.slice 54) := Tryz.underlying50
theorem s54 : sizeV C.P 54 = some 6 := by kernel_rfl
theorem s50 : sizeV C.P 50 = some 1 := by kernel_rfl
theorem a54 : isAggB C.P 54 = some true := by kernel_rfl
theorem a50 : isAggB C.P 50 = some false := by kernel_rfl
attribute [go_sem] u50 s54 s50 a54 a50
theorem fa54i_0 (e : AV) : fieldAddrV C.P 54 (.iptr e 0) 0 = some (.iptr e 0) := by kernel_rfl
theorem fa54_0 (i : Nat) : fieldAddrV C.P 54 (.ptr i 0) 0 = some (.ptr i 0) := by kernel_rfl
theorem fa54_4 (i : Nat) : fieldAddrV C.P 54 (.ptr i 0) 4 = some (.ptr i 4) := by kernel_rfl
theorem fa54_5 (i : Nat) : fieldAddrV C.P 54 (.ptr i 0) 5 = some (.ptr i 5) := by kernel_rfl
attribute [go_sem] fa54i_0 fa54_0 fa54_4 fa54_5
theorem zv54 : zeroV C.P 54 = some (.agg [.int .i64 0, .int .i64 0, .int .i64 0, .isl [] .full, .int .i64 0, .isl [] .full]) := by kernel_rfl
attribute [go_sem] zv54
theorem len50 (es : List AV) (x : Ext) : lenV C.P 50 (.isl es x) = some (.int .i64 es.length) := by simp [lenV, u50]
theorem idx50 (l : List Mo) (k : Nat) (hk : k < l.length) (x : Ext) : indexAddrV C.P 50 (.isl (l.map encM) x) (.int .i64 k) = some (.iptr (encM l[k]) 0) := by
  simp [indexAddrV, u50, s54, encM, cells_agg, hk]
theorem ld54 (m : Mo) (h : H) : loadV C.P h 54 (.iptr (encM m) 0) = some (encM m) := by simp [loadV, cellsAt, a54, s54, encM, cells_agg]
theorem ld3m (m : Mo) (h : H) : loadV C.P h 3 (.iptr (encM m) 0) = some (.int .i64 m.kind) := by simp [loadV, cellsAt, a3, s3, encM, cells_agg]
theorem box54 (m : Mo) (h : H) : boxV C.P h 54 (encM m) = some (.ptr h.length 0, h ++ [.cells (encM m).cells .live]) := by
  simp [boxV, encM, cells_agg, s54, notTuple]
def kindB (l : List Mo) (i g : Int) : Bool := if h : 0 ≤ i ∧ i < l.length then decide ((l[i.toNat]'(by omega)).kind = g) else false
theorem kind84 (l : List Mo) (i g : Int) : CallP C 84 [moments l, .int .i64 i, .int .i64 g] = some (.bool (kindB l i g)) := by
  refine CallP_W rfl Tryz.func84 rfl (by kernel_rfl) (by simp [Tryz.f84]) fun R hR => ?_
  by_cases h : 0 ≤ i ∧ i < l.length
  · obtain ⟨k, rfl⟩ : ∃ k : Nat, i = k := ⟨i.toNat, by omega⟩
    have hk : k < l.length := by omega
    have hk' : (k : Int) < l.length := by omega
    have hix := idx50 l k hk .unk
    simp +contextual [go_sem, initS, moments, len50, hk, hk', hix, ld3m]
    refine hR _ _ _ (.inr rfl) ⟨.bool (kindB l k g), ?_, snap_dat rfl rfl⟩
    simp [resultV, resV, Tryz.f84, go_sem, kindB, hk]
  · by_cases h0 : 0 ≤ i
    · have h1 : ¬ i < l.length := by omega
      simp +contextual [go_sem, initS, moments, len50, h0, h1]
      refine hR _ _ _ (.inr rfl) ⟨.bool (kindB l i g), ?_, snap_dat rfl rfl⟩
      simp [resultV, resV, Tryz.f84, go_sem, kindB, h0, h1]
    · simp +contextual [go_sem, initS, moments, len50, h0]
      refine hR _ _ _ (.inr rfl) ⟨.bool (kindB l i g), ?_, snap_dat rfl rfl⟩
      simp [resultV, resV, Tryz.f84, go_sem, kindB, h0]
theorem dat_mo (l : List Mo) (i g : Int) : dats [moments l, .int .i64 i, .int .i64 g] = some [moments l, .int .i64 i, .int .i64 g] := rfl
theorem short_mo (l : List Mo) : short (moments l) = true := rfl
theorem call84 (l : List Mo) (i g : Int) (h : H) : callV C h (.func 84 []) (some [moments l, .int .i64 i, .int .i64 g]) = some (.bool (kindB l i g), h) := callV_strip (by kernel_rfl) rfl (dat_mo _ _ _) (by simp [short_mo, short_int]) (by simp) (kind84 l i g)
theorem kind88 (l : List Mo) (i g : Int) : CallP C 88 [moments l, .int .i64 i, .int .i64 g] = some (.bool (kindB l i g)) := by
  refine CallP_W rfl Tryz.func88 rfl (by kernel_rfl) (by simp [Tryz.f88]) fun R hR => ?_
  by_cases h : 0 ≤ i ∧ i < l.length
  · obtain ⟨k, rfl⟩ : ∃ k : Nat, i = k := ⟨i.toNat, by omega⟩
    have hk : k < l.length := by omega
    have hk' : (k : Int) < l.length := by omega
    have hix := idx50 l k hk .unk
    simp +contextual [go_sem, initS, moments, len50, hk, hk', hix, ld3m]
    refine hR _ _ _ (.inr rfl) ⟨.bool (kindB l k g), ?_, snap_dat rfl rfl⟩
    simp [resultV, resV, Tryz.f88, go_sem, kindB, hk]
  · by_cases h0 : 0 ≤ i
    · have h1 : ¬ i < l.length := by omega
      simp +contextual [go_sem, initS, moments, len50, h0, h1]
      refine hR _ _ _ (.inr rfl) ⟨.bool (kindB l i g), ?_, snap_dat rfl rfl⟩
      simp [resultV, resV, Tryz.f88, go_sem, kindB, h0, h1]
    · simp +contextual [go_sem, initS, moments, len50, h0]
      refine hR _ _ _ (.inr rfl) ⟨.bool (kindB l i g), ?_, snap_dat rfl rfl⟩
      simp [resultV, resV, Tryz.f88, go_sem, kindB, h0]
theorem call88 (l : List Mo) (i g : Int) (h : H) : callV C h (.func 88 []) (some [moments l, .int .i64 i, .int .i64 g]) = some (.bool (kindB l i g), h) := callV_strip (by kernel_rfl) rfl (dat_mo _ _ _) (by simp [short_mo, short_int]) (by simp) (kind88 l i g)
end Go.VZ
