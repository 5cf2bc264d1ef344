/- Finding a binding, the program's way. -/
import Derived.Test.YtdoegkegjaadeaaGreatDoorESbc
namespace Go.VZ
open Go Go.V Go.Proofs TL
def convW (P : Program) (a b : TypeId) : AV → Option AV
  | .isl es _ => convB P a b es
  | v => convV P a b v
@[go_sem] theorem convW_int (P : Program) (a b : TypeId) (k : IntKind) (x : Int) : convW P a b (.int k x) = convV P a b (.int k x) := (rfl)
@[go_sem] theorem OWconvert {C : Cfg} {cf : FuncId} {ops : Array Oper} {d : Tmp} {ty : TypeId} {p : String} {af : Array Edge} {l : List Oper} {s : PT} {h : H} {K : PT → H → Prop} (a b : TypeId) (x : Operand) :
    OW C cf ops (⟨some d, .convert a b x, ty, p, af, none⟩ :: l) s h K ↔ bO (bi1 (ev s x) (convW C.P a b)) fun v => OW C cf ops l (s.set d v) h K := OWn (by simp only [opN, bi1, convW]; cases ev s x <;> first | rfl | (rename_i c; cases c <;> rfl)) rfl rfl
theorem conv_u (x : Int) (h0 : 0 ≤ x) (h1 : x < 4000000000) : convV C.P 3 173 (.int .i64 x) = some (.int .u64 x) := by
  have e : convV C.P 3 173 (.int .i64 x) = some (.int .u64 (IntKind.u64.wrap x)) := by kernel_rfl
  rw [e]
  have : IntKind.u64.wrap x = x := by
    unfold IntKind.wrap
    simp only [IntKind.bits, IntKind.signed, Bool.false_and, Bool.false_eq_true, if_false]
    omega
  rw [this]
theorem conv_i (x : Int) (h0 : 0 ≤ x) (h1 : x < 4000000000) : convV C.P 173 3 (.int .u64 x) = some (.int .i64 x) := by
  have e : convV C.P 173 3 (.int .u64 x) = some (.int .i64 (IntKind.i64.wrap x)) := by kernel_rfl
  rw [e, wrap_in (by omega)]
theorem shr_u (x : Int) (h0 : 0 ≤ x) (h1 : x < 4000000000) (y z : Operand) : binV C.P .shr 173 y z (.int .u64 x) (.int .u64 1) = some (.int .u64 (x / 2)) := by
  have e : binV C.P .shr 173 y z (.int .u64 x) (.int .u64 1) = some (.int .u64 (x.fdiv 2)) := by kernel_rfl
  rw [e, Int.fdiv_eq_ediv_of_nonneg _ (by omega)]
theorem find259 (b : T × T) (t : T) (h1 : b.1.size < 4000000) (h3 : t.size < 4000000) : CallP C 259 [encB b, enc t] = some (.int .i64 (b.1.cmp t)) := by
  refine CallP_W rfl Tryz.func259 rfl (by kernel_rfl) (by simp [Tryz.f259]) fun R hR => ?_
  have c1 := call112 b.1 t h1 h3
  have bx : ∀ h, boxV C.P h 25 (enc t) = some (.ptr h.length 0, h ++ [.cells (enc t).cells .live]) := fun h => by rw [box25, enc_cells]
  have l2 := ldb25z t [.cells (encB b).cells .live]
  have l1 : loadV C.P ([.cells (encB b).cells .live] ++ [.cells (enc t).cells .live]) 25 (.ptr 0 0) = some (enc b.1) := by
    have := lb0n b
    simpa [loadV] using this
  simp only [List.cons_append, List.nil_append, List.length_cons, List.length_nil, Nat.zero_add] at l1 l2
  simp [go_sem, initS, box86, bx, l1, l2, c1]
  refine hR _ _ _ (.inr rfl) ⟨.int .i64 (b.1.cmp t), by simp [resultV, resV, Tryz.f259, go_sem], snap_dat rfl rfl⟩
theorem dat_find (b : T × T) (t : T) : dats [encB b, enc t] = some [encB b, enc t] := by rw [enc_eq]; rfl
theorem call259 (b : T × T) (t : T) (h1 : b.1.size < 4000000) (h3 : t.size < 4000000) (h : H) : callV C h (.func 259 []) (some [encB b, enc t]) = some (.int .i64 (b.1.cmp t), h) := callV_strip (by kernel_rfl) rfl (dat_find _ _) (by simp [short_encB, short_enc]) (by simp) (find259 b t h1 h3)
/-- Strictly in order. -/
def Inc (l : List (T × T)) : Prop := ∀ (i j : Nat) (hi : i < j) (hj : j < l.length), (l[i]'(by omega)).1.cmp l[j].1 < 0
theorem thn_zero' {a b : Int} (h : thn a b = 0) : a = 0 ∧ b = 0 := thn_zero.1 h
theorem subEs_adj : ∀ {l : List (T × T)} {p : Option T}, subEs p l = 0 → (∀ b ∈ l, bindE b = 0) ∧ (∀ q, p = some q → ∀ hb : 0 < l.length, q.cmp l[0].1 < 0) ∧ ∀ (i : Nat) (hi : i + 1 < l.length), (l[i]'(by omega)).1.cmp l[i + 1].1 < 0
  | [], _, _ => ⟨by simp, by simp, by simp⟩
  | b :: l, p, h => by
    rw [subEs] at h
    obtain ⟨h1, h2⟩ := thn_zero' h
    by_cases hp : later p b.1 = true
    · rw [if_pos hp] at h2; cases h2
    · rw [if_neg hp] at h2
      obtain ⟨k1, k2, k3⟩ := subEs_adj h2
      refine ⟨fun c hc => ?_, fun q hq _ => ?_, fun i hi => ?_⟩
      · rcases List.mem_cons.1 hc with rfl | hc
        · exact h1
        · exact k1 c hc
      · subst hq; simp only [later, decide_eq_true_eq] at hp; simpa using hp
      · cases i with
        | zero => exact k2 b.1 rfl (by simpa using hi)
        | succ i => exact k3 i (by simpa using hi)
theorem inc_of {l : List (T × T)} (h : subE l = 0) : Inc l := by
  unfold subE at h
  split at h
  · cases h
  obtain ⟨_, _, h3⟩ := subEs_adj h
  intro i j hij hj
  induction j with
  | zero => omega
  | succ j ih =>
    by_cases he : i = j
    · subst he; exact h3 i hj
    · exact cmp_trans (ih (by omega) (by omega)) (h3 j hj)
/-- Where the search ends. -/
def Mid (l : List (T × T)) (t : T) (i j : Nat) : Prop := i ≤ j ∧ j ≤ l.length ∧ (∀ a (ha : a < l.length), a < i → l[a].1.cmp t < 0) ∧ ∀ a (ha : a < l.length), j ≤ a → 0 ≤ l[a].1.cmp t
theorem getB_none : ∀ {l : List (T × T)} {t : T}, (∀ b ∈ l, b.1.cmp t ≠ 0) → getB l t = t
  | [], _, _ => rfl
  | b :: l, t, h => by rw [getB, if_neg (h b (by simp))]; exact getB_none fun c hc => h c (by simp [hc])
theorem getB_at : ∀ {l : List (T × T)} {t : T} {i : Nat} (hi : i < l.length), (∀ a (ha : a < i), (l[a]'(by omega)).1.cmp t ≠ 0) → l[i].1.cmp t = 0 → getB l t = l[i].2
  | [], _, _, hi, _, _ => by simp at hi
  | b :: l, t, 0, _, _, h => by rw [getB]; exact if_pos (c := b.1.cmp t = 0) h
  | b :: l, t, i + 1, hi, hn, h => by
    rw [getB, if_neg (show ¬ b.1.cmp t = 0 from hn 0 (by omega))]
    exact getB_at (by simpa using hi) (fun a ha => hn (a + 1) (by omega)) h
theorem mid_get {l : List (T × T)} {t : T} {i : Nat} (hs : Inc l) (m : Mid l t i i) : getB l t = if h : i < l.length then (if l[i].1.cmp t = 0 then l[i].2 else t) else t := by
  obtain ⟨_, _, m3, m4⟩ := m
  by_cases hi : i < l.length
  · rw [dif_pos hi]
    by_cases hc : l[i].1.cmp t = 0
    · rw [if_pos hc]; exact getB_at hi (fun a ha => by have := m3 a (by omega) ha; omega) hc
    · rw [if_neg hc]
      refine getB_none fun b hb => ?_
      obtain ⟨a, ha, rfl⟩ := List.getElem_of_mem hb
      by_cases h1 : a < i
      · have := m3 a ha h1; omega
      · by_cases h2 : a = i
        · subst h2; exact hc
        · have h3 := m4 i hi (Nat.le_refl _)
          have h4 := hs i a (by omega) ha
          have h5 := cmp_trans (cmp_lt (by omega : 0 < l[i].1.cmp t)) h4
          have := cmp_gt h5
          omega
  · rw [dif_neg hi]
    refine getB_none fun b hb => ?_
    obtain ⟨a, ha, rfl⟩ := List.getElem_of_mem hb
    have := m3 a ha (by omega); omega
def NI258 (l : List (T × T)) (t : T) (m : Nat) (s : PT) (h : H) : Prop := ∃ i j : Nat, m = j - i ∧ Mid l t i j ∧ h = [.cells (enc t).cells .live] ∧ s.get 0 = binds l ∧ s.get 2 = .func 259 [] ∧ s.get 4 = .ptr 0 0 ∧ s.get 8 = .int .i64 l.length ∧ s.get 9 = .int .i64 i ∧ s.get 10 = .int .i64 j
/-- Where the search ends. -/
def idx (l : List (T × T)) (t : T) : Nat := l.findIdx fun b => decide (0 ≤ b.1.cmp t)
theorem idx_of {l : List (T × T)} {t : T} {i : Nat} (m : Mid l t i i) : i = idx l t := by
  obtain ⟨_, m2, m3, m4⟩ := m
  by_cases hi : i < l.length
  · exact ((List.findIdx_eq hi).2 ⟨by simpa using m4 i hi (Nat.le_refl _), fun a ha => by simpa using m3 a (by omega) ha⟩).symm
  · have e : i = l.length := by omega
    have : idx l t = l.length := by
      refine List.findIdx_eq_length.2 fun b hb => ?_
      obtain ⟨a, ha, rfl⟩ := List.getElem_of_mem hb
      simpa using m3 a ha (by omega)
    omega
def hit (l : List (T × T)) (t : T) : Bool := if h : idx l t < l.length then decide (l[idx l t].1.cmp t = 0) else false
def foundV (l : List (T × T)) (t : T) : AV := .tuple [.int .i64 (idx l t), .bool (hit l t)]
set_option maxRecDepth 8000 in
set_option maxHeartbeats 2000000 in
theorem search258 (l : List (T × T)) (t : T) (hs : small l) (hi : Inc l) (hv : t.size < 4000000) (hl : l.length < 1000000) : CallP C 258 [binds l, enc t, .func 259 []] = some (foundV l t) := by
  refine CallP_W rfl Tryz.func258 rfl (by kernel_rfl) (by simp [Tryz.f258]) fun R hR => ?_
  have bx : ∀ h, boxV C.P h 25 (enc t) = some (.ptr h.length 0, h ++ [.cells (enc t).cells .live]) := fun h => by rw [box25, enc_cells]
  simp [go_sem, initS, bx, len46, binds]
  refine W_loop (NI258 l t) l.length ⟨0, l.length, rfl, ⟨Nat.zero_le _, Nat.le_refl _, by simp, fun a h1 h2 => by omega⟩, rfl, by simp [go_sem, binds], by simp [go_sem], by simp [go_sem], by simp [go_sem], by simp [go_sem], by simp [go_sem]⟩ ?_
  rintro m s h ⟨i, j, rfl, hm, rfl, g0, g2, g4, g8, g9, g10⟩
  simp only [binds] at g0
  have l1 : loadV C.P [.cells (enc t).cells .live] 25 (.ptr 0 0) = some (enc t) := ldb25z t []
  obtain ⟨m1, m2, m3, m4⟩ := hm
  by_cases hlt : i < j
  · have hlt' : (i : Int) < j := by omega
    obtain ⟨sm, hsm⟩ : ∃ q, q = i + j := ⟨_, rfl⟩
    obtain ⟨q, hq⟩ : ∃ q, q = sm / 2 := ⟨_, rfl⟩
    have ws : IntKind.i64.wrap ((i : Int) + j) = (sm : Int) := by rw [wrap_in (by omega)]; omega
    have wq : IntKind.i64.wrap ((q : Int) + 1) = ((q + 1 : Nat) : Int) := by rw [wrap_in (by omega)]; omega
    have cu := conv_u sm (by omega) (by omega)
    have su := fun y z => shr_u sm (by omega) (by omega) y z
    have eq2 : (sm : Int) / 2 = (q : Int) := by omega
    simp only [eq2] at su
    have ci := conv_i q (by omega) (by omega)
    have hql : q < l.length := by omega
    have hix := idx46 l q hql .unk
    have hsb := hs _ (List.getElem_mem hql)
    have cf := call259 l[q] t hsb.1 hv
    simp [go_sem, g0, g2, g4, g8, g9, g10, hlt', ws, cu, su, ci, hix, ld86, l1, cf]
    refine Ife_iff.2 ⟨fun h1 => ?_, fun h1 => ?_⟩
    · simp [go_sem, wq, -Int.natCast_add]
      exact ⟨j - (q + 1), by omega, q + 1, j, rfl, ⟨by omega, m2, fun a ha hb => by
        by_cases he : a = q
        · subst he; exact h1
        · exact cmp_trans (hi a q (by omega) hql) h1, m4⟩, rfl, by simp [go_sem, g0, binds], by simp [go_sem, g2], by simp [go_sem, g4], by simp [go_sem, g8], by simp [go_sem], by simp [go_sem, g10]⟩
    · simp [go_sem, -Int.natCast_add]
      exact ⟨q - i, by omega, i, q, rfl, ⟨by omega, by omega, m3, fun a ha hb => by
        by_cases he : a = q
        · subst he; omega
        · have h2 := hi q a (by omega) ha
          by_cases h3 : l[q].1.cmp t = 0
          · rw [cmp_zero] at h3; rw [h3] at h2; have := cmp_gt h2; omega
          · have := cmp_gt (cmp_trans (cmp_lt (by omega : 0 < l[q].1.cmp t)) h2); omega⟩, rfl, by simp [go_sem, g0, binds], by simp [go_sem, g2], by simp [go_sem, g4], by simp [go_sem, g8], by simp [go_sem, g9], by simp [go_sem]⟩
  · have : i = j := by omega
    subst this
    have hid := idx_of ⟨m1, m2, m3, m4⟩
    by_cases hil : i < l.length
    · have hil' : (i : Int) < l.length := by omega
      have hix := idx46 l i hil .unk
      have hsb := hs _ (List.getElem_mem hil)
      have cf := call259 l[i] t hsb.1 hv
      simp +contextual [go_sem, g0, g2, g4, g8, g9, g10, hil, hil', hix, ld86, l1, cf]
      refine hR _ _ _ (.inr rfl) ⟨foundV l t, ?_, snap_dat rfl rfl⟩
      subst hid
      simp [resultV, resV, resVs, Tryz.f258, go_sem, foundV, hit, hil]
    · have hil' : ¬ (i : Int) < l.length := by omega
      simp +contextual [go_sem, g0, g2, g4, g8, g9, g10, hil, hil']
      refine hR _ _ _ (.inr rfl) ⟨foundV l t, ?_, snap_dat rfl rfl⟩
      subst hid
      simp [resultV, resV, resVs, Tryz.f258, go_sem, foundV, hit, hil]
theorem dats_search (l : List (T × T)) (t : T) : dats [binds l, enc t, .func 259 []] = some [binds l, enc t, .func 259 []] := by rw [enc_eq]; rfl
theorem short_func (f : FuncId) : short (.func f []) = true := rfl
theorem short_bool (b : Bool) : short (.bool b) = true := rfl
theorem call258 (l : List (T × T)) (t : T) (hs : small l) (hi : Inc l) (hv : t.size < 4000000) (hl : l.length < 1000000) (h : H) : callV C h (.func 258 []) (some [binds l, enc t, .func 259 []]) = some (foundV l t, h) := callV_strip (by kernel_rfl) rfl (dats_search _ _) (by simp [short_binds, short_enc, short_func]) (by simp) (search258 l t hs hi hv hl)
theorem snap_tuple {h : H} {l l' : List AV} (hd : dats l = some l') (hs : l.all short = true) (hl : l.length ≤ 1000) : snap h deep (.tuple l) = some (.tuple l') := by
  have e := (dats_snap (h := h) hd hs 999999 (by omega)).1
  have : snap h deep (.tuple l) = (match snaps h 999999 l with
    | some l => some (.tuple l)
    | none => none) := rfl
  rw [this, e]
def hasB (l : List (T × T)) (t : T) : Bool := hit l t
theorem idx_mid {l : List (T × T)} {t : T} (hs : Inc l) : Mid l t (idx l t) (idx l t) := by
  refine ⟨Nat.le_refl _, List.findIdx_le_length, fun a ha h1 => ?_, fun a ha h1 => ?_⟩
  · have := List.not_of_lt_findIdx h1
    simpa using this
  · by_cases he : a = idx l t
    · have := List.findIdx_getElem (w := by simpa [idx] using (show idx l t < l.length by omega)) (p := fun b : T × T => decide (0 ≤ b.1.cmp t)) (xs := l)
      simp only [decide_eq_true_eq] at this
      subst he; exact this
    · have h0 : idx l t < l.length := by omega
      have h2 := List.findIdx_getElem (w := h0) (p := fun b : T × T => decide (0 ≤ b.1.cmp t)) (xs := l)
      simp only [decide_eq_true_eq] at h2
      have h3 := hs (idx l t) a (by omega) ha
      by_cases h4 : l[idx l t].1.cmp t = 0
      · rw [cmp_zero] at h4; rw [h4] at h3; have := cmp_gt h3; omega
      · have h5 : 0 ≤ l[idx l t].1.cmp t := h2
        have := cmp_gt (cmp_trans (cmp_lt (by omega : 0 < l[idx l t].1.cmp t)) h3); omega
theorem getB_hit {l : List (T × T)} {t : T} (hs : Inc l) : (∃ h : idx l t < l.length, hit l t = true ∧ getB l t = l[idx l t].2) ∨ (hit l t = false ∧ getB l t = t) := by
  have e := mid_get hs (idx_mid (t := t) hs)
  by_cases h : idx l t < l.length
  · rw [dif_pos h] at e
    by_cases hc : l[idx l t].1.cmp t = 0
    · rw [if_pos hc] at e
      exact .inl ⟨h, by simp [hit, h, hc], e⟩
    · rw [if_neg hc] at e
      exact .inr ⟨by simp [hit, h, hc], e⟩
  · rw [dif_neg h] at e
    exact .inr ⟨by simp [hit, h], e⟩
set_option maxRecDepth 8000 in
set_option maxHeartbeats 2000000 in
theorem find207 (l : List (T × T)) (t : T) (hs : small l) (hi : Inc l) (hv : t.size < 4000000) (hl : l.length < 1000000) : CallP C 207 [binds l, enc t] = some (.tuple [enc (getB l t), .bool (hit l t)]) := by
  refine CallP_W rfl Tryz.func207 rfl (by kernel_rfl) (by simp [Tryz.f207]) fun R hR => ?_
  have c1 := call258 l t hs hi hv hl
  have fin : ∀ (s : PT) (t' : T) (h : H) (b : Bool), s.get 4 = .ptr 1 0 → s.get 5 = .bool b → h[1]? = some (.cells (enc t').cells .live) → t' = getB l t → b = hit l t → R .ret s h := fun s t' h b hs h5 hh ht hb => by
    refine hR _ _ _ (.inr rfl) ⟨.tuple [enc t', .bool b], ?_, ?_⟩
    · simp [resultV, resV, resVs, Tryz.f207, hs, h5, loadV, hh, cellsAt, a25, s25, enc_cells]; rw [enc_eq]
    · rw [← ht, ← hb]; exact snap_tuple (by rw [enc_eq]; rfl) (by simp [short_enc, short_bool]) (by simp)
  rcases getB_hit (t := t) hi with ⟨h, h1, h2⟩ | ⟨h1, h2⟩
  · have hix : indexAddrV C.P 46 (binds l) (.int .i64 (idx l t)) = some (.iptr (encB l[idx l t]) 0) := idx46 l (idx l t) h .unk
    simp [go_sem, initS, enc_cells, terms, ld25c, c1, foundV, h1, hix, ld25i4, st25b]
    exact fin _ l[idx l t].2 _ true (by simp [go_sem]) (by simp [go_sem]) (by simp [enc_cells, terms]) h2.symm h1.symm
  · simp [go_sem, initS, enc_cells, terms, ld25c, c1, foundV, h1, st25b]
    exact fin _ t _ false (by simp [go_sem]) (by simp [go_sem]) (by simp [enc_cells, terms]) h2.symm h1.symm
theorem call207 (l : List (T × T)) (t : T) (hs : small l) (hi : Inc l) (hv : t.size < 4000000) (hl : l.length < 1000000) (h : H) : callV C h (.func 207 []) (some [binds l, enc t]) = some (.tuple [enc (getB l t), .bool (hit l t)], h) := callV_strip (by kernel_rfl) rfl (dat_binds2 _ _) (by simp [short_binds, short_enc]) (by simp) (find207 l t hs hi hv hl)
end Go.VZ

/- Put, the program's way. -/
namespace Go.VZ
open Go Go.V Go.Proofs TL
/-- The row after k rounds. -/
def rowK (f : T → T) (l : List T) (k : Nat) : List T := (l.take k).map f ++ l.drop k
theorem rowK_len (f : T → T) (l : List T) (k : Nat) : (rowK f l k).length = l.length := by simp [rowK]; omega
theorem rowK_get (f : T → T) {l : List T} {k : Nat} (hk : k < l.length) : (rowK f l k)[k]'(by rw [rowK_len]; exact hk) = l[k] := by
  simp only [rowK]
  rw [List.getElem_append_right (by simp; omega)]
  simp; congr 1; omega
theorem rowK_set (f : T → T) {l : List T} {k : Nat} (hk : k < l.length) : (rowK f l k).set k (f l[k]) = rowK f l (k + 1) := by
  simp only [rowK]
  rw [List.set_append_right _ _ (by simp; omega), List.drop_eq_getElem_cons hk]
  have e : k - (List.map f (List.take k l)).length = 0 := by simp; omega
  rw [e, List.set_cons_zero, ← List.take_append_getElem hk, List.map_append, List.append_assoc]; rfl
theorem rowK_full (f : T → T) (l : List T) : rowK f l l.length = l.map f := by simp [rowK]
/-- The row at its place. -/
def Row2 (h : H) (v : AV) (l : List T) : Prop := (l = [] ∧ v = .isl [] .full) ∨ (v = .msl 2 0 4 l.length none ∧ h[2]? = some (.cells (cellsT l) .live))
theorem Row2.row {h : H} {v : AV} {l : List T} (r : Row2 h v l) : Row h v l := r.elim .inl fun e => .inr ⟨2, e⟩
def NI211 (lb : List (T × T)) (t : T) (v : AV) (m : Nat) (s : PT) (h : H) : Prop := ∃ k : Nat, m = t.kids.length - k ∧ k ≤ t.kids.length ∧ s.get 0 = binds lb ∧ s.get 3 = .ptr 0 0 ∧ s.get 4 = .ptr 1 0 ∧ s.get 25 = v ∧ s.get 26 = .int .i64 t.kids.length ∧ s.get 27 = .int .i64 k ∧
  h[0]? = some (.cells [.int .i64 t.kind, .str t.name, .int .i64 t.sort, v] .live) ∧ h[1]? = some (.cells zc .live) ∧ Row2 h v (rowK (putB lb) t.kids k)
set_option maxRecDepth 8000 in
set_option maxHeartbeats 4000000 in
theorem put211 (lb : List (T × T)) (t : T) (hs : small lb) (hi : Inc lb) (hl : lb.length < 1000000) (h20 : ∀ b ∈ lb, b.2.size ≤ 20000) (hv : t.size ≤ 20000) (hc : ∀ k ∈ t.kids, CallP C 211 [binds lb, enc k] = some (enc (putB lb k))) : CallP C 211 [binds lb, enc t] = some (enc (putB lb t)) := by
  refine CallP_W rfl Tryz.func211 rfl (by kernel_rfl) (by simp [Tryz.f211]) fun R hR => ?_
  have hsz := size_kids t
  have hlen := len_sizes t.kids
  have hpe := putB_eq lb t
  obtain ⟨v, h', hcl, hrow, hkp, hform⟩ := call193 t.kids .unk [.cells (tc t) .live, .cells zc .live] (by omega)
  have m0 : h'[0]? = some (.cells (tc t) .live) := hkp.get rfl (by simp)
  have m1 : h'[1]? = some (.cells zc .live) := hkp.get rfl (by simp)
  have hst := stq v m0 hrow.form
  have hl' := (List.getElem?_eq_some_iff.1 m0).1
  have hlq : loadV C.P (h'.set 0 (.cells [.int .i64 t.kind, .str t.name, .int .i64 t.sort, v] .live)) 23 (.ptr 0 3) = some v := ldq (List.getElem?_set_self hl') (by rcases hrow.form with rfl | ⟨_, _, rfl⟩ <;> rfl)
  have hln := hrow.len
  have c1 := call207 lb t hs hi (by omega) hl
  have hgs : (getB lb t).size ≤ 20000 := by
    rcases getB_hit (t := t) hi with ⟨h, _, h2⟩ | ⟨_, h2⟩
    · rw [h2]; exact h20 _ (List.getElem_mem h)
    · rw [h2]; exact hv
  have c2 := call206 (getB lb t) hgs
  have fin : ∀ (s : PT) (t' : T) (h : H), s.get 4 = .ptr 1 0 → h[1]? = some (.cells (enc t').cells .live) → t' = putB lb t → R .ret s h := fun s t' h hs hh ht => by
    refine hR _ _ _ (.inr rfl) ⟨enc t', ?_, ?_⟩
    · simp [resultV, resV, Tryz.f211, hs, loadV, hh, cellsAt, a25, s25, enc_cells]; rw [enc_eq]
    · rw [← ht]; exact snap_dat (dat_enc' t') (short_enc t')
  simp only [tc, zc] at hcl
  by_cases hk1 : t.kind = 1
  · rw [if_pos hk1] at hpe
    have q1 : ∀ (x y : VObj) (t : T), storeV C.P [x, y, .cells [.int .i64 0, .str ⟨#[]⟩, .int .i64 0, .isl [] .full] .live] 25 (.ptr 2 0) (enc t) = some [x, y, .cells (enc t).cells .live] := fun x y t => st25c t _ _ _ _ x y
    have q2 : ∀ (x y : VObj) (t : T), loadV C.P [x, y, .cells (enc t).cells .live] 25 (.ptr 2 0) = some (enc t) := fun x y t => ldb25z t [x, y]
    have q3 : ∀ (x z : VObj) (t : T), storeV C.P [x, .cells [.int .i64 0, .str ⟨#[]⟩, .int .i64 0, .isl [] .full] .live, z] 25 (.ptr 1 0) (enc t) = some [x, .cells (enc t).cells .live, z] := fun x z t => by
      simp [storeV, s25, enc_cells]; rw [enc_eq]; rfl
    have bx : boxV C.P [] 25 (enc t) = some (.ptr 0 0, [.cells (enc t).cells .live]) := by rw [box25, enc_cells]; rfl
    have q4 : ∀ (l : List VObj), loadV C.P (.cells (enc t).cells .live :: l) 25 (.ptr 0 0) = some (enc t) := fun l => by rw [enc_cells]; exact ld25c t l
    have q5 : ∀ (l : List VObj), loadV C.P (.cells (enc t).cells .live :: l) 3 (.ptr 0 0) = some (.int .i64 t.kind) := fun l => by rw [enc_cells]; exact ld3c0 _ _ _ _ l
    simp [go_sem, initS, bx, q1, q2, q3, q4, q5, hk1, c1, c2]
    exact fin _ (getB lb t) _ (by simp [go_sem]) (by simp) hpe.symm
  rw [if_neg hk1] at hpe
  simp [go_sem, initS, enc_cells, terms, ld23c, hcl, hst, hlq, hln, hk1]
  have hrow2 : Row2 (h'.set 0 (.cells [.int .i64 t.kind, .str t.name, .int .i64 t.sort, v] .live)) v (rowK (putB lb) t.kids 0) := by
    rcases hrow with ⟨e1, e2⟩ | ⟨id, e8, hid⟩
    · exact .inl ⟨by simp [rowK, e1], e2⟩
    · rcases hform with h1 | h1
      · rw [h1] at e8; cases e8
      · rw [h1] at e8; simp only [List.length_cons, List.length_nil, AV.msl.injEq] at e8
        obtain ⟨rfl, _⟩ := e8
        refine .inr ⟨by rw [h1]; simp [rowK], ?_⟩
        rw [List.getElem?_set_ne (by omega)]; simpa [rowK] using hid
  refine W_loop (NI211 lb t v) t.kids.length ⟨0, rfl, Nat.zero_le _, by simp [go_sem], by simp [go_sem], by simp [go_sem], by simp [go_sem], by simp [go_sem], by simp [go_sem], List.getElem?_set_self hl', by rw [List.getElem?_set_ne (by omega)]; exact m1, hrow2⟩ ?_
  rintro m s h ⟨k, rfl, hk, g0, g3, g4, g25, g26, g27, n0, n1, nr⟩
  have hrl := rowK_len (putB lb) t.kids k
  by_cases hlt : k < t.kids.length
  · have hlt' : (k : Int) < t.kids.length := by omega
    have hltr : k < (rowK (putB lb) t.kids k).length := by omega
    obtain ⟨rfl, hid⟩ : v = .msl 2 0 4 t.kids.length none ∧ h[2]? = some (.cells (cellsT (rowK (putB lb) t.kids k)) .live) := by
      rcases nr with ⟨e, _⟩ | e
      · rw [e] at hrl; simp at hrl; omega
      · rw [hrl] at e; exact e
    have w2 : IntKind.i64.wrap ((k : Int) + 1) = ((k + 1 : Nat) : Int) := by rw [wrap_in (by omega)]; omega
    have ck : ∀ h, callV C h (.func 211 []) (some [binds lb, enc t.kids[k]]) = some (enc (putB lb t.kids[k]), h) := fun h => callV_strip (by kernel_rfl) rfl (dat_binds2 _ _) (by simp [short_binds, short_enc]) (by simp) (hc _ (List.getElem_mem hlt))
    have e1 := idxRow (id := 2) hlt
    have e2 := loadRow hid hltr
    rw [rowK_get _ hlt] at e2
    obtain ⟨h2, eh2⟩ : ∃ g, g = h ++ [.cells (enc t.kids[k]).cells .live] := ⟨_, rfl⟩
    have hid2 : h2[2]? = some (.cells (cellsT (rowK (putB lb) t.kids k)) .live) := by rw [eh2, List.getElem?_append_left (List.getElem?_eq_some_iff.1 hid).1]; exact hid
    have n02 : h2[0]? = some (.cells [.int .i64 t.kind, .str t.name, .int .i64 t.sort, .msl 2 0 4 t.kids.length none] .live) := by rw [eh2, List.getElem?_append_left (List.getElem?_eq_some_iff.1 n0).1]; exact n0
    have n12 : h2[1]? = some (.cells zc .live) := by rw [eh2, List.getElem?_append_left (List.getElem?_eq_some_iff.1 n1).1]; exact n1
    have e3 := storeRow (putB lb t.kids[k]) hid2 hltr
    rw [rowK_set _ hlt] at e3
    have e4 := st25z t.kids[k] h
    have e5 := ldb25z t.kids[k] h
    rw [← eh2] at e4 e5
    have e6 := ldq n02 rfl
    simp [go_sem, g0, g3, g4, g25, g26, g27, hlt', e1, e2, e4, e5, e6, ck, e3, -Int.natCast_add, w2]
    exact ⟨t.kids.length - (k + 1), by omega, k + 1, rfl, hlt, by simp [go_sem, g0], by simp [go_sem, g3], by simp [go_sem, g4], by simp [go_sem, g25], by simp [go_sem, g26], by simp [go_sem], by rw [List.getElem?_set_ne (by omega)]; exact n02, by rw [List.getElem?_set_ne (by omega)]; exact n12,
      .inr ⟨by rw [rowK_len], List.getElem?_set_self (List.getElem?_eq_some_iff.1 hid2).1⟩⟩
  · have : k = t.kids.length := by omega
    subst this
    rw [rowK_full] at nr
    have e5 : loadV C.P h 25 (.ptr 0 0) = some (.agg [.int .i64 t.kind, .str t.name, .int .i64 t.sort, v]) := by simp [loadV, n0, cellsAt, a25, s25]
    have e6 : storeV C.P h 25 (.ptr 1 0) (.agg [.int .i64 t.kind, .str t.name, .int .i64 t.sort, v]) = some (h.set 1 (.cells [.int .i64 t.kind, .str t.name, .int .i64 t.sort, v] .live)) := by simp [storeV, n1, s25, zc]
    have e7 := (List.getElem?_eq_some_iff.1 n1).1
    have nr2 : Row (h.set 1 (.cells [.int .i64 t.kind, .str t.name, .int .i64 t.sort, v] .live)) v (t.kids.map (putB lb)) := by
      rcases nr with e | ⟨e8, hid⟩
      · exact .inl e
      · exact .inr ⟨2, e8, by rw [List.getElem?_set_ne (by omega)]; exact hid⟩
    have e9 := snap_term nr2 t.kind t.sort t.name (by simp; omega)
    generalize hzz : AV.agg [.int .i64 t.kind, .str t.name, .int .i64 t.sort, v] = zz at e5 e6 e9
    simp [go_sem, g0, g3, g4, g25, g26, g27, e5, e6]
    refine hR _ _ _ (.inr rfl) ⟨zz, ?_, ?_⟩
    · simp [resultV, resV, Tryz.f211, go_sem, g4, loadV, List.getElem?_set_self e7, cellsAt, a25, s25, ← hzz]
    · rw [hpe, enc_eq]; exact e9
theorem put211_all (lb : List (T × T)) (hs : small lb) (hi : Inc lb) (hl : lb.length < 1000000) (h20 : ∀ b ∈ lb, b.2.size ≤ 20000) (t : T) : t.size ≤ 20000 → CallP C 211 [binds lb, enc t] = some (enc (putB lb t)) := by
  induction t using T.ind with
  | _ t ih => exact fun hv => put211 lb t hs hi hl h20 hv (fun k hk => ih k hk (by have := kid_size hk; omega))
theorem call211 (lb : List (T × T)) (t : T) (hs : small lb) (hi : Inc lb) (hl : lb.length < 1000000) (h20 : ∀ b ∈ lb, b.2.size ≤ 20000) (hv : t.size ≤ 20000) (h : H) : callV C h (.func 211 []) (some [binds lb, enc t]) = some (enc (putB lb t), h) := callV_strip (by kernel_rfl) rfl (dat_binds2 _ _) (by simp [short_binds, short_enc]) (by simp) (put211_all lb hs hi hl h20 t hv)
end Go.VZ
