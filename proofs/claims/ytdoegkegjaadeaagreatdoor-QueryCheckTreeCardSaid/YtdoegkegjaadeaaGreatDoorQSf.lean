/- slices.CompactFunc on a row of terms: walked. -/
import Derived.Test.YtdoegkegjaadeaaGreatDoorQSe
import Derived.Test.YtdoegkegjaadeaaGreatDoorQSc
namespace Go.VZ
open Go Go.V Go.Proofs TL
theorem getD_get {l : List T} {j : Nat} (h : j < l.length) : l.getD j default = l[j] := by
  rw [List.getD_eq_getElem?_getD, List.getElem?_eq_getElem h]; rfl
def NIA (l : List T) (rest : List AV) (id n : Nat) (m : Nat) (st : PT) (h : H) : Prop := ∃ k : Nat, m = n - k ∧ 1 ≤ k ∧ k ≤ n ∧ h[id]? = some (.cells (cellsT l ++ rest) .live) ∧ st.get 0 = .msl id 0 4 n none ∧ st.get 1 = .func 219 [] ∧ st.get 5 = .int .i64 k ∧
  ∀ i, 0 < i → i < k → (l.getD i default).cmp (l.getD (i - 1) default) ≠ 0
def NIB (l : List T) (rest : List AV) (id n k0 : Nat) (m : Nat) (st : PT) (h : H) : Prop := ∃ (j p : Nat), m = n - j ∧ k0 + 1 ≤ j ∧ j ≤ n ∧ p = (ddj l j).length ∧ p + 1 ≤ j ∧ h[id]? = some (.cells (cellsT (ddj l j ++ l.drop p) ++ rest) .live) ∧ st.get 0 = .msl id 0 4 n none ∧ st.get 1 = .func 219 [] ∧ st.get 5 = .int .i64 p ∧
  st.get 6 = .msl id (4 * k0) 4 (n - k0) none ∧ st.get 7 = .int .i64 ((j - k0 : Nat) : Int)
set_option maxRecDepth 8000 in
set_option maxHeartbeats 4000000 in
theorem compact218 {N : Nat} {h0 : H} {v : AV} {l : List T} (r : RowZ N h0 v l) (hs : ∀ t ∈ l, t.size < 4000000) (hl : l.length < 1000000000) : ∃ v' h', Go.V.Call C 218 [v, .func 219 []] h0 = some (v', h') ∧ RowZ N h' v' (dd l) := by
  refine Call_WQ rfl Tryz.func218 rfl (by kernel_rfl) (by simp [Tryz.f218]) fun R hR => ?_
  rcases r with ⟨rfl, rfl⟩ | ⟨id, rest, rfl, hid, hz, hN⟩
  · simp [go_sem, initS, len23]
    exact hR _ _ _ (.inr rfl) ⟨.isl [] .full, by simp [resultV, resV, Tryz.f218, go_sem], .inl ⟨rfl, rfl⟩⟩
  have hln : lenV C.P 23 (.msl id 0 4 l.length none) = some (.int .i64 l.length) := by simp [lenV, u23]
  obtain ⟨n, en⟩ : ∃ n, n = l.length := ⟨_, rfl⟩
  rw [← en] at hln hl ⊢
  by_cases hsm : n < 2
  · have hsm' : (n : Int) < 2 := by omega
    simp [go_sem, initS, hln, hsm']
    refine hR _ _ _ (.inr rfl) ⟨.msl id 0 4 n none, by simp [resultV, resV, Tryz.f218, go_sem], .inr ⟨id, rest, ?_, ?_, hz, ?_⟩⟩
    all_goals
      have e : dd l = l := by
        unfold dd
        rw [ddj_take _ (Nat.le_refl _) (fun i a b => by omega), List.take_length]
      rw [e]
    · rw [en]
    · exact ga hid
    · exact hN
  have hsm' : ¬ (n : Int) < 2 := by omega
  simp [go_sem, hln, hsm']
  refine W_loop (NIA l rest id n) (n - 1) ⟨1, rfl, Nat.le_refl _, by omega, ga hid, by simp [go_sem], by simp [go_sem], by simp [go_sem], fun i a b => by omega⟩ ?_
  clear hid
  rintro m st h ⟨k, rfl, hk1, hk, hid, g0, g1, g5, hnd⟩
  have w1 : IntKind.i64.wrap ((k : Int) - 1) = ((k - 1 : Nat) : Int) := by rw [wrap_in (by omega)]; omega
  by_cases hlt : k < n
  rotate_left
  · have : k = n := by omega
    subst this
    simp [go_sem, g0, g5, hln]
    refine hR _ _ _ (.inr rfl) ⟨.msl id 0 4 k none, by simp [resultV, resV, Tryz.f218, go_sem], .inr ⟨id, rest, ?_, ?_, hz, ?_⟩⟩
    all_goals
      have e : dd l = l := by
        unfold dd
        rw [ddj_take _ (Nat.le_refl _) (fun i a b => hnd i a (by omega)), List.take_length]
      rw [e]
    · rw [en]
    · exact hid
    · exact hN
  have hlt' : (k : Int) < n := by omega
  have hkl : k < l.length := by omega
  have hkl1 : k - 1 < l.length := by omega
  have i1 : indexAddrV C.P 23 (.msl id 0 4 n none) (.int .i64 k) = some (.ptr id (4 * k)) := idxRow hlt
  have i2 : indexAddrV C.P 23 (.msl id 0 4 n none) (.int .i64 ((k - 1 : Nat) : Int)) = some (.ptr id (4 * (k - 1))) := idxRow (by omega)
  have l1 := loadRowZ hid hkl
  have l2 := loadRowZ hid hkl1
  have c1 := call219 l[k] l[k - 1] (hs _ (List.getElem_mem _)) (hs _ (List.getElem_mem _))
  have w2 : IntKind.i64.wrap ((k : Int) + 1) = ((k + 1 : Nat) : Int) := by rw [wrap_in (by omega)]; omega
  by_cases he : l[k].cmp l[k - 1] = 0
  rotate_left
  · simp [go_sem, g0, g1, g5, hln, hlt', w1, i1, i2, l1, l2, c1, he, -Int.natCast_add, w2]
    refine ⟨n - (k + 1), by omega, k + 1, rfl, by omega, by omega, hid, by simp [go_sem, g0], by simp [go_sem, g1], by simp [go_sem], fun i a b => ?_⟩
    by_cases e : i < k
    · exact hnd i a e
    · have : i = k := by omega
      subst this
      rw [getD_get hkl, getD_get hkl1]; exact he
  have s1 : sliceV C.P 23 (.msl id 0 4 n none) (some (.int .i64 k)) none none = some (.msl id (4 * k) 4 (n - k) none) := sliceLo hlt
  simp [go_sem, g0, g1, g5, hln, hlt', w1, i1, i2, l1, l2, c1, he, s1]
  have hdk : ddj l k = l.take k := ddj_take k (by omega) hnd
  have hdk1 : ddj l (k + 1) = l.take k := by
    rw [ddj, if_pos ⟨by omega, by rw [getD_get hkl, getD_get hkl1]; exact he⟩, hdk]
  refine W_loop (NIB l rest id n k) (n - (k + 1)) ⟨k + 1, k, rfl, Nat.le_refl _, by omega, by rw [hdk1]; simp; omega, Nat.le_refl _, by rw [hdk1, List.take_append_drop]; exact hid, by simp [go_sem, g0], by simp [go_sem, g1], by simp [go_sem, g5], by simp [go_sem], by simp [go_sem]⟩ ?_
  clear hid g0 g1 g5 l1 l2 c1 he s1 i1 i2 w1 w2 hnd hdk hdk1 hlt'
  rintro m st h ⟨j, p, rfl, hj1, hj, hp, hpj, hid, g0, g1, g5, g6, g7⟩
  have hln6 : lenV C.P 23 (.msl id (4 * k) 4 (n - k) none) = some (.int .i64 ((n - k : Nat) : Int)) := by simp [lenV, u23]
  have hcl : (ddj l j ++ l.drop p).length = l.length := by simp [← hp]; omega
  by_cases hjt : j < n
  · have hjt' : ((j - k : Nat) : Int) < ((n - k : Nat) : Int) := by omega
    have hjl : j < l.length := by omega
    have hjl1 : j - 1 < l.length := by omega
    have i1 : indexAddrV C.P 23 (.msl id (4 * k) 4 (n - k) none) (.int .i64 ((j - k : Nat) : Int)) = some (.ptr id (4 * j)) := by
      rw [idxRow4 (by omega), show k + (j - k) = j by omega]
    have i2 : indexAddrV C.P 23 (.msl id (4 * k) 4 (n - k) none) (.int .i64 ((j - k - 1 : Nat) : Int)) = some (.ptr id (4 * (j - 1))) := by
      rw [idxRow4 (by omega), show k + (j - k - 1) = j - 1 by omega]
    have i3 : indexAddrV C.P 23 (.msl id 0 4 n none) (.int .i64 p) = some (.ptr id (4 * p)) := idxRow (by omega)
    have w1 : IntKind.i64.wrap (((j - k : Nat) : Int) - 1) = ((j - k - 1 : Nat) : Int) := by rw [wrap_in (by omega)]; omega
    have w2 : IntKind.i64.wrap (((j - k : Nat) : Int) + 1) = ((j + 1 - k : Nat) : Int) := by rw [wrap_in (by omega)]; omega
    have w3 : IntKind.i64.wrap ((p : Int) + 1) = ((p + 1 : Nat) : Int) := by rw [wrap_in (by omega)]; omega
    have l1 := loadRowZ hid (k := j) (by omega)
    have l2 := loadRowZ hid (k := j - 1) (by omega)
    have e1 : (ddj l j ++ l.drop p)[j]'(by omega) = l[j] := by
      rw [List.getElem_append_right (by omega)]
      simp only [← hp, List.getElem_drop]
      congr 1; omega
    have e2 : (ddj l j ++ l.drop p)[j - 1]'(by omega) = l[j - 1] := by
      rw [List.getElem_append_right (by omega)]
      simp only [← hp, List.getElem_drop]
      congr 1; omega
    rw [e1] at l1
    rw [e2] at l2
    have c1 := call219 l[j] l[j - 1] (hs _ (List.getElem_mem _)) (hs _ (List.getElem_mem _))
    have hdd : ddj l (j + 1) = if l[j].cmp l[j - 1] = 0 then ddj l j else ddj l j ++ [l[j]] := by
      rw [ddj, getD_get hjl, getD_get hjl1]
      by_cases e : l[j].cmp l[j - 1] = 0
      · rw [if_pos ⟨by omega, e⟩, if_pos e]
      · rw [if_neg (fun x => e x.2), if_neg e]
    by_cases he : l[j].cmp l[j - 1] = 0
    · rw [if_pos he] at hdd
      simp [go_sem, g1, g6, g7, hln6, hjt', w1, i1, i2, l1, l2, c1, he, -Int.natCast_add, w2]
      exact ⟨n - (j + 1), by omega, j + 1, p, rfl, by omega, by omega, by rw [hdd]; exact hp, by omega, by rw [hdd]; exact hid, by simp [go_sem, g0], by simp [go_sem, g1], by simp [go_sem, g5], by simp [go_sem, g6], by simp [go_sem]⟩
    · rw [if_neg he] at hdd
      have s2 := storeRowZ l[j] hid (k := p) (by omega)
      have e3 : (ddj l j ++ l.drop p).set p l[j] = ddj l j ++ [l[j]] ++ l.drop (p + 1) := by
        rw [List.set_append_right _ _ (by omega), ← hp, Nat.sub_self, List.drop_eq_getElem_cons (by omega : p < l.length)]
        simp only [List.set_cons_zero, List.append_assoc, List.singleton_append]
      rw [e3] at s2
      have hlt2 := (List.getElem?_eq_some_iff.1 hid).1
      simp [go_sem, g0, g1, g5, g6, g7, hln6, hjt', w1, i1, i2, l1, l2, c1, he, i3, s2, -Int.natCast_add, w2, w3, -List.append_assoc]
      exact ⟨n - (j + 1), by omega, j + 1, p + 1, rfl, by omega, by omega, by rw [hdd]; simp [← hp], by omega, by rw [hdd]; exact List.getElem?_set_self hlt2, by simp [go_sem, g0], by simp [go_sem, g1], by simp [go_sem], by simp [go_sem, g6], by simp [go_sem]⟩
  · have : j = n := by omega
    subst this
    have s1 : sliceV C.P 23 (.msl id 0 4 j none) (some (.int .i64 p)) none none = some (.msl id (4 * p) 4 (j - p) none) := sliceLo (by omega)
    have s2 : sliceV C.P 23 (.msl id 0 4 j none) none (some (.int .i64 p)) none = some (.msl id 0 4 p none) := sliceHi (by omega)
    obtain ⟨rest', hc, hz', hN'⟩ := clearRowZ hid (k := p) (by omega) hz
    rw [hcl, ← en] at hc
    have hlt2 := (List.getElem?_eq_some_iff.1 hid).1
    have et : (ddj l j ++ l.drop p).take p = dd l := by
      unfold dd
      rw [← en, List.take_append_of_le_length (by omega), List.take_of_length_le (by omega)]
    rw [et] at hc
    simp [go_sem, g0, g5, g6, g7, hln6, s1, s2, hc]
    refine hR _ _ _ (.inr rfl) ⟨.msl id 0 4 p none, by simp [resultV, resV, Tryz.f218, go_sem], .inr ⟨id, rest', ?_, List.getElem?_set_self hlt2, hz', ?_⟩⟩
    · unfold dd
      rw [← en, ← hp]
    · unfold dd
      rw [← en, ← hp]; omega
end Go.VZ

/- Rows of terms: what their cells say. -/
namespace Go.VZ
open Go Go.V TL
theorem enc_inj : ∀ a b : T, enc a = enc b → a = b := by
  refine T.ind fun a ih b h => ?_
  cases a with
  | mk k n s l => cases b with
    | mk k' n' s' l' =>
      rw [enc_eq, enc_eq] at h
      simp only [AV.agg.injEq, List.cons.injEq, AV.int.injEq, AV.str.injEq, true_and, and_true, T.kind, T.name, T.sort, T.kids, terms, AV.isl.injEq] at h ih
      obtain ⟨rfl, rfl, rfl, h⟩ := h
      congr 1
      clear k n s
      induction l generalizing l' with
      | nil => cases l' with
        | nil => rfl
        | cons b m => cases h
      | cons a l ih2 => cases l' with
        | nil => cases h
        | cons b m =>
          simp only [List.map_cons, List.cons.injEq] at h
          rw [ih a (by simp) b h.1, ih2 (fun k hk b hb => ih k (by simp [hk]) b hb) m h.2]
theorem cellsT_inj : ∀ l m : List T, cellsT l = cellsT m → l = m
  | [], [], _ => rfl
  | [], b :: m, h => by rw [cellsT_cons] at h; cases h
  | a :: l, [], h => by rw [cellsT_cons] at h; cases h
  | a :: l, b :: m, h => by
    rw [cellsT_cons, cellsT_cons] at h
    simp only [List.cons_append, List.nil_append, List.cons.injEq] at h
    obtain ⟨h1, h2, h3, h4, h5⟩ := h
    rw [cellsT_inj l m h5, enc_inj a b (by rw [enc_eq, enc_eq, h1, h2, h3, h4])]
theorem cellsT_get {l : List T} {j c : Nat} (hj : j < l.length) (hc : c < 4) : (cellsT l)[4 * j + c]? = (enc l[j]).cells[c]? := by
  induction l generalizing j with
  | nil => simp at hj
  | cons a l ih =>
    have e : cellsT (a :: l) = (enc a).cells ++ cellsT l := rfl
    have e4 : (enc a).cells.length = 4 := by rw [enc_cells]; rfl
    rw [e]
    cases j with
    | zero => rw [List.getElem?_append_left (by omega)]; simp
    | succ j =>
      rw [List.getElem?_append_right (by omega), show 4 * (j + 1) + c - (enc a).cells.length = 4 * j + c by omega, ih (by simpa using hj)]
      simp
end Go.VZ

/- term.ordered: walked over the sort's contract. -/
namespace TL
def ords (l : List T) : List T := dd (srt l)
theorem mem_ords {l : List T} {t : T} (h : t ∈ ords l) : t ∈ l := mem_srt.1 (mem_dd h)
theorem ords_len (l : List T) : (ords l).length ≤ l.length := by
  have := ddj_len (srt l) (srt l).length
  have e := srt_len l
  unfold ords dd
  omega
end TL
namespace Go.VZ
open Go Go.V Go.Proofs TL
theorem call217 {h : H} {v : AV} {l : List T} (r : Row h v l) (hs : ∀ t ∈ l, t.size < 4000000) (hl : l.length < 1000000000) : ∃ h', callV C h (.func 217 []) (some [v, .func 112 []]) = some (.tuple [], h') ∧ Row h' v (srt l) ∧ h'.length = h.length := by
  rw [callV_open (by kernel_rfl) rfl]
  rcases r with ⟨rfl, rfl⟩ | ⟨id, rfl, hid⟩
  · refine ⟨h, Call_prim (C := C) (fn := Tryz.f217) Tryz.func217 rfl, .inl ⟨?_, rfl⟩, rfl⟩
    have := srt_len []
    simpa using this
  · refine ⟨h.set id (.cells (cellsT (srt l)) .live), Call_prim (C := C) (fn := Tryz.f217) Tryz.func217 ?_, .inr ⟨id, by rw [srt_len], List.getElem?_set_self (List.getElem?_eq_some_iff.1 hid).1⟩, by simp⟩
    have hpr : ∀ a, C.prim 217 a h = primSort a h := fun a => by
      have : C.prim = Go.VZ.prim := rfl
      rw [this]; rfl
    rw [hpr]
    have e : ∃ l' : List T, l.length = l'.length ∧ l'.length < 1000000000 ∧ (∀ t ∈ l', t.size < 4000000) ∧ h[id]? = some (.cells (l'.flatMap fun t => (enc t).cells) .live) := ⟨l, rfl, hl, hs, hid⟩
    have ec : e.choose = l := by
      have hc := e.choose_spec.2.2.2
      generalize e.choose = m at hc
      rw [hid] at hc
      simp only [Option.some.injEq, VObj.cells.injEq, and_true] at hc
      exact (cellsT_inj _ _ hc).symm
    have hm : primSort [.msl id 0 4 l.length none, .func 112 []] h = @dite _ (∃ l' : List T, l.length = l'.length ∧ l'.length < 1000000000 ∧ (∀ t ∈ l', t.size < 4000000) ∧ h[id]? = some (.cells (l'.flatMap fun t => (enc t).cells) .live)) (Classical.propDecidable _) (fun e => some (.tuple [], h.set id (.cells ((srt e.choose).flatMap fun t => (enc t).cells) .live))) (fun _ => none) := rfl
    rw [hm, dif_pos e, ec]
    rfl
def NI154 (N : Nat) (l : List T) (v : AV) (m : Nat) (st : PT) (h : H) : Prop := ∃ k : Nat, m = l.length - k ∧ k ≤ l.length ∧ RowZ N h v l ∧ st.get 0 = v ∧ st.get 9 = .int .i64 l.length ∧ st.get 10 = .int .i64 k
theorem RowZ.len {N : Nat} {h : H} {v : AV} {l : List T} (r : RowZ N h v l) : lenV C.P 23 v = some (.int .i64 l.length) := by
  rcases r with ⟨rfl, rfl⟩ | ⟨id, rest, rfl, _⟩ <;> simp [lenV, u23]
set_option maxRecDepth 8000 in
set_option maxHeartbeats 4000000 in
theorem ordered154 {h0 : H} {v : AV} {l : List T} (r : Row h0 v l) (hs : ∀ t ∈ l, t.size < 4000000) (hl : l.length < 1000000000) : ∃ v' h', Go.V.Call C 154 [v] h0 = some (v', h') ∧ RowZ (4 * l.length) h' v' (ords l) := by
  refine Call_WQ rfl Tryz.func154 rfl (by kernel_rfl) (by simp [Tryz.f154]) fun R hR => ?_
  obtain ⟨h1, c1, r1, _⟩ := call217 (h := h0 ++ [.tok 0 25]) (row_ga r) hs hl
  obtain ⟨v2, h2, c2, r2⟩ := compact218 r1.z (fun t ht => hs t (mem_srt.1 ht)) (by rw [srt_len]; exact hl)
  have c2' := (callV_open (f := 218) (by kernel_rfl) rfl).trans c2
  have hln := r2.len
  have hlo : (ords l).length < 1000000000 := by have := ords_len l; omega
  have hso : ∀ t ∈ ords l, t.size < 4000000 := fun t ht => hs t (mem_ords ht)
  rw [srt_len] at r2
  change RowZ (4 * l.length) h2 v2 (ords l) at r2
  change lenV C.P 23 v2 = some (.int .i64 (ords l).length) at hln
  generalize ords l = m at r2 hln hlo hso hR
  generalize 4 * l.length = N at r2 hR
  simp [go_sem, c1, c2', hln]
  refine W_loop (NI154 N m v2) m.length ⟨0, rfl, Nat.zero_le _, r2, by simp [go_sem], by simp [go_sem], by simp [go_sem]⟩ ?_
  clear r2 c2 c2' c1 r1 hln
  rintro _ st h ⟨k, rfl, hk, r2, g0, g9, g10⟩
  by_cases hlt : k < m.length
  · have hlt' : (k : Int) < m.length := by omega
    rcases r2 with ⟨e, _⟩ | ⟨id, rest, rfl, hid, hz, hN⟩
    · subst e; simp at hlt
    have w2 : IntKind.i64.wrap ((k : Int) + 1) = ((k + 1 : Nat) : Int) := by rw [wrap_in (by omega)]; omega
    have i1 : indexAddrV C.P 23 (.msl id 0 4 m.length none) (.int .i64 k) = some (.ptr id (4 * k)) := idxRow hlt
    have l1 := loadRowZ hid hlt
    have s1 := storeRowZ m[k] hid hlt
    rw [List.set_getElem_self] at s1
    have ck := call220 m[k] (hso _ (List.getElem_mem hlt))
    have hlt2 := (List.getElem?_eq_some_iff.1 hid).1
    simp [go_sem, g0, g9, g10, hlt', i1, l1, s1, ck, -Int.natCast_add, w2]
    exact ⟨m.length - (k + 1), by omega, k + 1, rfl, hlt, .inr ⟨id, rest, rfl, List.getElem?_set_self hlt2, hz, hN⟩, by simp [go_sem, g0], by simp [go_sem, g9], by simp [go_sem]⟩
  · have : k = m.length := by omega
    subst this
    simp [go_sem, g0, g9, g10]
    refine hR _ _ _ (.inr rfl) ⟨v2, ?_, r2⟩
    rcases r2 with ⟨_, rfl⟩ | ⟨id, rest, rfl, _⟩ <;> simp [resultV, resV, Tryz.f154, go_sem]
end Go.VZ

/- slices.DeleteFunc on a row of terms: walked. -/
namespace TL
def isVr (t : T) : Bool := decide (t.kind = 1)
end TL
namespace Go.VZ
open Go Go.V Go.Proofs TL
theorem not95 (t : T) : CallP C 95 [enc t] = some (.bool (!isVr t)) := by
  refine CallP_W rfl Tryz.func95 rfl (by kernel_rfl) (by simp [Tryz.f95]) fun R hR => ?_
  simp [go_sem, initS]
  refine hR _ _ _ (.inr rfl) ⟨_, rfl, ?_⟩
  simp [go_sem, isVr]
  exact snap_dat rfl rfl
theorem call95 (t : T) (h : H) : callV C h (.func 95 []) (some [enc t]) = some (.bool (!isVr t), h) := callV_strip (by kernel_rfl) rfl (dat_enc _) (by simp [short_enc]) (by simp) (not95 t)
/-- The place of the first that is no variable. -/
def NI151 (l : List T) (v : AV) (h0 : H) (m : Nat) (st : PT) (h : H) : Prop := ∃ k : Nat, m = l.length - k ∧ k ≤ l.length ∧ h = h0 ∧ st.get 0 = v ∧ st.get 1 = .func 95 [] ∧ st.get 7 = .int .i64 l.length ∧ st.get 8 = .int .i64 k ∧ ∀ t ∈ l.take k, isVr t = true
set_option maxRecDepth 8000 in
set_option maxHeartbeats 4000000 in
theorem index151 {N : Nat} {h0 : H} {v : AV} {l : List T} (r : RowZ N h0 v l) (hl : l.length < 1000000000) : ∃ i : Int, Go.V.Call C 151 [v, .func 95 []] h0 = some (.int .i64 i, h0) ∧ ((i = -1 ∧ ∀ t ∈ l, isVr t = true) ∨ ∃ k : Nat, i = k ∧ ∃ hk : k < l.length, isVr l[k] = false ∧ ∀ t ∈ l.take k, isVr t = true) := by
  suffices hh : ∃ x h', Go.V.Call C 151 [v, .func 95 []] h0 = some (x, h') ∧ (h' = h0 ∧ ∃ i : Int, x = .int .i64 i ∧ ((i = -1 ∧ ∀ t ∈ l, isVr t = true) ∨ ∃ k : Nat, i = k ∧ ∃ hk : k < l.length, isVr l[k] = false ∧ ∀ t ∈ l.take k, isVr t = true)) by
    obtain ⟨x, h', a, rfl, i, rfl, c⟩ := hh
    exact ⟨i, a, c⟩
  refine Call_WQ rfl Tryz.func151 rfl (by kernel_rfl) (by simp [Tryz.f151]) fun R hR => ?_
  have hln := r.len
  simp [go_sem, hln]
  refine W_loop (NI151 l v h0) l.length ⟨0, rfl, Nat.zero_le _, rfl, by simp [go_sem], by simp [go_sem], by simp [go_sem], by simp [go_sem], by simp⟩ ?_
  rintro m st h ⟨k, rfl, hk, rfl, g0, g1, g7, g8, hv⟩
  by_cases hlt : k < l.length
  · have hlt' : (k : Int) < l.length := by omega
    rcases r with ⟨e, _⟩ | ⟨id, rest, rfl, hid, hz, hN⟩
    · subst e; simp at hlt
    have w2 : IntKind.i64.wrap ((k : Int) + 1) = ((k + 1 : Nat) : Int) := by rw [wrap_in (by omega)]; omega
    have i1 : indexAddrV C.P 23 (.msl id 0 4 l.length none) (.int .i64 k) = some (.ptr id (4 * k)) := idxRow hlt
    have l1 := loadRowZ hid hlt
    have c1 := call95 l[k]
    by_cases he : isVr l[k] = true
    · rw [he] at c1
      simp [go_sem, g0, g1, g7, g8, hlt', i1, l1, c1, -Int.natCast_add, w2]
      refine ⟨l.length - (k + 1), by omega, k + 1, rfl, hlt, rfl, by simp [go_sem, g0], by simp [go_sem, g1], by simp [go_sem, g7], by simp [go_sem], fun t ht => ?_⟩
      rw [List.take_succ_eq_append_getElem hlt] at ht
      rcases List.mem_append.1 ht with ht | ht
      · exact hv t ht
      · simp only [List.mem_singleton] at ht; rw [ht]; exact he
    · have he' : isVr l[k] = false := by simpa using he
      rw [he'] at c1
      simp [go_sem, g0, g1, g7, g8, hlt', i1, l1, c1]
      exact hR _ _ _ (.inr rfl) ⟨.int .i64 k, by simp [resultV, resV, Tryz.f151, go_sem], rfl, k, rfl, .inr ⟨k, rfl, hlt, he', hv⟩⟩
  · have : k = l.length := by omega
    subst this
    rw [List.take_length] at hv
    simp [go_sem, g7, g8]
    exact hR _ _ _ (.inr rfl) ⟨.int .i64 (-1), by simp [resultV, resV, Tryz.f151, go_sem], rfl, -1, rfl, .inl ⟨rfl, hv⟩⟩
def NI93 (N : Nat) (l : List T) (id n : Nat) (m : Nat) (st : PT) (h : H) : Prop := ∃ (j p : Nat) (rest : List AV), m = n - j ∧ j ≤ n ∧ p = ((l.take j).filter isVr).length ∧ p + 1 ≤ j ∧ h[id]? = some (.cells (cellsT ((l.take j).filter isVr ++ l.drop p) ++ rest) .live) ∧ Zs rest ∧ 4 * n + rest.length ≤ N ∧ st.get 0 = .msl id 0 4 n none ∧ st.get 1 = .func 95 [] ∧ st.get 5 = .int .i64 p ∧ st.get 6 = .int .i64 j
set_option maxRecDepth 8000 in
set_option maxHeartbeats 4000000 in
theorem delete93 {N : Nat} {h0 : H} {v : AV} {l : List T} (r : RowZ N h0 v l) (hl : l.length < 1000000000) : ∃ v' h', Go.V.Call C 93 [v, .func 95 []] h0 = some (v', h') ∧ RowZ N h' v' (l.filter isVr) := by
  refine Call_WQ rfl Tryz.func93 rfl (by kernel_rfl) (by simp [Tryz.f93]) fun R hR => ?_
  have r1 : RowZ N (h0 ++ [.tok 0 25]) v l := by
    rcases r with e | ⟨id, rest, rfl, hid, hz, hN⟩
    · exact .inl e
    · exact .inr ⟨id, rest, rfl, ga hid, hz, hN⟩
  obtain ⟨i, c1, hi⟩ := index151 r1 hl
  have c1' := (callV_open (f := 151) (by kernel_rfl) rfl).trans c1
  rcases hi with ⟨rfl, hall⟩ | ⟨k, rfl, hk, hv, hbef⟩
  · have ef : l.filter isVr = l := List.filter_eq_self.2 hall
    simp [go_sem, initS, c1']
    refine hR _ _ _ (.inr rfl) ⟨v, ?_, by rw [ef]; exact r1⟩
    rcases r with ⟨_, rfl⟩ | ⟨id, rest, rfl, _⟩ <;> simp [resultV, resV, Tryz.f93, go_sem]
  rcases r1 with ⟨e, _⟩ | ⟨id, rest, rfl, hid, hz, hN⟩
  · subst e; simp at hk
  have hln : lenV C.P 23 (.msl id 0 4 l.length none) = some (.int .i64 l.length) := by simp [lenV, u23]
  obtain ⟨n, en⟩ : ∃ n, n = l.length := ⟨_, rfl⟩
  rw [← en] at hln hl hk c1' ⊢
  have hkn : ¬((k : Int) = -1) := by omega
  have w2 : IntKind.i64.wrap ((k : Int) + 1) = ((k + 1 : Nat) : Int) := by rw [wrap_in (by omega)]; omega
  simp [go_sem, c1', hkn, -Int.natCast_add, w2]
  have ft : (l.take k).filter isVr = l.take k := List.filter_eq_self.2 hbef
  have hkl : k < l.length := by omega
  have ft1 : (l.take (k + 1)).filter isVr = l.take k := by
    rw [List.take_succ_eq_append_getElem hkl, List.filter_append, ft]
    simp [hv]
  refine W_loop (NI93 N l id n) (n - (k + 1)) ⟨k + 1, k, rest, rfl, by omega, by rw [ft1]; simp; omega, Nat.le_refl _, by rw [ft1, List.take_append_drop]; exact hid, hz, by omega, by simp [go_sem], by simp [go_sem], by simp [go_sem], by simp [go_sem]⟩ ?_
  clear hid hz hN rest
  rintro m st h ⟨j, p, rest, rfl, hj, hp, hpj, hid, hz, hN, g0, g1, g5, g6⟩
  have hcl : ((l.take j).filter isVr ++ l.drop p).length = l.length := by
    rw [List.length_append, ← hp, List.length_drop]; omega
  by_cases hjt : j < n
  · have hjt' : (j : Int) < n := by omega
    have hjl : j < l.length := by omega
    have i1 : indexAddrV C.P 23 (.msl id 0 4 n none) (.int .i64 j) = some (.ptr id (4 * j)) := idxRow hjt
    have i3 : indexAddrV C.P 23 (.msl id 0 4 n none) (.int .i64 p) = some (.ptr id (4 * p)) := idxRow (by omega)
    have w2 : IntKind.i64.wrap ((j : Int) + 1) = ((j + 1 : Nat) : Int) := by rw [wrap_in (by omega)]; omega
    have w3 : IntKind.i64.wrap ((p : Int) + 1) = ((p + 1 : Nat) : Int) := by rw [wrap_in (by omega)]; omega
    have l1 := loadRowZ hid (k := j) (by omega)
    have e1 : ((l.take j).filter isVr ++ l.drop p)[j]'(by omega) = l[j] := by
      rw [List.getElem_append_right (by omega)]
      simp only [← hp, List.getElem_drop]
      congr 1; omega
    rw [e1] at l1
    have e4 := st25z l[j] h
    have e5 := ldb25z l[j] h
    have hid2 : (h ++ [.cells (enc l[j]).cells .live])[id]? = some (.cells (cellsT ((l.take j).filter isVr ++ l.drop p) ++ rest) .live) := ga hid
    have c1 := call95 l[j]
    have hft : (l.take (j + 1)).filter isVr = if isVr l[j] = true then (l.take j).filter isVr ++ [l[j]] else (l.take j).filter isVr := by
      rw [List.take_succ_eq_append_getElem hjl, List.filter_append]
      by_cases e : isVr l[j] = true <;> simp [e]
    by_cases he : isVr l[j] = true
    · rw [if_pos he] at hft
      rw [he] at c1
      have s2 := storeRowZ l[j] hid2 (k := p) (by omega)
      have e3 : ((l.take j).filter isVr ++ l.drop p).set p l[j] = (l.take j).filter isVr ++ [l[j]] ++ l.drop (p + 1) := by
        rw [List.set_append_right _ _ (by omega), ← hp, Nat.sub_self, List.drop_eq_getElem_cons (by omega : p < l.length)]
        simp only [List.set_cons_zero, List.append_assoc, List.singleton_append]
      rw [e3] at s2
      have hlt2 := (List.getElem?_eq_some_iff.1 hid2).1
      simp [go_sem, g0, g1, g5, g6, hln, hjt', i1, l1, e4, e5, c1, i3, s2, -Int.natCast_add, w2, w3, -List.append_assoc]
      exact ⟨n - (j + 1), by omega, j + 1, p + 1, rest, rfl, by omega, by rw [hft]; simp [← hp], by omega, by rw [hft]; exact List.getElem?_set_self hlt2, hz, hN, by simp [go_sem, g0], by simp [go_sem, g1], by simp [go_sem], by simp [go_sem]⟩
    · rw [if_neg he] at hft
      have he' : isVr l[j] = false := by simpa using he
      rw [he'] at c1
      simp [go_sem, g0, g1, g6, hln, hjt', i1, l1, e4, e5, c1, -Int.natCast_add, w2]
      exact ⟨n - (j + 1), by omega, j + 1, p, rest, rfl, by omega, by rw [hft]; exact hp, by omega, by rw [hft]; exact hid2, hz, hN, by simp [go_sem, g0], by simp [go_sem, g1], by simp [go_sem, g5], by simp [go_sem]⟩
  · have : j = n := by omega
    subst this
    have s1 : sliceV C.P 23 (.msl id 0 4 j none) (some (.int .i64 p)) none none = some (.msl id (4 * p) 4 (j - p) none) := sliceLo (by omega)
    have s2 : sliceV C.P 23 (.msl id 0 4 j none) none (some (.int .i64 p)) none = some (.msl id 0 4 p none) := sliceHi (by omega)
    obtain ⟨rest', hc, hz', hN'⟩ := clearRowZ hid (k := p) (by omega) hz
    rw [hcl, ← en] at hc
    have hlt2 := (List.getElem?_eq_some_iff.1 hid).1
    rw [en, List.take_length] at hp
    have et : ((l.take j).filter isVr ++ l.drop p).take p = l.filter isVr := by
      rw [en, List.take_length, List.take_append_of_le_length (by omega), List.take_of_length_le (by omega)]
    rw [et] at hc
    simp [go_sem, g0, g5, g6, hln, s1, s2, hc]
    refine hR _ _ _ (.inr rfl) ⟨.msl id 0 4 p none, by simp [resultV, resV, Tryz.f93, go_sem], .inr ⟨id, rest', by rw [← hp], List.getElem?_set_self hlt2, hz', by rw [← hp]; omega⟩⟩
end Go.VZ

/- term.Subterms, term.Vars, query.vars: walked. -/
namespace TL
def single (t : T) : List T := [t]
theorem single_len (t : T) : (single t).length ≤ 1 := Nat.le_refl _
theorem walk_small {f : T → List T} (hf : ∀ t, ∀ x ∈ f t, x = t) {n : Nat} : ∀ t : T, t.size < n → ∀ x ∈ walkT f t, x.size < n := by
  refine T.ind fun t ih hn x hx => ?_
  rw [walkT_eq] at hx
  rcases List.mem_append.1 hx with hx | hx
  · rw [hf t x hx]; exact hn
  · rw [walkTs_map, List.mem_flatMap] at hx
    obtain ⟨k, hk, hx⟩ := hx
    exact ih k hk (by have := kid_size hk; omega) x hx
theorem walks_small {f : T → List T} (hf : ∀ t, ∀ x ∈ f t, x = t) {n : Nat} {l : List T} (hl : ∀ t ∈ l, t.size < n) : ∀ x ∈ walkTs f l, x.size < n := fun x hx => by
  rw [walkTs_map, List.mem_flatMap] at hx
  obtain ⟨k, hk, hx⟩ := hx
  exact walk_small hf k (hl k hk) x hx
theorem single_mem (t : T) : ∀ x ∈ single t, x = t := fun x hx => by simpa [single] using hx
theorem ddj_ne {l : List T} : ∀ j, 0 < j → ddj l j ≠ []
  | 0, h => by omega
  | 1, _ => by simp [ddj]
  | j + 2, _ => by
    rw [ddj]
    split
    · exact ddj_ne (j + 1) (by omega)
    · simp
theorem ords_ne {l : List T} (h : l ≠ []) : ords l ≠ [] := by
  unfold ords dd
  refine ddj_ne _ ?_
  rw [srt_len]
  exact List.length_pos_iff.2 h
end TL
namespace Go.VZ
open Go Go.V Go.Proofs TL
theorem zv23 : zeroV C.P 23 = some (.isl [] .full) := by kernel_rfl
theorem ok3_start : Ok3 0 [] [.cells [.isl [] .full] .live] [] := ⟨.isl [] .full, rfl, .inl ⟨rfl, rfl⟩, fun p hp => by simp at hp⟩
theorem up3 {i3 : Nat} {h : H} {m : List T} (o : VObj) {pr : List (Nat × VObj)} (k : Ok3 i3 pr h m) : Ok3 i3 pr (h ++ [o]) m := (k.push o).less fun _p hp => List.mem_cons_of_mem _ hp
def NI94 (l : List T) (m : Nat) (st : PT) (h : H) : Prop := ∃ k : Nat, m = l.length - k ∧ k ≤ l.length ∧ st.get 3 = .ptr 0 0 ∧ st.get 6 = terms l ∧ st.get 7 = .int .i64 l.length ∧ st.get 8 = .int .i64 k ∧ Ok3 0 [] h (walkTs single (l.take k))
set_option maxRecDepth 8000 in
set_option maxHeartbeats 4000000 in
theorem sub94 (l : List T) (hs : ∀ t ∈ l, t.size < 4000000) (hl : sizes l < 80000000) : ∃ v' h', Go.V.Call C 94 [terms l] [] = some (v', h') ∧ RowZ (4 * (walkTs single l).length) h' v' (ords (walkTs single l)) := by
  refine Call_WQ rfl Tryz.func94 rfl (by kernel_rfl) (by simp [Tryz.f94]) fun R hR => ?_
  have hln := len23t l
  have hlen := len_sizes l
  simp [go_sem, zv23, hln]
  refine W_loop (NI94 l) l.length ⟨0, rfl, Nat.zero_le _, by simp [go_sem], by simp [go_sem], by simp [go_sem], by simp [go_sem], ok3_start⟩ ?_
  rintro m st h ⟨k, rfl, hk, g3, g6, g7, g8, ok⟩
  by_cases hlt : k < l.length
  · have hlt' : (k : Int) < l.length := by omega
    have hix := idx23t l k hlt
    have e4 := st25z l[k] h
    have e5 := ldb25z l[k] h
    have w2 : IntKind.i64.wrap ((k : Int) + 1) = ((k + 1 : Nat) : Int) := by rw [wrap_in (by omega)]; omega
    have hks := hs _ (List.getElem_mem hlt)
    have hts := take_sizes hlt
    have htl := take_sizes_le l (k + 1)
    have hwl := walkTs_len single single_len (l.take k)
    obtain ⟨h2, c2, ok2⟩ := walk152 153 [.ptr 0 0] 0 [] single single_len (clo153 0) l[k] (h ++ [.cells (enc l[k]).cells .live]) (walkTs single (l.take k)) hks (by omega) (up3 _ ok)
    have cv := (callV_open (f := 152) (by kernel_rfl) rfl).trans c2
    simp [go_sem, g3, g6, g7, g8, hlt', hix, ld25, e4, e5, cv, -Int.natCast_add, w2]
    refine ⟨l.length - (k + 1), by omega, k + 1, rfl, hlt, by simp [go_sem, g3], by simp [go_sem, g6], by simp [go_sem, g7], by simp [go_sem], ?_⟩
    have := ok2 _ (up3 _ ok)
    rw [List.take_succ_eq_append_getElem hlt, walkTs_append]
    simpa [walkTs] using this
  · have : k = l.length := by omega
    subst this
    rw [List.take_length] at ok
    obtain ⟨v, k1, k2, _⟩ := ok
    have l1 := ld23v k1 k2
    have hwl := walkTs_len single single_len l
    obtain ⟨v', h', c1, r⟩ := ordered154 k2 (walks_small single_mem hs) (by omega)
    have cv := (callV_open (f := 154) (by kernel_rfl) rfl).trans c1
    simp [go_sem, g3, g7, g8, l1, cv]
    refine hR _ _ _ (.inr rfl) ⟨v', ?_, r⟩
    rcases r with ⟨_, rfl⟩ | ⟨id, rest, rfl, _⟩ <;> simp [resultV, resV, Tryz.f94, go_sem]
theorem dats_zs : ∀ {r : List AV}, Zs r → ∃ r', dats r = some r' ∧ Zs r' ∧ r'.length = r.length
  | [], _ => ⟨[], rfl, fun x hx => by simp at hx, rfl⟩
  | a :: r, hz => by
    obtain ⟨r', h1, h2, h3⟩ := dats_zs (r := r) fun x hx => hz x (by simp [hx])
    have : ∃ a', dat a = some a' ∧ (a' = .int .i64 0 ∨ a' = .str ⟨#[]⟩ ∨ a' = .isl [] .full ∨ a' = .isl [] .unk) := by
      rcases hz a (by simp) with rfl | rfl | rfl | rfl
      · exact ⟨_, rfl, .inl rfl⟩
      · exact ⟨_, rfl, .inr (.inl rfl)⟩
      · exact ⟨.isl [] .unk, rfl, .inr (.inr (.inr rfl))⟩
      · exact ⟨.isl [] .unk, rfl, .inr (.inr (.inr rfl))⟩
    obtain ⟨a', e, ha⟩ := this
    refine ⟨a' :: r', by simp only [dats, e, h1], fun x hx => ?_, by simp [h3]⟩
    rcases List.mem_cons.1 hx with rfl | hx
    · exact ha
    · exact h2 x hx
theorem short_zs {r : List AV} (hz : Zs r) : r.all short = true := by
  rw [List.all_eq_true]
  intro x hx
  rcases hz x hx with rfl | rfl | rfl | rfl <;> rfl
theorem callV_ownM4 {f : FuncId} {h : H} {args args' : List AV} (hb : hasBody C.P f = true) (hm : C.mode f = .ownM) (hd : dats args = some args') (hs : args.all short = true) (hl : args.length < 90000)
    {id len sz : Nat} {h1 : H} {cs cs' : List AV} (hsz : 1 < sz) (hc : Go.V.Call C f args' [] = some (.msl id 0 sz len none, h1)) (hid : h1[id]? = some (.cells cs .live)) (hcs : dats cs = some cs') (hsh : cs.all short = true) (hcl : cs.length ≤ 90000) (hlen : len * sz ≤ cs.length) :
    callV C h (.func f []) (some args) = some (.msl h.length 0 sz len none, h ++ [.cells cs' .live]) := by
  obtain ⟨e1, e2⟩ := dats_snap (h := h) hd hs deep (by unfold deep; omega)
  simp only [callV, hb, if_true, List.append_nil]
  unfold applyCall
  rw [hm]
  dsimp only
  rw [e2]
  simp only [Go.V.freeze, e1]
  rw [hc]
  dsimp only
  unfold finishV
  dsimp only
  have f1 := (dats_snap (h := freezeBut h1 id) hcs hsh deep (by unfold deep; omega)).1
  have f2 : adoptR C.P .ownM h1 h (.msl id 0 sz len none) = none := by
    simp only [adoptR, adopt, hid]
    rw [if_neg (by omega)]
  rw [f2]
  simp only [adoptD, adoptM, hid, f1]
  rw [if_pos ⟨by omega, by omega⟩]
end Go.VZ

/- query.vars and term.Vars: walked. -/
namespace Go.VZ
open Go Go.V Go.Proofs TL
theorem chunk_cellsTr : ∀ (l : List T) (r : List AV), chunk 4 l.length (cellsT l ++ r) = l.map enc
  | [], r => rfl
  | a :: l, r => by
    have := chunk_cellsTr l r
    rw [cellsT_cons]
    simp only [List.length_cons, chunk, List.cons_append, List.nil_append, List.take_succ_cons, List.take_zero, List.drop_succ_cons, List.drop_zero, List.map_cons, this, enc_eq]
theorem snap_rowZ {N : Nat} {h : H} {v : AV} {l : List T} (r : RowZ N h v l) (hN : N ≤ 80000) : snap (freezeAll h) deep v = some (terms l) := by
  rcases r with ⟨rfl, rfl⟩ | ⟨id, rest, rfl, hid, hz, hl⟩
  · exact snap_dat rfl rfl
  · obtain ⟨r', d1, d2, d3⟩ := dats_zs hz
    have e3 := cellsT_len l
    have e1 := freezeAll_cells hid
    have hlen : (cellsT l ++ rest).length ≤ 80000 := by rw [List.length_append, e3]; omega
    have e2 := (dats_snap (h := freezeAll h) (dats_append (dats_cellsT l) d1) (by rw [List.all_append, short_cellsT, short_zs hz]; rfl) 999999 (by omega)).1
    have : deep = 999999 + 1 := rfl
    rw [this]
    simp only [snap, e1, e2]
    rw [if_pos (by rw [List.length_append, e3]; omega), List.drop_zero, chunk_cellsTr]; rfl
def allTerms (fs : List Fa) : List T := fs.flatMap Fa.terms
theorem allTerms_take {fs : List Fa} {k : Nat} (hk : k < fs.length) : allTerms (fs.take (k + 1)) = allTerms (fs.take k) ++ fs[k].terms := by
  rw [List.take_succ_eq_append_getElem hk, allTerms, List.flatMap_append]; simp [allTerms]
/-- The variables of facts, ordered. -/
def varsF (fs : List Fa) : List T := (ords (walkTs single (allTerms fs))).filter isVr
def z35c : List AV := [.int .i64 0, .int .i64 0, .isl [] .full]
theorem zv35 : zeroV C.P 35 = some (.agg z35c) := by kernel_rfl
theorem st35z (f : Fa) (h : H) : storeV C.P (h ++ [.cells z35c .live]) 35 (.ptr h.length 0) (encFa f) = some (h ++ [.cells (faC f) .live]) := by
  simp [storeV, s35, encFa, faC, z35c]
theorem ld35b (f : Fa) (h : H) : loadV C.P (h ++ [.cells (faC f) .live]) 35 (.ptr h.length 0) = some (encFa f) := by
  simp [loadV, cellsAt, a35, s35, faC, encFa]
def NI49 (fs : List Fa) (m : Nat) (st : PT) (h : H) : Prop := ∃ k : Nat, m = fs.length - k ∧ k ≤ fs.length ∧ st.get 6 = factsV fs ∧ st.get 7 = .int .i64 fs.length ∧ st.get 8 = .int .i64 k ∧ OwnR 25 h (st.get 3) ((allTerms (fs.take k)).map enc)
theorem allTerms_le (fs : List Fa) (k : Nat) : (allTerms (fs.take k)).length ≤ (allTerms fs).length := by
  conv => rhs; rw [← List.take_append_drop k fs]
  simp only [allTerms, List.flatMap_append, List.length_append]; omega
set_option maxRecDepth 8000 in
set_option maxHeartbeats 4000000 in
theorem vars49 (fs : List Fa) (hs : ∀ t ∈ allTerms fs, t.size < 4000000) (hl : sizes (allTerms fs) ≤ 10000) (hfl : fs.length ≤ 10000) (hne : allTerms fs ≠ []) : CallP C 49 [factsV fs] = some (terms (varsF fs)) := by
  refine CallP_W rfl Tryz.func49 rfl (by kernel_rfl) (by simp [Tryz.f49]) fun R hR => ?_
  have hln := len33f fs
  have hal := len_sizes (allTerms fs)
  simp [go_sem, hln]
  refine W_loop (NI49 fs) fs.length ⟨0, rfl, Nat.zero_le _, by simp [go_sem], by simp [go_sem], by simp [go_sem], .inr ⟨1, by simp [go_sem, allTerms]⟩⟩ ?_
  rintro m st h ⟨k, rfl, hk, g6, g7, g8, go⟩
  obtain ⟨v3, e3⟩ : ∃ v, v = st.get 3 := ⟨_, rfl⟩
  rw [← e3] at go
  by_cases hlt : k < fs.length
  · have hlt' : (k : Int) < fs.length := by omega
    have hix : indexAddrV C.P 33 (factsV fs) (.int .i64 k) = some (.iptr (encFa fs[k]) 0) := idx33 fs k hlt .unk
    have w2 : IntKind.i64.wrap ((k : Int) + 1) = ((k + 1 : Nat) : Int) := by rw [wrap_in (by omega)]; omega
    have e4 := st35z fs[k] h
    have l35 := ld35i fs[k] h
    obtain ⟨h2, eh2⟩ : ∃ g, g = h ++ [.cells (faC fs[k]) .live] := ⟨_, rfl⟩
    have nb : h2[h.length]? = some (.cells (faC fs[k]) .live) := by rw [eh2]; simp
    have l23 := ld23f nb
    rw [← eh2] at e4
    have go2 : OwnR 25 h2 v3 ((allTerms (fs.take k)).map enc) := by rw [eh2]; exact go.keep (Keep.append _ _ none) (by simp)
    have htl := allTerms_le fs (k + 1)
    rw [allTerms_take hlt, List.length_append] at htl
    obtain ⟨v', h', ha, ho, _, _⟩ := append23 (ys := fs[k].terms) (x := .unk) go2 (by omega)
    rw [← allTerms_take hlt] at ho
    change appendW C.P false h2 23 v3 (terms fs[k].terms) = some (v', h') at ha
    simp [go_sem, g6, g7, g8, ← e3, hlt', hix, l35, zv35, e4, l23, ha, cells_agg, -Int.natCast_add, w2]
    exact ⟨fs.length - (k + 1), by omega, k + 1, rfl, hlt, by simp [go_sem, g6], by simp [go_sem, g7], by simp [go_sem], by simpa [go_sem] using ho⟩
  · have : k = fs.length := by omega
    subst this
    rw [List.take_length] at go
    obtain ⟨x, hx⟩ := go.isl
    have hwl := walkTs_len single single_len (allTerms fs)
    obtain ⟨v1, h1, c1, r1⟩ := sub94 (allTerms fs) hs (by omega)
    have hwne : walkTs single (allTerms fs) ≠ [] := by
      intro e
      cases ha : allTerms fs with
      | nil => exact hne ha
      | cons a l => rw [ha, walkTs, walkT_eq] at e; simp [single] at e
    rcases r1 with ⟨e, _⟩ | ⟨id, rest, rfl, hid, hz, hN⟩
    · exact absurd e (ords_ne hwne)
    obtain ⟨rest', d1, d2, d3⟩ := dats_zs hz
    have e3' := cellsT_len (ords (walkTs single (allTerms fs)))
    have cv : callV C h (.func 94 []) (some [v3]) = some (.msl h.length 0 4 (ords (walkTs single (allTerms fs))).length none, h ++ [.cells (cellsT (ords (walkTs single (allTerms fs))) ++ rest') .live]) := by
      rw [hx]
      exact callV_ownM4 (by kernel_rfl) rfl (args' := [terms (allTerms fs)]) rfl rfl (by simp) (by omega) c1 hid (dats_append (dats_cellsT _) d1) (by rw [List.all_append, short_cellsT, short_zs hz]; rfl) (by rw [List.length_append, e3']; omega) (by rw [List.length_append, e3']; omega)
    have r2 : RowZ (4 * (walkTs single (allTerms fs)).length) (h ++ [.cells (cellsT (ords (walkTs single (allTerms fs))) ++ rest') .live]) (.msl h.length 0 4 (ords (walkTs single (allTerms fs))).length none) (ords (walkTs single (allTerms fs))) :=
      .inr ⟨h.length, rest', rfl, by simp, d2, by rw [d3]; exact hN⟩
    have hol := ords_len (walkTs single (allTerms fs))
    obtain ⟨v2, h2, c2, r3⟩ := delete93 r2 (by omega)
    have cv2 := (callV_open (f := 93) (by kernel_rfl) rfl).trans c2
    simp [go_sem, g7, g8, ← e3, cv, cv2]
    refine hR _ _ _ (.inr rfl) ⟨v2, ?_, snap_rowZ r3 (by omega)⟩
    rcases r3 with ⟨_, rfl⟩ | ⟨id, rest, rfl, _⟩ <;> simp [resultV, resV, Tryz.f49, go_sem]
theorem call49 (fs : List Fa) (hs : ∀ t ∈ allTerms fs, t.size < 4000000) (hl : sizes (allTerms fs) ≤ 10000) (hfl : fs.length ≤ 10000) (hne : allTerms fs ≠ []) (h : H) : callV C h (.func 49 []) (some [factsV fs]) = some (terms (varsF fs), h) := callV_strip (by kernel_rfl) rfl (args' := [factsV fs]) rfl rfl (by simp) (vars49 fs hs hl hfl hne)
/-- The variables of a term, ordered. -/
def varsT (t : T) : List T := ords (walkT (kindOnly 1) t)
theorem kind_mem (k : Int) (t : T) : ∀ x ∈ kindOnly k t, x = t := fun x hx => by
  unfold kindOnly at hx; split at hx
  · simpa using hx
  · simp at hx
theorem kind_len (k : Int) (t : T) : (kindOnly k t).length ≤ 1 := by unfold kindOnly; split <;> simp
set_option maxRecDepth 8000 in
set_option maxHeartbeats 4000000 in
theorem kind114 (t : T) (k : Int) (hs : t.size ≤ 10000) : CallP C 114 [enc t, .int .i64 k] = some (terms (ords (walkT (kindOnly k) t))) := by
  refine CallP_W rfl Tryz.func114 rfl (by kernel_rfl) (by simp [Tryz.f114]) fun R hR => ?_
  obtain ⟨h0, eh0⟩ : ∃ g : H, g = [.cells (enc t).cells .live, .cells [.int .i64 k] .live, .tok 0 25, .cells [.isl [] .full] .live] := ⟨_, rfl⟩
  have ok : Ok3 3 [(1, .cells [.int .i64 k] .live)] h0 [] := ⟨.isl [] .full, by rw [eh0]; rfl, .inl ⟨rfl, rfl⟩, fun p hp => by
    simp only [List.mem_singleton] at hp; subst hp
    exact ⟨by rw [eh0]; rfl, by simp, by simp [idOf]⟩⟩
  have l0 : loadV C.P h0 25 (.ptr 0 0) = some (enc t) := ldn25 t (by rw [eh0]; rfl)
  obtain ⟨h1, c1, ok1⟩ := walk152 174 [.ptr 1 0, .ptr 3 0] 3 _ (kindOnly k) (kind_len k) (clo174 1 3 k) t h0 [] (by omega) (by simp; omega) ok
  have cv := (callV_open (f := 152) (by kernel_rfl) rfl).trans c1
  obtain ⟨v, k1, k2, _⟩ := ok1 _ ok
  rw [List.nil_append] at k2
  have l1 := ld23v k1 k2
  have hwl := walkT_len (kindOnly k) (kind_len k) t
  obtain ⟨v', h', c2, r⟩ := ordered154 k2 (walk_small (kind_mem k) t (by omega)) (by omega)
  have cv2 := (callV_open (f := 154) (by kernel_rfl) rfl).trans c2
  have b3 : ∀ h : H, boxV C.P h 3 (.int .i64 k) = some (.ptr h.length 0, h ++ [.cells [.int .i64 k] .live]) := fun h => by simp [boxV, s3, AV.cells, notTuple]
  simp [go_sem, box25, b3, zv23, AV.cells]
  rw [← enc_cells, ← eh0]
  simp [go_sem, l0, cv, l1, cv2]
  refine hR _ _ _ (.inr rfl) ⟨v', ?_, snap_rowZ r (by omega)⟩
  rcases r with ⟨_, rfl⟩ | ⟨id, rest, rfl, _⟩ <;> simp [resultV, resV, Tryz.f114, go_sem]
theorem call114 (t : T) (k : Int) (hs : t.size ≤ 10000) (h : H) : callV C h (.func 114 []) (some [enc t, .int .i64 k]) = some (terms (ords (walkT (kindOnly k) t)), h) := callV_strip (by kernel_rfl) rfl (args' := [enc t, .int .i64 k]) (by rw [enc_eq]; rfl) (by simp [short_enc, short_int]) (by simp) (kind114 t k hs)
theorem vars63 (t : T) (hs : t.size ≤ 10000) : CallP C 63 [enc t] = some (terms (varsT t)) := by
  refine CallP_W rfl Tryz.func63 rfl (by kernel_rfl) (by simp [Tryz.f63]) fun R hR => ?_
  have c1 := call114 t 1 hs
  have l1 : loadV C.P [.cells [.int .i64 t.kind, .str t.name, .int .i64 t.sort, terms t.kids] .live, .tok 0 25] 25 (.ptr 0 0) = some (enc t) := by
    simp [loadV, cellsAt, a25, s25]; rw [enc_eq]
  simp [go_sem, initS, box25, l1, c1]
  exact hR _ _ _ (.inr rfl) ⟨terms (varsT t), by simp [resultV, resV, Tryz.f63, go_sem, varsT], snap_dat rfl rfl⟩
theorem call63 (t : T) (hs : t.size ≤ 10000) (h : H) : callV C h (.func 63 []) (some [enc t]) = some (terms (varsT t), h) := callV_strip (by kernel_rfl) rfl (dat_enc _) (by simp [short_enc]) (by simp) (vars63 t hs)
/-- Whether a binding is of that variable, to a term without variables. -/
def bindOk (b : T × T) (v : T) : Bool := decide (b.1.cmp v = 0) && decide (varsT b.2 = [])
end Go.VZ

/- The bindings of an inference against the variables: the program's way. -/
namespace Go.VZ
open Go Go.V Go.Proofs TL
theorem ldB0 {h : H} {i : Nat} {b : T × T} (hi : h[i]? = some (.cells (encB b).cells .live)) : loadV C.P h 25 (.ptr i 0) = some (enc b.1) := by
  simp only [encB, cells_agg] at hi
  simp [loadV, hi, cellsAt, a25, s25]; rw [enc_eq]
theorem ldB4 {h : H} {i : Nat} {b : T × T} (hi : h[i]? = some (.cells (encB b).cells .live)) : loadV C.P h 25 (.ptr i 4) = some (enc b.2) := by
  simp only [encB, cells_agg] at hi
  simp [loadV, hi, cellsAt, a25, s25]; rw [enc_eq]
theorem ldB {h : H} {i : Nat} {b : T × T} (hi : h[i]? = some (.cells (encB b).cells .live)) : loadV C.P h 86 (.ptr i 0) = some (encB b) := by
  simp only [encB, cells_agg] at hi
  simp [loadV, hi, cellsAt, a86, s86, encB]
theorem isEmpty_terms (l : List T) : decide ((l.length : Int) = 0) = decide (l = []) := by
  cases l <;> simp
  omega
set_option maxRecDepth 8000 in
set_option maxHeartbeats 1000000 in
theorem ok61 (b : T × T) (v : T) (h1 : b.1.size ≤ 10000) (h2 : b.2.size ≤ 10000) (h3 : v.size < 4000000) : CallP C 61 [encB b, enc v] = some (.bool (bindOk b v)) := by
  refine CallP_W rfl Tryz.func61 rfl (by kernel_rfl) (by simp [Tryz.f61]) fun R hR => ?_
  have c1 := call62 b.1 v (by omega) h3
  have c2 := call63 b.2 h2
  have hln := len23t (varsT b.2)
  obtain ⟨h0, eh0⟩ : ∃ g : H, g = [.cells (encB b).cells .live, .cells (enc v).cells .live] := ⟨_, rfl⟩
  have m0 : h0[0]? = some (.cells (encB b).cells .live) := by rw [eh0]; rfl
  have m1 : h0[1]? = some (.cells (enc v).cells .live) := by rw [eh0]; rfl
  have l0 := ldB0 m0
  have l4 := ldB4 m0
  have l1 := ldn25 v m1
  by_cases e : b.1.cmp v = 0
  · simp [go_sem, box86, box25]
    rw [← enc_cells, ← eh0]
    simp [go_sem, l0, l1, l4, c1, c2, e, hln]
    refine hR _ _ _ (.inr rfl) ⟨_, rfl, ?_⟩
    simp [go_sem, bindOk, e]
    refine (snap_dat rfl rfl).trans ?_
    rfl
  · simp [go_sem, box86, box25]
    rw [← enc_cells, ← eh0]
    simp [go_sem, l0, l1, c1, e]
    refine hR _ _ _ (.inr rfl) ⟨_, rfl, ?_⟩
    simp [go_sem, bindOk, e]
    exact snap_dat rfl rfl
theorem call61 (b : T × T) (v : T) (h1 : b.1.size ≤ 10000) (h2 : b.2.size ≤ 10000) (h3 : v.size < 4000000) (h : H) : callV C h (.func 61 []) (some [encB b, enc v]) = some (.bool (bindOk b v), h) := callV_strip (by kernel_rfl) rfl (args' := [encB b, enc v]) (by rw [enc_eq]; rfl) (by simp [short_encB, short_enc]) (by simp) (ok61 b v h1 h2 h3)
def okB : List (T × T) → List T → Bool
  | [], [] => true
  | b :: l, v :: m => bindOk b v && okB l m
  | _, _ => false
theorem okB_len : ∀ {l : List (T × T)} {m : List T}, l.length ≠ m.length → okB l m = false
  | [], [], h => by simp at h
  | [], _ :: _, _ => rfl
  | _ :: _, [], _ => rfl
  | b :: l, v :: m, h => by rw [okB, okB_len (by simpa using h), Bool.and_false]
def NI60 (l : List (T × T)) (m : List T) (n : Nat) (st : PT) (_h : H) : Prop := ∃ k : Nat, n = l.length - k ∧ k ≤ l.length ∧ st.get 1 = terms m ∧ st.get 2 = .func 61 [] ∧ st.get 15 = binds l ∧ st.get 16 = .int .i64 l.length ∧ st.get 17 = .int .i64 k ∧ okB l m = okB (l.drop k) (m.drop k)
set_option maxRecDepth 8000 in
set_option maxHeartbeats 4000000 in
theorem equal60 (l : List (T × T)) (m : List T) (hl : l.length ≤ 10000) (_hm : m.length ≤ 10000) (hs : ∀ b ∈ l, b.1.size ≤ 10000 ∧ b.2.size ≤ 10000) (hv : ∀ t ∈ m, t.size < 4000000) : CallP C 60 [binds l, terms m, .func 61 []] = some (.bool (okB l m)) := by
  refine CallP_W rfl Tryz.func60 rfl (by kernel_rfl) (by simp [Tryz.f60]) fun R hR => ?_
  have fin : ∀ (st : PT) (h : H) (b : Bool), st.get 6 = .bool b → okB l m = b → R .ret st h := fun st h e h2 he => hR _ _ _ (.inr rfl) ⟨.bool e, by simp [resultV, resV, Tryz.f60, h2], by rw [he]; exact snap_dat rfl rfl⟩
  have ln1 : lenV C.P 46 (binds l) = some (.int .i64 l.length) := by simp [binds, len46]
  have ln2 := len23t m
  by_cases he : l.length = m.length
  rotate_left
  · have he' : ¬((l.length : Int) = m.length) := by omega
    simp [go_sem, initS, ln1, ln2, he']
    exact fin _ _ false (by simp [go_sem]) (okB_len he)
  have he' : (l.length : Int) = m.length := by omega
  simp [go_sem, ln1, ln2, he']
  rw [← he']
  refine W_loop (NI60 l m) l.length ⟨0, rfl, Nat.zero_le _, by simp [go_sem], by simp [go_sem], by simp [go_sem], by simp [go_sem], by simp [go_sem], rfl⟩ ?_
  rintro n st h ⟨k, rfl, hk, g1, g2, g15, g16, g17, hd⟩
  by_cases hlt : k < l.length
  · have hlt' : (k : Int) < l.length := by omega
    have hltm : k < m.length := by omega
    have ix1 : indexAddrV C.P 46 (binds l) (.int .i64 k) = some (.iptr (encB l[k]) 0) := idx46 l k hlt .unk
    have ix2 := idx23t m k hltm
    have w2 : IntKind.i64.wrap ((k : Int) + 1) = ((k + 1 : Nat) : Int) := by rw [wrap_in (by omega)]; omega
    have e1 := fun c1 c2 c3 c4 c5 c6 c7 c8 => st86 l[k] c1 c2 c3 c4 c5 c6 c7 c8 h
    obtain ⟨h2, eh2⟩ : ∃ g, g = h ++ [.cells (encB l[k]).cells .live] := ⟨_, rfl⟩
    have e2 := st25z m[k] h2
    obtain ⟨h3, eh3⟩ : ∃ g, g = h2 ++ [.cells (enc m[k]).cells .live] := ⟨_, rfl⟩
    have n1 : h3[h.length]? = some (.cells (encB l[k]).cells .live) := by rw [eh3, eh2]; simp
    have n2 : h3[h2.length]? = some (.cells (enc m[k]).cells .live) := by rw [eh3]; simp
    have l1 := ldB n1
    have l2 := ldn25 m[k] n2
    rw [← eh3] at e2
    simp only [← eh2] at e1
    have hb := hs _ (List.getElem_mem hlt)
    have c1 := call61 l[k] m[k] hb.1 hb.2 (hv _ (List.getElem_mem hltm))
    rw [List.drop_eq_getElem_cons hlt, List.drop_eq_getElem_cons hltm, okB] at hd
    by_cases hz : bindOk l[k] m[k] = true
    · rw [hz, Bool.true_and] at hd
      simp [go_sem, g1, g2, g15, g16, g17, hlt', ix1, ix2, ld86, ld25, cells_agg, e1, e2, l1, l2, c1, hz, -Int.natCast_add, w2]
      exact ⟨l.length - (k + 1), by omega, k + 1, rfl, hlt, by simp [go_sem, g1], by simp [go_sem, g2], by simp [go_sem, g15], by simp [go_sem, g16], by simp [go_sem], hd⟩
    · have hz' : bindOk l[k] m[k] = false := by simpa using hz
      rw [hz', Bool.false_and] at hd
      simp [go_sem, g1, g2, g15, g16, g17, hlt', ix1, ix2, ld86, ld25, cells_agg, e1, e2, l1, l2, c1, hz']
      exact fin _ _ false (by simp [go_sem]) hd
  · have : k = l.length := by omega
    subst this
    rw [List.drop_length, he, List.drop_length, okB] at hd
    simp [go_sem, g16, g17]
    exact fin _ _ true (by simp [go_sem]) hd
theorem call60 (l : List (T × T)) (m : List T) (x : Ext) (hl : l.length ≤ 10000) (hm : m.length ≤ 10000) (hs : ∀ b ∈ l, b.1.size ≤ 10000 ∧ b.2.size ≤ 10000) (hv : ∀ t ∈ m, t.size < 4000000) (h : H) : callV C h (.func 60 []) (some [binds l, .isl (m.map enc) x, .func 61 []]) = some (.bool (okB l m), h) := callV_strip (by kernel_rfl) rfl (args' := [binds l, terms m, .func 61 []]) rfl rfl (by simp) (equal60 l m hl hm hs hv)
end Go.VZ

/- The reference's sets of terms: walked. -/
namespace TL
/-- A term put into a set. -/
def addS (t : T) : List T → List T
  | [] => [t]
  | x :: r => if t.cmp x < 0 then t :: x :: r else if t.cmp x = 0 then x :: r else x :: addS t r
def setS (l : List T) : List T := l.foldl (fun s t => addS t s) []
theorem mem_addS {t x : T} : ∀ {s : List T}, x ∈ addS t s ↔ x = t ∨ x ∈ s
  | [] => by simp [addS]
  | y :: r => by
    rw [addS]
    split
    · simp
    · split
      · rename_i h1 h2
        have e := cmp_zero.1 h2
        subst e
        simp
      · rw [List.mem_cons, mem_addS (s := r), List.mem_cons]
        constructor
        · rintro (h | h | h)
          · exact .inr (.inl h)
          · exact .inl h
          · exact .inr (.inr h)
        · rintro (h | h | h)
          · exact .inr (.inl h)
          · exact .inl h
          · exact .inr (.inr h)
theorem addS_len (t : T) : ∀ s : List T, (addS t s).length ≤ s.length + 1
  | [] => by simp [addS]
  | x :: r => by
    rw [addS]
    split
    · simp
    · split
      · simp
      · have := addS_len t r
        simp; omega
theorem mem_setS {x : T} {l : List T} : x ∈ setS l ↔ x ∈ l := by
  have key : ∀ (l s : List T), x ∈ l.foldl (fun s t => addS t s) s ↔ x ∈ s ∨ x ∈ l := by
    intro l
    induction l with
    | nil => intro s; simp
    | cons a l ih =>
      intro s
      rw [List.foldl_cons, ih, mem_addS, List.mem_cons]
      constructor
      · rintro ((h | h) | h)
        · exact .inr (.inl h)
        · exact .inl h
        · exact .inr (.inr h)
      · rintro (h | h | h)
        · exact .inl (.inr h)
        · exact .inl (.inl h)
        · exact .inr h
  simpa [setS] using key l []
theorem setS_len (l : List T) : (setS l).length ≤ l.length := by
  have key : ∀ (l s : List T), (l.foldl (fun s t => addS t s) s).length ≤ s.length + l.length := by
    intro l
    induction l with
    | nil => intro s; simp
    | cons a l ih =>
      intro s
      have := ih (addS a s)
      have := addS_len a s
      rw [List.foldl_cons, List.length_cons]; omega
  simpa [setS] using key l []
theorem setS_take {l : List T} {k : Nat} (hk : k < l.length) : setS (l.take (k + 1)) = addS l[k] (setS (l.take k)) := by
  rw [List.take_succ_eq_append_getElem hk, setS, List.foldl_append]; rfl
/-- One step of putting a term into a set: what stands, and whether it is in. -/
def addJ (t : T) (s : List T) : Nat → List T × Bool
  | 0 => ([], false)
  | j + 1 =>
    let x := s.getD j default
    let (o, d) := addJ t s j
    if d = false ∧ t.cmp x ≤ 0 then ((if t.cmp x < 0 then o ++ [t] else o) ++ [x], true) else (o ++ [x], d)
def addE (t : T) (s : List T) : List T := if (addJ t s s.length).2 = true then (addJ t s s.length).1 else (addJ t s s.length).1 ++ [t]
theorem addJ_eq (t : T) (s : List T) : ∀ k, k ≤ s.length → ((addJ t s k).2 = false → addJ t s k = (s.take k, false) ∧ addS t s = s.take k ++ addS t (s.drop k)) ∧ ((addJ t s k).2 = true → addS t s = (addJ t s k).1 ++ s.drop k)
  | 0, _ => by simp [addJ]
  | k + 1, hk => by
    obtain ⟨h1, h2⟩ := addJ_eq t s k (by omega)
    have hlt : k < s.length := by omega
    have hg : s.getD k default = s[k] := by rw [List.getD_eq_getElem?_getD, List.getElem?_eq_getElem hlt]; rfl
    have hd : addJ t s (k + 1) = if (addJ t s k).2 = false ∧ t.cmp s[k] ≤ 0 then ((if t.cmp s[k] < 0 then (addJ t s k).1 ++ [t] else (addJ t s k).1) ++ [s[k]], true) else ((addJ t s k).1 ++ [s[k]], (addJ t s k).2) := by
      rw [addJ, hg]
    rw [hd]
    cases e : (addJ t s k).2 with
    | true =>
      rw [if_neg (by simp)]
      refine ⟨fun x => by simp at x, fun _ => ?_⟩
      rw [h2 e, List.drop_eq_getElem_cons hlt]; simp
    | false =>
      obtain ⟨h3, h4⟩ := h1 e
      rw [h3]
      by_cases hc : t.cmp s[k] ≤ 0
      · rw [if_pos ⟨rfl, hc⟩]
        refine ⟨fun x => by simp at x, fun _ => ?_⟩
        rw [h4, List.drop_eq_getElem_cons hlt, addS]
        by_cases hn : t.cmp s[k] < 0
        · rw [if_pos hn, if_pos hn]; simp
        · rw [if_neg hn, if_neg hn, if_pos (by omega)]; simp
      · rw [if_neg (fun x => hc x.2)]
        refine ⟨fun _ => ⟨by rw [List.take_succ_eq_append_getElem hlt], ?_⟩, fun x => by simp at x⟩
        rw [h4, List.drop_eq_getElem_cons hlt, addS, if_neg (by omega), if_neg (by omega), List.take_succ_eq_append_getElem hlt, List.append_assoc, List.singleton_append]
theorem addE_eq (t : T) (s : List T) : addE t s = addS t s := by
  obtain ⟨h1, h2⟩ := addJ_eq t s s.length (Nat.le_refl _)
  unfold addE
  by_cases e : (addJ t s s.length).2 = true
  · rw [if_pos e, h2 e]; simp
  · have e' : (addJ t s s.length).2 = false := by simpa using e
    obtain ⟨h3, h4⟩ := h1 e'
    rw [if_neg e, h3, h4]; simp [addS]
end TL
namespace Go.VZ
open Go Go.V Go.Proofs TL
def NI235 (t : T) (m : Nat) (st : PT) (h : H) : Prop := ∃ k : Nat, m = t.kids.length - k ∧ k ≤ t.kids.length ∧ st.get 1 = .ptr 0 0 ∧ st.get 4 = .int .i64 k ∧ h[0]? = some (.cells (enc t).cells .live) ∧ OwnR 25 h (st.get 3) ((single t ++ walkTs single (t.kids.take k)).map enc)
theorem ld23b {h : H} {i : Nat} {t : T} (hi : h[i]? = some (.cells (enc t).cells .live)) : loadV C.P h 23 (.ptr i 3) = some (terms t.kids) := by
  rw [enc_cells] at hi
  simp [loadV, hi, cellsAt, a23, s23, terms]
set_option maxRecDepth 8000 in
set_option maxHeartbeats 4000000 in
theorem all235 (t : T) (hs : t.size < 4000000) (hc : ∀ k ∈ t.kids, CallP C 235 [enc k] = some (terms (walkT single k))) : CallP C 235 [enc t] = some (terms (walkT single t)) := by
  refine CallP_W rfl Tryz.func235 rfl (by kernel_rfl) (by simp [Tryz.f235]) fun R hR => ?_
  have hsz := size_kids t
  have hlen := len_sizes t.kids
  have hln := len23t t.kids
  obtain ⟨h0, eh0⟩ : ∃ g : H, g = [.cells (enc t).cells .live, .tok 0 25] := ⟨_, rfl⟩
  have l0 : loadV C.P h0 25 (.ptr 0 0) = some (enc t) := ldn25 t (by rw [eh0]; rfl)
  simp [go_sem, box25]
  rw [← enc_cells, ← eh0]
  simp [go_sem, l0, build23_1]
  refine W_loop (NI235 t) t.kids.length ⟨0, rfl, Nat.zero_le _, by simp [go_sem], by simp [go_sem], rfl, .inl (by simp [go_sem, single, walkTs])⟩ ?_
  clear l0 eh0 h0
  rintro m st h ⟨k, rfl, hk, g1, g4, m0, go⟩
  have q0 := ld23b m0
  obtain ⟨v3, e3⟩ : ∃ v, v = st.get 3 := ⟨_, rfl⟩
  rw [← e3] at go
  by_cases hlt : k < t.kids.length
  · have hlt' : (k : Int) < t.kids.length := by omega
    have hix := idx23t t.kids k hlt
    have w2 : IntKind.i64.wrap ((k : Int) + 1) = ((k + 1 : Nat) : Int) := by rw [wrap_in (by omega)]; omega
    have ck : ∀ h, callV C h (.func 235 []) (some [enc t.kids[k]]) = some (terms (walkT single t.kids[k]), h) := fun h => callV_strip (by kernel_rfl) rfl (dat_enc _) (by simp [short_enc]) (by simp) (hc _ (List.getElem_mem hlt))
    have hwl := walkTs_len single single_len (t.kids.take (k + 1))
    have htl := take_sizes_le t.kids (k + 1)
    have hsp : walkTs single (t.kids.take (k + 1)) = walkTs single (t.kids.take k) ++ walkT single t.kids[k] := by
      rw [List.take_succ_eq_append_getElem hlt, walkTs_append]; simp [walkTs]
    rw [hsp, List.length_append] at hwl
    obtain ⟨v', h', ha, ho, hkp, hid⟩ := append23 (ys := walkT single t.kids[k]) (x := .unk) go (by simp only [single, List.length_append, List.length_cons, List.length_nil]; omega)
    rw [List.append_assoc, ← hsp] at ho
    change appendW C.P false h 23 v3 (terms (walkT single t.kids[k])) = some (v', h') at ha
    have m0' := hkp.get m0 (own_not go m0)
    simp [go_sem, g1, g4, ← e3, q0, hln, hlt', hix, ld25, ck, ha, -Int.natCast_add, w2]
    exact ⟨t.kids.length - (k + 1), by omega, k + 1, rfl, hlt, by simp [go_sem, g1], by simp [go_sem], m0', by simpa [go_sem] using ho⟩
  · have : k = t.kids.length := by omega
    subst this
    rw [List.take_length] at go
    obtain ⟨x, hx⟩ := go.isl
    simp [go_sem, g1, g4, ← e3, q0, hln]
    refine hR _ _ _ (.inr rfl) ⟨.isl ((walkT single t).map enc) x, by rw [walkT_eq, ← hx]; simp [resultV, resV, Tryz.f235, go_sem], snap_dat rfl rfl⟩
theorem all235_all (t : T) : t.size < 4000000 → CallP C 235 [enc t] = some (terms (walkT single t)) := by
  induction t using T.ind with
  | _ t ih => exact fun hv => all235 t hv (fun k hk => ih k hk (by have := kid_size hk; omega))
theorem call235 (t : T) (hv : t.size < 4000000) (h : H) : callV C h (.func 235 []) (some [enc t]) = some (terms (walkT single t), h) := callV_strip (by kernel_rfl) rfl (dat_enc _) (by simp [short_enc]) (by simp) (all235_all t hv)
def NI178 (t : T) (s : List T) (m : Nat) (st : PT) (h : H) : Prop := ∃ k : Nat, m = s.length - k ∧ k ≤ s.length ∧ st.get 0 = terms s ∧ st.get 3 = .ptr 0 0 ∧ st.get 6 = .bool (addJ t s k).2 ∧ st.get 7 = .int .i64 k ∧ h[0]? = some (.cells (enc t).cells .live) ∧ OwnR 25 h (st.get 5) ((addJ t s k).1.map enc)
theorem addJ_len (t : T) (s : List T) : ∀ k, (addJ t s k).1.length ≤ k + (if (addJ t s k).2 = true then 1 else 0)
  | 0 => by simp [addJ]
  | k + 1 => by
    have := addJ_len t s k
    rw [addJ]
    generalize addJ t s k = r at this
    obtain ⟨o, d⟩ := r
    dsimp only at this ⊢
    split
    · rename_i hh
      rw [hh.1] at this
      simp only [Bool.false_eq_true, if_false] at this
      split <;> simp <;> omega
    · simp only [List.length_append, List.length_cons, List.length_nil]; omega
set_option maxRecDepth 8000 in
set_option maxHeartbeats 4000000 in
theorem add178 (s : List T) (t : T) (hs : ∀ x ∈ s, x.size < 4000000) (ht : t.size < 4000000) (hl : s.length < 4000000) : CallP C 178 [terms s, enc t] = some (terms (addE t s)) := by
  refine CallP_W rfl Tryz.func178 rfl (by kernel_rfl) (by simp [Tryz.f178]) fun R hR => ?_
  have hln := len23t s
  simp [go_sem, box25]
  rw [← enc_cells]
  refine W_loop (NI178 t s) s.length ⟨0, rfl, Nat.zero_le _, by simp [go_sem], by simp [go_sem], by simp [go_sem, addJ], by simp [go_sem], rfl, .inr ⟨2, by simp [go_sem, addJ]⟩⟩ ?_
  rintro m st h ⟨k, rfl, hk, g0, g3, g6, g7, m0, go⟩
  have q0 := ldn25 t m0
  obtain ⟨v5, e5⟩ : ∃ v, v = st.get 5 := ⟨_, rfl⟩
  rw [← e5] at go
  have hjl := addJ_len t s k
  have hjl2 : (addJ t s k).1.length ≤ k + 1 := by split at hjl <;> omega
  by_cases hlt : k < s.length
  · have hlt' : (k : Int) < s.length := by omega
    have hix := idx23t s k hlt
    have w2 : IntKind.i64.wrap ((k : Int) + 1) = ((k + 1 : Nat) : Int) := by rw [wrap_in (by omega)]; omega
    have ck := call118 t s[k] ht (hs _ (List.getElem_mem hlt))
    have hd : addJ t s (k + 1) = if (addJ t s k).2 = false ∧ t.cmp s[k] ≤ 0 then ((if t.cmp s[k] < 0 then (addJ t s k).1 ++ [t] else (addJ t s k).1) ++ [s[k]], true) else ((addJ t s k).1 ++ [s[k]], (addJ t s k).2) := by
      rw [addJ, getD_get hlt]
    generalize addJ t s k = r at hd g6 go hjl2
    obtain ⟨o, d⟩ := r
    dsimp only at hd g6 go hjl2
    have one : ∀ {h : H} {v : AV} {o : List T} (y : T), OwnR 25 h v (o.map enc) → h[0]? = some (.cells (enc t).cells .live) → o.length < 10000000 → ∃ v' h', appendW C.P false h 23 v (.isl [enc y] .full) = some (v', h') ∧ OwnR 25 h' v' ((o ++ [y]).map enc) ∧ h'[0]? = some (.cells (enc t).cells .live) := fun y go m0 hl => by
      obtain ⟨v', h', ha, ho, hkp, _⟩ := append23 (ys := [y]) (x := .full) go (by simp; omega)
      exact ⟨v', h', by simpa using ha, ho, hkp.get m0 (own_not go m0)⟩
    by_cases hc : d = false ∧ t.cmp s[k] ≤ 0
    · rw [if_pos hc] at hd
      obtain ⟨rfl, hc⟩ := hc
      by_cases hlt0 : t.cmp s[k] < 0
      · rw [if_pos hlt0] at hd
        obtain ⟨v1, h1, a1, o1, n1⟩ := one t go m0 (by omega)
        obtain ⟨v2, h2, a2, o2, n2⟩ := one s[k] o1 n1 (by simp; omega)
        simp [go_sem, g0, g3, g6, g7, ← e5, hln, hlt', hix, ld25, ck, q0, hc, hlt0, build23_1, a1, a2, -Int.natCast_add, w2]
        exact ⟨s.length - (k + 1), by omega, k + 1, rfl, hlt, by simp [go_sem, g0], by simp [go_sem, g3], by simp [go_sem, hd], by simp [go_sem], n2, by simpa [go_sem, hd] using o2⟩
      · rw [if_neg hlt0] at hd
        obtain ⟨v2, h2, a2, o2, n2⟩ := one s[k] go m0 (by omega)
        simp [go_sem, g0, g3, g6, g7, ← e5, hln, hlt', hix, ld25, ck, q0, hc, hlt0, build23_1, a2, -Int.natCast_add, w2]
        exact ⟨s.length - (k + 1), by omega, k + 1, rfl, hlt, by simp [go_sem, g0], by simp [go_sem, g3], by simp [go_sem, hd], by simp [go_sem], n2, by simpa [go_sem, hd] using o2⟩
    · rw [if_neg hc] at hd
      obtain ⟨v2, h2, a2, o2, n2⟩ := one s[k] go m0 (by omega)
      cases d with
      | true =>
        simp [go_sem, g0, g3, g6, g7, ← e5, hln, hlt', hix, ld25, ck, q0, build23_1, a2, -Int.natCast_add, w2]
        exact ⟨s.length - (k + 1), by omega, k + 1, rfl, hlt, by simp [go_sem, g0], by simp [go_sem, g3], by simp [go_sem, hd, g6], by simp [go_sem], n2, by simpa [go_sem, hd] using o2⟩
      | false =>
        have hc' : ¬ t.cmp s[k] ≤ 0 := fun e => hc ⟨rfl, e⟩
        simp [go_sem, g0, g3, g6, g7, ← e5, hln, hlt', hix, ld25, ck, q0, hc', build23_1, a2, -Int.natCast_add, w2]
        exact ⟨s.length - (k + 1), by omega, k + 1, rfl, hlt, by simp [go_sem, g0], by simp [go_sem, g3], by simp [go_sem, hd, g6], by simp [go_sem], n2, by simpa [go_sem, hd] using o2⟩
  · have : k = s.length := by omega
    subst this
    by_cases hd : (addJ t s s.length).2 = true
    · obtain ⟨x, hx⟩ := go.isl
      rw [hd] at g6
      simp [go_sem, g0, g6, g7, ← e5, hln]
      refine hR _ _ _ (.inr rfl) ⟨.isl ((addE t s).map enc) x, by rw [addE, if_pos hd, ← hx]; simp [resultV, resV, Tryz.f178, go_sem], snap_dat rfl rfl⟩
    · have hd' : (addJ t s s.length).2 = false := by simpa using hd
      rw [hd'] at g6
      obtain ⟨v', h', ha, ho, hkp, _⟩ := append23 (ys := [t]) (x := .full) go (by simp; omega)
      obtain ⟨x, hx⟩ := ho.isl
      simp only [List.map_cons, List.map_nil] at ha
      simp [go_sem, g0, g3, g6, g7, ← e5, hln, q0, build23_1, ha]
      refine hR _ _ _ (.inr rfl) ⟨.isl ((addE t s).map enc) x, by rw [addE, if_neg hd, ← hx]; simp [resultV, resV, Tryz.f178, go_sem], snap_dat rfl rfl⟩
theorem call178 (s : List T) (x : Ext) (t : T) (hs : ∀ x ∈ s, x.size < 4000000) (ht : t.size < 4000000) (hl : s.length < 4000000) (h : H) : callV C h (.func 178 []) (some [.isl (s.map enc) x, enc t]) = some (terms (addS t s), h) := by
  rw [← addE_eq]
  exact callV_strip (by kernel_rfl) rfl (args' := [terms s, enc t]) (by rw [enc_eq]; rfl) (by rw [enc_eq]; rfl) (by simp) (add178 s t hs ht hl)
def NI120 (l : List T) (m : Nat) (st : PT) (_h : H) : Prop := ∃ k : Nat, m = l.length - k ∧ k ≤ l.length ∧ st.get 0 = terms l ∧ st.get 4 = .int .i64 k ∧ ∃ x, st.get 3 = .isl ((setS (l.take k)).map enc) x
set_option maxRecDepth 8000 in
set_option maxHeartbeats 4000000 in
theorem set120 (l : List T) (hs : ∀ x ∈ l, x.size < 4000000) (hl : l.length < 4000000) : CallP C 120 [terms l] = some (terms (setS l)) := by
  refine CallP_W rfl Tryz.func120 rfl (by kernel_rfl) (by simp [Tryz.f120]) fun R hR => ?_
  have hln := len23t l
  simp [go_sem]
  refine W_loop (NI120 l) l.length ⟨0, rfl, Nat.zero_le _, by simp [go_sem], by simp [go_sem], _, by simp [go_sem, setS]; rfl⟩ ?_
  rintro m st h ⟨k, rfl, hk, g0, g4, x, g3⟩
  by_cases hlt : k < l.length
  · have hlt' : (k : Int) < l.length := by omega
    have hix := idx23t l k hlt
    have w2 : IntKind.i64.wrap ((k : Int) + 1) = ((k + 1 : Nat) : Int) := by rw [wrap_in (by omega)]; omega
    have hsl := setS_len (l.take k)
    have ck := call178 (setS (l.take k)) x l[k] (fun y hy => hs y (List.mem_of_mem_take (mem_setS.1 hy))) (hs _ (List.getElem_mem hlt)) (by simp only [List.length_take] at hsl; omega)
    rw [← setS_take hlt] at ck
    simp [go_sem, g0, g3, g4, hln, hlt', hix, ld25, ck, -Int.natCast_add, w2]
    exact ⟨l.length - (k + 1), by omega, k + 1, rfl, hlt, by simp [go_sem, g0], by simp [go_sem], .unk, by simp [go_sem, terms]⟩
  · have : k = l.length := by omega
    subst this
    rw [List.take_length] at g3
    simp [go_sem, g0, g3, g4, hln]
    exact hR _ _ _ (.inr rfl) ⟨.isl ((setS l).map enc) x, by simp [resultV, resV, Tryz.f120, go_sem], snap_dat rfl rfl⟩
theorem call120 (l : List T) (x : Ext) (hs : ∀ x ∈ l, x.size < 4000000) (hl : l.length < 4000000) (h : H) : callV C h (.func 120 []) (some [.isl (l.map enc) x]) = some (terms (setS l), h) := callV_strip (by kernel_rfl) rfl (args' := [terms l]) rfl rfl (by simp) (set120 l hs hl)
def isK (k : Int) (t : T) : Bool := decide (t.kind = k)
def NI177 (t : T) (c : Int) (m : Nat) (st : PT) (h : H) : Prop := ∃ k : Nat, m = (walkT single t).length - k ∧ k ≤ (walkT single t).length ∧ st.get 1 = .int .i64 c ∧ st.get 6 = terms (walkT single t) ∧ st.get 7 = .int .i64 k ∧ OwnR 25 h (st.get 5) ((((walkT single t).take k).filter (isK c)).map enc)
theorem ld3i0 (t : T) (h : H) : loadV C.P h 3 (.iptr (enc t) 0) = some (.int .i64 t.kind) := by simp [loadV, cellsAt, a3, s3, enc_cells]
theorem fa25i_0 (e : AV) : fieldAddrV C.P 25 (.iptr e 0) 0 = some (.iptr e 0) := by kernel_rfl
set_option maxRecDepth 8000 in
set_option maxHeartbeats 4000000 in
theorem kind177 (t : T) (c : Int) (hs : t.size < 4000000) : CallP C 177 [enc t, .int .i64 c] = some (terms (setS ((walkT single t).filter (isK c)))) := by
  refine CallP_W rfl Tryz.func177 rfl (by kernel_rfl) (by simp [Tryz.f177]) fun R hR => ?_
  have hwl := walkT_len single single_len t
  have hws := walk_small single_mem t hs
  have c1 := call235 t hs
  obtain ⟨h0, eh0⟩ : ∃ g : H, g = [.cells (enc t).cells .live, .tok 0 25, .tok 0 25] := ⟨_, rfl⟩
  have l0 : loadV C.P h0 25 (.ptr 0 0) = some (enc t) := ldn25 t (by rw [eh0]; rfl)
  simp [go_sem, box25]
  rw [← enc_cells, ← eh0]
  simp [go_sem, l0, c1]
  generalize ew : walkT single t = w at *
  have hln := len23t w
  refine W_loop (NI177 t c) w.length ⟨0, by rw [ew]; rfl, Nat.zero_le _, by simp [go_sem], by simp [go_sem, ew], by simp [go_sem], .inr ⟨2, by simp [go_sem]⟩⟩ ?_
  clear l0 eh0 h0 c1
  rintro m st h ⟨k, rfl, hk, g1, g6, g7, go⟩
  rw [ew] at hk g6 go
  obtain ⟨v5, e5⟩ : ∃ v, v = st.get 5 := ⟨_, rfl⟩
  rw [← e5] at go
  have hfl := List.length_filter_le (isK c) (w.take k)
  by_cases hlt : k < w.length
  · have hlt' : (k : Int) < w.length := by omega
    have hix := idx23t w k hlt
    have w2 : IntKind.i64.wrap ((k : Int) + 1) = ((k + 1 : Nat) : Int) := by rw [wrap_in (by omega)]; omega
    have hft : (w.take (k + 1)).filter (isK c) = if w[k].kind = c then (w.take k).filter (isK c) ++ [w[k]] else (w.take k).filter (isK c) := by
      rw [List.take_succ_eq_append_getElem hlt, List.filter_append]
      by_cases e : w[k].kind = c <;> simp [e, isK]
    by_cases he : w[k].kind = c
    · rw [if_pos he] at hft
      obtain ⟨v', h', ha, ho, _, _⟩ := append23 (ys := [w[k]]) (x := .full) go (by simp only [List.length_take, List.length_cons, List.length_nil] at hfl ⊢; omega)
      rw [← hft] at ho
      simp only [List.map_cons, List.map_nil] at ha
      simp [go_sem, g1, g6, g7, ← e5, hln, hlt', hix, ld25, ld3i0, fa25i_0, he, build23_1, ha, -Int.natCast_add, w2]
      exact ⟨(walkT single t).length - (k + 1), by rw [ew]; omega, k + 1, rfl, by rw [ew]; exact hlt, by simp [go_sem, g1], by simp [go_sem, g6, ew], by simp [go_sem], by rw [ew]; simpa [go_sem] using ho⟩
    · rw [if_neg he] at hft
      simp [go_sem, g1, g6, g7, hln, hlt', hix, ld3i0, fa25i_0, he, -Int.natCast_add, w2]
      exact ⟨(walkT single t).length - (k + 1), by rw [ew]; omega, k + 1, rfl, by rw [ew]; exact hlt, by simp [go_sem, g1], by simp [go_sem, g6, ew], by simp [go_sem], by rw [ew, hft]; simpa [go_sem, ← e5] using go⟩
  · have : k = w.length := by omega
    subst this
    rw [List.take_length] at go hfl
    obtain ⟨x, hx⟩ := go.isl
    have c2 := call120 (w.filter (isK c)) x (fun y hy => hws y (List.mem_filter.1 hy).1) (by omega)
    simp [go_sem, g6, g7, ← e5, hln, hx, c2]
    exact hR _ _ _ (.inr rfl) ⟨terms (setS (w.filter (isK c))), by simp [resultV, resV, Tryz.f177, go_sem], snap_dat rfl rfl⟩
end Go.VZ
