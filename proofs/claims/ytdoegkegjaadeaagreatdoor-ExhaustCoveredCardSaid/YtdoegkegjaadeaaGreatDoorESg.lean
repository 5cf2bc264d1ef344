/- Slices that came in, as the reading tells of them: a row of values of the value machine. -/
import Derived.Test.YtdoegkegjaadeaaGreatDoorESdb
import Derived.ChangeArms
import Derived.Test.YtdoegkegjaadeaaGreatDoorRows
namespace Go.VZ
open Go Go.V Go.Proofs TL
abbrev uBulk {H : Type} (d : DataW H) : Nat := YtdoegkegjaadeaaGreatDoor.Rows.uptoBulk d
abbrev uBulks {H : Type} (l : List (DataW H)) : Nat := YtdoegkegjaadeaaGreatDoor.Rows.uptoBulkAll l
theorem ex_list {α : Type} {p : Nat → α → Prop} : ∀ n, (∀ i, i < n → ∃ a, p i a) → ∃ l : List α, l.length = n ∧ ∀ i a, l[i]? = some a → p i a
  | 0, _ => ⟨[], rfl, fun i a h => by simp at h⟩
  | n + 1, h => by
    obtain ⟨l, h1, h2⟩ := ex_list n fun i hi => h i (by omega)
    obtain ⟨a, ha⟩ := h n (by omega)
    refine ⟨l ++ [a], by simp [h1], fun i b hb => ?_⟩
    by_cases hi : i < n
    · rw [List.getElem?_append_left (by omega)] at hb; exact h2 i b hb
    · rw [List.getElem?_append_right (by omega)] at hb
      have : i = n := by
        have := (List.getElem?_eq_some_iff.1 hb).1
        simp at this; omega
      subst this
      simp [h1] at hb; subst hb; exact ha
theorem cells_of {w : World} {a : Addr} {n : Nat} {cs : List Value} (h : w.cells? 0 a n = some cs) : cs.length = n ∧ ∀ j u, cs[j]? = some u → w.cell? (a.add j) = some u := by
  unfold World.cells? at h
  rw [if_pos (Nat.zero_le _)] at h
  have hl : cs.length = n := by have := mapM_some_length h; rwa [List.length_range] at this
  refine ⟨hl, fun j u hu => ?_⟩
  have hj := (List.getElem?_eq_some_iff.1 hu).1
  have := mapM_some_get h j j (by rw [List.getElem?_range (by omega)])
  rw [this]; exact hu
theorem sum_bulk {H α : Type} {sz : α → Nat} : ∀ (l : List α) (ds : List (DataW H)), l.length = ds.length → (∀ (i : Nat) a d, l[i]? = some a → ds[i]? = some d → sz a ≤ uBulk d) → (l.map sz).sum ≤ uBulks ds
  | [], _, _, _ => by simp
  | a :: l, [], h, _ => by simp at h
  | a :: l, d :: ds, h, hs => by
    have := sum_bulk l ds (by simpa using h) fun i a d h1 h2 => hs (i + 1) a d (by simpa using h1) (by simpa using h2)
    have h0 := hs 0 a d rfl rfl
    simp only [List.map_cons, List.sum_cons, uBulks, uBulk, YtdoegkegjaadeaaGreatDoor.Rows.uptoBulkAll] at this h0 ⊢
    omega
theorem addr_cell {w : World} {b o i j : Nat} {u : Value} (h : w.cell? (Addr.add (Addr.add ⟨b, o, none⟩ i) j) = some u) : w.cell? ⟨b, o + i + j, none⟩ = some u := by
  rw [← h]
  congr 1
  unfold Addr.add
  split <;> split <;> simp_all
theorem addr_zero {w : World} {b o : Nat} {z} {u : Value} (h : w.cell? (Addr.add (Addr.add ⟨b, o, z⟩ 0) 0) = some u) : z = none := by
  cases z with
  | none => rfl
  | some z =>
    exfalso
    simp [World.cell?, Addr.add] at h
    split at h <;> cases h
/-- A slice: nil, empty, or a row. -/
theorem dec_slice {H : Type} {enc : TypeId × Value → H} {P : Program} {w : World} {α : Type} {toV : α → AV} {sz : α → Nat} {t e : TypeId} {k fuel : Nat} {v : Value} {x : DataW H × List MemPlace}
    (hu : P.underlying t = some (.slice e)) (hk : P.cellsOf e = k) (h0 : 0 < k) (hl : ∀ a : α, (toV a).cells.length = k ∧ notTuple (toV a) = true ∧ ∀ c ∈ (toV a).cells, c.one = true)
    (hd : ∀ n, n < fuel → ∀ cs y, cs.length = k → DataW.trod enc P w 0 (fun _ => true) true n e cs = some y → ∃ a : α, sz a ≤ uBulk y.1 ∧ ∀ (j : Nat) c u, (toV a).cells[j]? = some c → cs[j]? = some u → IRel (fun _ _ => True) w c u)
    (h : DataW.trod enc P w 0 (fun _ => true) true fuel t [v] = some x) : ∃ l : List α, IRel (fun _ _ => True) w (.isl (l.map toV) .unk) v ∧ l.length + 1 ≤ uBulk x.1 ∧ (l.map sz).sum + 1 ≤ uBulk x.1 := by
  rcases DataW.trod_slice hu h with ⟨hv, rfl⟩ | ⟨a, len, cap, elems, rest, n, rfl, hv, rfl, _, hlc, hcm, hel, hes, _, _⟩
  · simp only [List.cons.injEq, and_true] at hv; subst hv
    exact ⟨[], .islNil, by simp [uBulk, YtdoegkegjaadeaaGreatDoor.Rows.uptoBulk], by simp [uBulk, YtdoegkegjaadeaaGreatDoor.Rows.uptoBulk]⟩
  · simp only [List.cons.injEq, and_true] at hv; subst hv
    rw [hk] at hes
    obtain ⟨l, hll, hlp⟩ := ex_list (p := fun i (a' : α) => ∃ cs y, w.cells? 0 (a.add (i * k)) k = some cs ∧ elems[i]? = some y ∧ sz a' ≤ uBulk y.1 ∧ ∀ (j : Nat) c u, (toV a').cells[j]? = some c → cs[j]? = some u → IRel (fun _ _ => True) w c u) len fun i hi => by
      have h1 := hes i hi
      have h2 : elems[i]? = some (elems[i]'(by omega)) := List.getElem?_eq_getElem (by omega)
      rw [h2] at h1
      obtain ⟨cs, h3, h4⟩ := Option.bind_eq_some_iff.1 h1
      obtain ⟨a', h5, h6⟩ := hd n (by omega) cs _ (cells_of h3).1 h4
      exact ⟨a', cs, _, h3, h2, h5, h6⟩
    have hsum : (l.map sz).sum ≤ uBulks (elems.map (·.1)) := sum_bulk l _ (by simp [hll, hel]) fun i a' d h1 h2 => by
      obtain ⟨cs, y, _, h3, h4, _⟩ := hlp i a' h1
      rw [List.getElem?_map, h3] at h2
      simp only [Option.map_some, Option.some.injEq] at h2; subst h2; exact h4
    have hone : (l.map fun _ => 1).sum ≤ uBulks (elems.map (·.1)) := sum_bulk (sz := fun _ => 1) l _ (by simp [hll, hel]) fun i a' d h1 h2 => by cases d <;> simp [uBulk, YtdoegkegjaadeaaGreatDoor.Rows.uptoBulk] <;> (rename_i q; cases q <;> simp [YtdoegkegjaadeaaGreatDoor.Rows.uptoBulk])
    have hcnt : (l.map fun _ => 1).sum = l.length := by
      clear hone hsum hlp hll
      induction l with
      | nil => rfl
      | cons a l ih => simp only [List.map_cons, List.sum_cons, ih, List.length_cons]; omega
    refine ⟨l, ?_, by simp only [uBulk, YtdoegkegjaadeaaGreatDoor.Rows.uptoBulk]; simp only [uBulks] at hone; omega, by simp only [uBulk, YtdoegkegjaadeaaGreatDoor.Rows.uptoBulk]; simp only [uBulks] at hsum; omega⟩
    by_cases hz : len = 0
    · subst hz
      have : l = [] := List.length_eq_zero_iff.1 hll
      subst this
      exact .islEmpty a cap hcm
    · obtain ⟨b, o, z⟩ := a
      have hz' : z = none := by
        obtain ⟨cs, y, h1, _⟩ := hlp 0 (l[0]'(by omega)) (List.getElem?_eq_getElem (by omega))
        obtain ⟨h2, h3⟩ := cells_of h1
        have := h3 0 (cs[0]'(by omega)) (List.getElem?_eq_getElem (by omega))
        exact addr_zero (by simpa using this)
      subst hz'
      have key : ∀ (i j : Nat) e' c, (l.map toV)[i]? = some e' → e'.cells[j]? = some c → ∃ u, w.cell? ⟨b, o + i * k + j, none⟩ = some u ∧ IRel (fun _ _ => True) w c u := fun i j e' c he hc => by
        rw [List.getElem?_map] at he
        obtain ⟨a', ha, rfl⟩ := Option.map_eq_some_iff.1 he
        obtain ⟨cs, y, h1, _, _, h4⟩ := hlp i a' ha
        obtain ⟨h2, h3⟩ := cells_of h1
        have hj : j < cs.length := by have := (List.getElem?_eq_some_iff.1 hc).1; rw [(hl a').1] at this; omega
        have := h3 j cs[j] (List.getElem?_eq_getElem hj)
        exact ⟨cs[j], addr_cell this, h4 j c _ hc (List.getElem?_eq_getElem hj)⟩
      have := IRel.isl (A := fun _ _ => True) (w := w) (es := l.map toV) (sz := k) (b := b) (o := o) (cap := cap) (fun i j => (w.cell? ⟨b, o + i * k + j, none⟩).getD .nilIface) h0 (by simp; omega) hcm
        (fun e' he => by
          obtain ⟨a', _, rfl⟩ := List.mem_map.1 he
          exact ⟨(hl a').1, (hl a').2.1⟩)
        (fun e' he c hc => by
          obtain ⟨a', _, rfl⟩ := List.mem_map.1 he
          exact (hl a').2.2 c hc)
        (fun i j e' c he hc => by
          obtain ⟨u, h1, _⟩ := key i j e' c he hc
          exact ⟨trivial, by rw [h1]; rfl⟩)
        (fun i j e' c he hc => by
          obtain ⟨u, h1, h2⟩ := key i j e' c he hc
          rw [h1]; exact h2)
      rw [List.length_map, hll] at this
      exact this
/-- The elements of a datum that is a slice; the parts of one that is a struct. -/
def elemsD {H : Type} : DataW H → List (DataW H)
  | .slice es _ => es
  | _ => []
def aggD {H : Type} : DataW H → List (DataW H)
  | .agg ps => ps
  | _ => []
theorem wt_all {H : Type} {P : Program} {e : TypeId} {c : DataW H} {n : Nat} : ∀ {es : List (DataW H)}, c ∈ es → n ∈ c.weights P e → n ∈ DataW.weightsAll P e es
  | [], h, _ => by cases h
  | d :: es, h, hn => by
    rw [DataW.weightsAll, List.mem_append]
    rcases List.mem_cons.1 h with rfl | h
    · exact .inl hn
    · exact .inr (wt_all h hn)
theorem wt_each {H : Type} {P : Program} {t : TypeId} {d : DataW H} {n : Nat} : ∀ {ts : List TypeId} {ds : List (DataW H)} {i : Nat}, ts[i]? = some t → ds[i]? = some d → n ∈ d.weights P t → n ∈ DataW.weightsEach P ts ds
  | [], _, _, h, _, _ => by simp at h
  | _ :: _, [], _, _, h, _ => by simp at h
  | a :: ts, b :: ds, 0, h1, h2, hn => by
    simp only [List.getElem?_cons_zero, Option.some.injEq] at h1 h2
    subst h1; subst h2
    rw [DataW.weightsEach, List.mem_append]; exact .inl hn
  | a :: ts, b :: ds, i + 1, h1, h2, hn => by
    rw [DataW.weightsEach, List.mem_append]
    exact .inr (wt_each (i := i) (by simpa using h1) (by simpa using h2) hn)
/-- What a slice weighs bounds how long it is. -/
theorem wt_slice {H : Type} {P : Program} {t e : TypeId} {N : Nat} (hu : P.underlying t = some (.slice e)) {d : DataW H} (h : ∀ n ∈ d.weights P t, n ≤ N) : (elemsD d).length * P.bytesOf e ≤ N ∧ ∀ c ∈ elemsD d, ∀ n ∈ c.weights P e, n ≤ N := by
  cases d with
  | slice es sp =>
    simp only [DataW.weights, hu] at h
    refine ⟨Nat.le_trans (Nat.mul_le_mul_right _ (Nat.le_add_right _ _)) (h _ List.mem_cons_self), fun c hc n hn => h n ?_⟩
    exact List.mem_cons_of_mem _ (List.mem_append_left _ (wt_all hc hn))
  | _ => exact ⟨by simp [elemsD], fun c hc => by simp [elemsD] at hc⟩
theorem wt_agg {H : Type} {P : Program} {t ty : TypeId} {fs : Array Field} {N : Nat} (hu : P.underlying t = some (.struct fs)) {d y : DataW H} (h : ∀ n ∈ d.weights P t, n ≤ N) {i : Nat} (hy : (aggD d)[i]? = some y) (ht : (fs.toList.map (·.type))[i]? = some ty) : ∀ n ∈ y.weights P ty, n ≤ N := by
  cases d with
  | agg ps =>
    simp only [DataW.weights, hu] at h
    exact fun n hn => h n (wt_each ht hy hn)
  | _ => simp [aggD] at hy
/-- A slice, with what is known of each element. -/
theorem dec_sliceQ {H : Type} {enc : TypeId × Value → H} {P : Program} {w : World} {α : Type} {toV : α → AV} {Q : α → DataW H → Prop} {t e : TypeId} {k fuel : Nat} {v : Value} {x : DataW H × List MemPlace}
    (hu : P.underlying t = some (.slice e)) (hk : P.cellsOf e = k) (h0 : 0 < k) (hl : ∀ a : α, (toV a).cells.length = k ∧ notTuple (toV a) = true ∧ ∀ c ∈ (toV a).cells, c.one = true)
    (hd : ∀ n, n < fuel → ∀ cs y, cs.length = k → DataW.trod enc P w 0 (fun _ => true) true n e cs = some y → ∃ a : α, Q a y.1 ∧ ∀ (j : Nat) c u, (toV a).cells[j]? = some c → cs[j]? = some u → IRel (fun _ _ => True) w c u)
    (h : DataW.trod enc P w 0 (fun _ => true) true fuel t [v] = some x) : ∃ l : List α, IRel (fun _ _ => True) w (.isl (l.map toV) .unk) v ∧ l.length = (elemsD x.1).length ∧ ∀ (i : Nat) a, l[i]? = some a → ∃ d, (elemsD x.1)[i]? = some d ∧ Q a d := by
  rcases DataW.trod_slice hu h with ⟨hv, rfl⟩ | ⟨a, len, cap, elems, rest, n, rfl, hv, rfl, _, hlc, hcm, hel, hes, _, _⟩
  · simp only [List.cons.injEq, and_true] at hv; subst hv
    exact ⟨[], .islNil, rfl, fun i a h => by simp at h⟩
  · simp only [List.cons.injEq, and_true] at hv; subst hv
    rw [hk] at hes
    obtain ⟨l, hll, hlp⟩ := ex_list (p := fun i (a' : α) => ∃ cs y, w.cells? 0 (a.add (i * k)) k = some cs ∧ elems[i]? = some y ∧ Q a' y.1 ∧ ∀ (j : Nat) c u, (toV a').cells[j]? = some c → cs[j]? = some u → IRel (fun _ _ => True) w c u) len fun i hi => by
      have h1 := hes i hi
      have h2 : elems[i]? = some (elems[i]'(by omega)) := List.getElem?_eq_getElem (by omega)
      rw [h2] at h1
      obtain ⟨cs, h3, h4⟩ := Option.bind_eq_some_iff.1 h1
      obtain ⟨a', h5, h6⟩ := hd n (by omega) cs _ (cells_of h3).1 h4
      exact ⟨a', cs, _, h3, h2, h5, h6⟩
    refine ⟨l, ?_, by simp [elemsD, hll, hel], fun i a' ha => by
      obtain ⟨cs, y, _, h3, h4, _⟩ := hlp i a' ha
      exact ⟨y.1, by simp [elemsD, List.getElem?_map, h3], h4⟩⟩
    by_cases hz : len = 0
    · subst hz
      have : l = [] := List.length_eq_zero_iff.1 hll
      subst this
      exact .islEmpty a cap hcm
    · obtain ⟨b, o, z⟩ := a
      have hz' : z = none := by
        obtain ⟨cs, y, h1, _⟩ := hlp 0 (l[0]'(by omega)) (List.getElem?_eq_getElem (by omega))
        obtain ⟨h2, h3⟩ := cells_of h1
        have := h3 0 (cs[0]'(by omega)) (List.getElem?_eq_getElem (by omega))
        exact addr_zero (by simpa using this)
      subst hz'
      have key : ∀ (i j : Nat) e' c, (l.map toV)[i]? = some e' → e'.cells[j]? = some c → ∃ u, w.cell? ⟨b, o + i * k + j, none⟩ = some u ∧ IRel (fun _ _ => True) w c u := fun i j e' c he hc => by
        rw [List.getElem?_map] at he
        obtain ⟨a', ha, rfl⟩ := Option.map_eq_some_iff.1 he
        obtain ⟨cs, y, h1, _, _, h4⟩ := hlp i a' ha
        obtain ⟨h2, h3⟩ := cells_of h1
        have hj : j < cs.length := by have := (List.getElem?_eq_some_iff.1 hc).1; rw [(hl a').1] at this; omega
        have := h3 j cs[j] (List.getElem?_eq_getElem hj)
        exact ⟨cs[j], addr_cell this, h4 j c _ hc (List.getElem?_eq_getElem hj)⟩
      have := IRel.isl (A := fun _ _ => True) (w := w) (es := l.map toV) (sz := k) (b := b) (o := o) (cap := cap) (fun i j => (w.cell? ⟨b, o + i * k + j, none⟩).getD .nilIface) h0 (by simp; omega) hcm
        (fun e' he => by
          obtain ⟨a', _, rfl⟩ := List.mem_map.1 he
          exact ⟨(hl a').1, (hl a').2.1⟩)
        (fun e' he c hc => by
          obtain ⟨a', _, rfl⟩ := List.mem_map.1 he
          exact (hl a').2.2 c hc)
        (fun i j e' c he hc => by
          obtain ⟨u, h1, _⟩ := key i j e' c he hc
          exact ⟨trivial, by rw [h1]; rfl⟩)
        (fun i j e' c he hc => by
          obtain ⟨u, h1, h2⟩ := key i j e' c he hc
          rw [h1]; exact h2)
      rw [List.length_map, hll] at this
      exact this
end Go.VZ

/- Terms, bindings, moments and numbers that came in. -/
namespace Go.VZ
open Go Go.V Go.Proofs TL
theorem c3 : Tryz.prog.cellsOf 3 = 1 := by kernel_rfl
theorem c9 : Tryz.prog.cellsOf 9 = 1 := by kernel_rfl
theorem c23 : Tryz.prog.cellsOf 23 = 1 := by kernel_rfl
theorem c25 : Tryz.prog.cellsOf 25 = 4 := by kernel_rfl
theorem c52 : Tryz.prog.cellsOf 52 = 1 := by kernel_rfl
theorem c54 : Tryz.prog.cellsOf 54 = 6 := by kernel_rfl
theorem c86 : Tryz.prog.cellsOf 86 = 8 := by kernel_rfl
section
variable {H : Type} {ec : TypeId × Value → H} {w : World}
noncomputable abbrev TR (ec : TypeId × Value → H) (w : World) (n : Nat) (t : TypeId) (cs : List Value) : Option (DataW H × List MemPlace) := DataW.trod ec Tryz.prog w 0 (fun _ => true) true n t cs
theorem len4 {α : Type} {l : List α} (h : l.length = 4) : ∃ a b c d, l = [a, b, c, d] := by
  match l, h with
  | [a, b, c, d], _ => exact ⟨a, b, c, d, rfl⟩
theorem len6 {α : Type} {l : List α} (h : l.length = 6) : ∃ a b c d e f, l = [a, b, c, d, e, f] := by
  match l, h with
  | [a, b, c, d, e, f], _ => exact ⟨a, b, c, d, e, f, rfl⟩
theorem len8 {α : Type} {l : List α} (h : l.length = 8) : ∃ a b c d e f g i, l = [a, b, c, d, e, f, g, i] := by
  match l, h with
  | [a, b, c, d, e, f, g, i], _ => exact ⟨a, b, c, d, e, f, g, i, rfl⟩
theorem enc_ok (t : T) : (enc t).cells.length = 4 ∧ notTuple (enc t) = true ∧ ∀ c ∈ (enc t).cells, c.one = true := by
  rw [enc_cells]
  refine ⟨rfl, by rw [enc_eq]; rfl, fun c hc => ?_⟩
  simp only [List.mem_cons, List.not_mem_nil, or_false] at hc
  rcases hc with rfl | rfl | rfl | rfl <;> rfl
theorem dec_term : ∀ (fuel : Nat) (cs : List Value) (y : DataW H × List MemPlace), cs.length = 4 → TR ec w fuel 25 cs = some y → ∃ t : T, t.size ≤ uBulk y.1 ∧ ∀ (j : Nat) c u, (enc t).cells[j]? = some c → cs[j]? = some u → IRel (fun _ _ => True) w c u := by
  intro fuel
  induction fuel using Nat.strongRecOn with
  | _ fuel ih =>
    intro cs y hcs h
    obtain ⟨xs, n, rfl, rfl, hl, hx, hf⟩ := DataW.trod_struct Tryz.underlying25 h
    have f0 : TR ec w n 3 ((cs.drop 0).take (Tryz.prog.cellsOf 3)) = xs[0]? := hf 0 _ rfl
    have f1 : TR ec w n 9 ((cs.drop 1).take (Tryz.prog.cellsOf 9)) = xs[1]? := hf 1 _ rfl
    have f2 : TR ec w n 3 ((cs.drop 2).take (Tryz.prog.cellsOf 3)) = xs[2]? := hf 2 _ rfl
    have f3 : TR ec w n 23 ((cs.drop 3).take (Tryz.prog.cellsOf 23)) = xs[3]? := hf 3 _ rfl
    obtain ⟨v0, v1, v2, v3, rfl⟩ := len4 hcs
    obtain ⟨x0, x1, x2, x3, rfl⟩ := len4 (l := xs) hx
    simp only [c3, c9, c23, List.drop_zero, List.drop_succ_cons, List.take_succ_cons, List.take_zero, List.getElem?_cons_zero, List.getElem?_cons_succ] at f0 f1 f2 f3
    obtain ⟨k0, e0, rfl, _⟩ := DataW.trod_int Tryz.underlying3 f0
    obtain ⟨s1, e1, rfl, _⟩ := DataW.trod_string Tryz.underlying9 f1
    obtain ⟨k2, e2, rfl, _⟩ := DataW.trod_int Tryz.underlying3 f2
    simp only [List.cons.injEq, and_true] at e0 e1 e2
    subst e0; subst e1; subst e2
    obtain ⟨l, hr, hll, hls⟩ := dec_slice (toV := enc) (sz := T.size) Tryz.underlying23 c25 (by omega) enc_ok (fun m hm cs y h1 h2 => ih m (by omega) cs y h1 h2) f3
    refine ⟨.mk k0 s1 k2 l, ?_, fun j c u hc hu => ?_⟩
    · rw [size_kids]
      show sizes l + 1 ≤ _
      rw [sizes_eq]
      simp only [List.map_cons, List.map_nil, uBulk, YtdoegkegjaadeaaGreatDoor.Rows.uptoBulk, YtdoegkegjaadeaaGreatDoor.Rows.uptoBulkAll] at hls ⊢
      omega
    · rw [enc_cells] at hc
      match j, hc, hu with
      | 0, hc, hu => simp at hc hu; subst hc; subst hu; exact .int _ _
      | 1, hc, hu => simp at hc hu; subst hc; subst hu; exact .str _
      | 2, hc, hu => simp at hc hu; subst hc; subst hu; exact .int _ _
      | 3, hc, hu => simp at hc hu; subst hc; subst hu; exact hr
      | j + 4, hc, hu => simp at hc
theorem dec_terms {n : Nat} {v : Value} {x : DataW H × List MemPlace} (h : TR ec w n 23 [v] = some x) : ∃ l : List T, IRel (fun _ _ => True) w (terms l) v ∧ l.length + 1 ≤ uBulk x.1 ∧ (l.map T.size).sum + 1 ≤ uBulk x.1 :=
  dec_slice (toV := enc) (sz := T.size) Tryz.underlying23 c25 (by omega) enc_ok (fun m _ cs y h1 h2 => dec_term m cs y h1 h2) h
/-- Words. -/
theorem dec_words {n : Nat} {v : Value} {x : DataW H × List MemPlace} (h : TR ec w n 52 [v] = some x) : ∃ l : List AV, IRel (fun _ _ => True) w (.isl l .unk) v := by
  obtain ⟨l, hr, _⟩ := dec_slice (α := ByteArray) (toV := AV.str) (sz := fun _ => 0) Tryz.underlying52 c9 (by omega) (fun a => ⟨rfl, rfl, fun c hc => by simp [AV.cells] at hc; subst hc; rfl⟩) (fun m _ cs y h1 h2 => by
    obtain ⟨s, e, _⟩ := DataW.trod_string Tryz.underlying9 h2
    subst e
    refine ⟨s, Nat.zero_le _, fun j c u hc hu => ?_⟩
    match j, hc, hu with
    | 0, hc, hu => simp [AV.cells] at hc hu; subst hc; subst hu; exact .str _
    | j + 1, hc, hu => simp [AV.cells] at hc) h
  exact ⟨_, hr⟩
theorem dec_ints {n : Nat} {v : Value} {x : DataW H × List MemPlace} (h : TR ec w n 47 [v] = some x) : ∃ l : List Int, IRel (fun _ _ => True) w (ints l) v := by
  obtain ⟨l, hr, _⟩ := dec_slice (α := Int) (toV := AV.int .i64) (sz := fun _ => 0) Tryz.underlying47 c3 (by omega) (fun a => ⟨rfl, rfl, fun c hc => by simp [AV.cells] at hc; subst hc; rfl⟩) (fun m _ cs y h1 h2 => by
    obtain ⟨s, e, _⟩ := DataW.trod_int Tryz.underlying3 h2
    subst e
    refine ⟨s, Nat.zero_le _, fun j c u hc hu => ?_⟩
    match j, hc, hu with
    | 0, hc, hu => simp [AV.cells] at hc hu; subst hc; subst hu; exact .int _ _
    | j + 1, hc, hu => simp [AV.cells] at hc) h
  exact ⟨_, hr⟩
theorem dec_moments {n : Nat} {v : Value} {x : DataW H × List MemPlace} (h : TR ec w n 50 [v] = some x) : ∃ l : List Mo, IRel (fun _ _ => True) w (moments l) v ∧ l.length + 1 ≤ uBulk x.1 := by
  obtain ⟨l, hr, hll, _⟩ := dec_slice (toV := encM) (sz := fun _ => 0) Tryz.underlying50 c54 (by omega) (fun m => ⟨rfl, rfl, fun c hc => by
    rw [encM_cells] at hc
    simp only [List.mem_cons, List.not_mem_nil, or_false] at hc
    rcases hc with rfl | rfl | rfl | rfl | rfl | rfl <;> rfl⟩) (fun m _ cs y h1 h2 => by
    obtain ⟨xs, n, rfl, rfl, hl, hx, hf⟩ := DataW.trod_struct Tryz.underlying54 h2
    have f0 : TR ec w n 3 ((cs.drop 0).take (Tryz.prog.cellsOf 3)) = xs[0]? := hf 0 _ rfl
    have f1 : TR ec w n 3 ((cs.drop 1).take (Tryz.prog.cellsOf 3)) = xs[1]? := hf 1 _ rfl
    have f2 : TR ec w n 3 ((cs.drop 2).take (Tryz.prog.cellsOf 3)) = xs[2]? := hf 2 _ rfl
    have f3 : TR ec w n 52 ((cs.drop 3).take (Tryz.prog.cellsOf 52)) = xs[3]? := hf 3 _ rfl
    have f4 : TR ec w n 3 ((cs.drop 4).take (Tryz.prog.cellsOf 3)) = xs[4]? := hf 4 _ rfl
    have f5 : TR ec w n 23 ((cs.drop 5).take (Tryz.prog.cellsOf 23)) = xs[5]? := hf 5 _ rfl
    obtain ⟨v0, v1, v2, v3, v4, v5, rfl⟩ := len6 h1
    obtain ⟨x0, x1, x2, x3, x4, x5, rfl⟩ := len6 (l := xs) hx
    simp only [c3, c52, c23, List.drop_zero, List.drop_succ_cons, List.take_succ_cons, List.take_zero, List.getElem?_cons_zero, List.getElem?_cons_succ] at f0 f1 f2 f3 f4 f5
    obtain ⟨k0, e0, rfl, _⟩ := DataW.trod_int Tryz.underlying3 f0
    obtain ⟨k1, e1, rfl, _⟩ := DataW.trod_int Tryz.underlying3 f1
    obtain ⟨k2, e2, rfl, _⟩ := DataW.trod_int Tryz.underlying3 f2
    obtain ⟨k4, e4, rfl, _⟩ := DataW.trod_int Tryz.underlying3 f4
    simp only [List.cons.injEq, and_true] at e0 e1 e2 e4
    subst e0; subst e1; subst e2; subst e4
    obtain ⟨ag, hag⟩ := dec_words f3
    obtain ⟨ts, hts, _⟩ := dec_terms f5
    refine ⟨⟨k0, k1, k2, ag, k4, ts⟩, Nat.zero_le _, fun j c u hc hu => ?_⟩
    rw [encM_cells] at hc
    match j, hc, hu with
    | 0, hc, hu => simp at hc hu; subst hc; subst hu; exact .int _ _
    | 1, hc, hu => simp at hc hu; subst hc; subst hu; exact .int _ _
    | 2, hc, hu => simp at hc hu; subst hc; subst hu; exact .int _ _
    | 3, hc, hu => simp at hc hu; subst hc; subst hu; exact hag
    | 4, hc, hu => simp at hc hu; subst hc; subst hu; exact .int _ _
    | 5, hc, hu => simp at hc hu; subst hc; subst hu; exact hts
    | j + 6, hc, hu => simp at hc) h
  exact ⟨l, hr, hll⟩
theorem dec_binds {n : Nat} {v : Value} {x : DataW H × List MemPlace} (h : TR ec w n 46 [v] = some x) : ∃ l : List (T × T), IRel (fun _ _ => True) w (binds l) v ∧ l.length = (elemsD x.1).length := by
  obtain ⟨l, hr, hll, _⟩ := dec_sliceQ (toV := encB) (Q := fun _ _ => True) Tryz.underlying46 c86 (by omega) (fun b => ⟨rfl, rfl, fun c hc => by
    simp only [encB, cells_agg, List.mem_cons, List.not_mem_nil, or_false] at hc
    rcases hc with rfl | rfl | rfl | rfl | rfl | rfl | rfl | rfl <;> rfl⟩) (fun m _ cs y h1 h2 => by
    obtain ⟨xs, n, rfl, rfl, hl, hx, hf⟩ := DataW.trod_struct Tryz.underlying86 h2
    have f0 : TR ec w n 25 ((cs.drop 0).take (Tryz.prog.cellsOf 25)) = xs[0]? := hf 0 _ rfl
    have f1 : TR ec w n 25 ((cs.drop 4).take (Tryz.prog.cellsOf 25)) = xs[1]? := hf 1 _ rfl
    obtain ⟨v0, v1, v2, v3, v4, v5, v6, v7, rfl⟩ := len8 h1
    obtain ⟨x0, x1, rfl⟩ : ∃ a b, xs = [a, b] := by
      match xs, hx with
      | [a, b], _ => exact ⟨a, b, rfl⟩
    simp only [c25, List.drop_zero, List.drop_succ_cons, List.take_succ_cons, List.take_zero, List.getElem?_cons_zero, List.getElem?_cons_succ] at f0 f1
    obtain ⟨t0, _, h0⟩ := dec_term _ _ _ rfl f0
    obtain ⟨t1, _, h1⟩ := dec_term _ _ _ rfl f1
    rw [enc_cells] at h0 h1
    refine ⟨(t0, t1), trivial, fun j c u hc hu => ?_⟩
    simp only [encB, cells_agg] at hc
    match j, hc, hu with
    | 0, hc, hu => exact h0 0 c u hc hu
    | 1, hc, hu => exact h0 1 c u hc hu
    | 2, hc, hu => exact h0 2 c u hc hu
    | 3, hc, hu => exact h0 3 c u hc hu
    | 4, hc, hu => exact h1 0 c u hc hu
    | 5, hc, hu => exact h1 1 c u hc hu
    | 6, hc, hu => exact h1 2 c u hc hu
    | 7, hc, hu => exact h1 3 c u hc hu
    | j + 8, hc, hu => simp at hc) h
  exact ⟨l, hr, hll⟩
end
end Go.VZ
