/- Boxes, made rows, stores. -/
import Derived.Test.YtdoegkegjaadeaaGreatDoorQV10
import Derived.IntWalk
namespace Go.V
open Go

section
variable {P : Program} {B : Nat} {A0 : Nat → Nat → Prop} {σ : List (Option Nat)} {h : H} {w : World}

theorem run_newVar (t : TypeId) (v : Value) : (newVar t v).run P w = .ok ⟨w.heap.size, 0, none⟩ (w.alloc (.cells v.cells t)) := by
  simp only [newVar, newRow, Sem.run_bind, run_newObj, Result.andThen_ok, Sem.run_pure, World.alloc_eq]

/-- A new object of these cells. -/
theorem pushCells [DFlag] (hr : HRel P B A0 σ h w) {cs : List AV} {vs : Array Value} {t : TypeId} (hl : cs.length ≤ vs.size) (h1 : ∀ c ∈ cs, c.one = true)
    (hrel : ∀ (k : Nat) c v, cs[k]? = some c → vs[k]? = some v → Rel P (Alw P B A0 σ h) σ h w c v) :
    HRel P B A0 (σ ++ [some w.heap.size]) (h ++ [.cells cs .live]) (w.alloc (.cells vs t)) ∧ Step P B A0 σ h w (σ ++ [some w.heap.size]) (h ++ [.cells cs .live]) (w.alloc (.cells vs t)) :=
  ⟨HRel.push hr (Grows.alloc _ _) _ _ (fun b hb => by simp at hb; omega) (fun cs' st e => by
      simp only [VObj.cells.injEq] at e; obtain ⟨rfl, rfl⟩ := e
      exact ⟨_, vs, t, rfl, heap_alloc_new w _, hl, h1, hrel⟩) (fun u ty e => by cases e), Step.push hr (Grows.alloc _ _) _ _ (fun b hb => by simp at hb; omega)⟩

theorem box_sound [DFlag] (hr : HRel P B A0 σ h w) {t : TypeId} {a : AV} {u : Value} (ra : Rel P (Alw P B A0 σ h) σ h w a u) (hn : notTuple a = true) :
    ∃ v w', (Instr.box t u).run P w = .ok v w' ∧ Leaves P B A0 σ h w (.ptr h.length 0) (h ++ [.cells a.cells .live]) v w' := by
  obtain ⟨e1, e2, e3⟩ := one_cells ra hn
  obtain ⟨hR, st⟩ := pushCells (t := t) hr (by omega) e2 e3
  exact ⟨.pointer (some ⟨w.heap.size, 0, none⟩), _, by simp only [Instr.box, Sem.run_bind, run_newVar, Result.andThen_ok, Sem.run_pure], _, hR, st, .ptr (by rw [← hr.len, getElem?_push_eq]) ⟨_, _, getElem?_push_eq h _⟩⟩

theorem zeroV_notTuple {t : TypeId} {a : AV} (hh : zeroV P t = some a) : notTuple a = true := by
  unfold zeroV at hh
  split at hh <;> first | (cases hh; done) | skip
  split at hh <;> first | (cases hh; done) | skip
  split at hh <;> first | (cases hh; done) | skip
  rename_i a' ha
  split at hh <;> first | (cases hh; done) | skip
  simp only [Option.some.injEq] at hh; subst hh
  unfold ofConst at ha
  split at ha
  · split at ha <;> first | (cases ha; done) | skip
    simp only [Option.some.injEq] at ha; subst ha; rfl
  · have := ofScalar_one ha
    cases a' <;> simp_all [AV.one, notTuple]

theorem alloc_sound [DFlag] (hr : HRel P B A0 σ h w) {t : TypeId} {a : AV} (hz : zeroV P t = some a) :
    ∃ v w', (Instr.alloc t true (.tuple #[])).run P w = .ok v w' ∧ Leaves P B A0 σ h w (.ptr h.length 0) (h ++ [.cells a.cells .live]) v w' := by
  obtain ⟨v, e1, e2, _⟩ := zeroV_spec (A := Alw P B A0 σ h) (σ := σ) (h := h) (w := w) hz
  obtain ⟨v', w', e3, e4⟩ := box_sound (t := t) hr e2 (zeroV_notTuple hz)
  refine ⟨v', w', ?_, e4⟩
  simp only [Instr.box, Sem.run_bind] at e3
  simp only [Instr.alloc, Sem.run_bind, e1, Result.andThen_ok]
  exact e3

theorem nilTok_sound [DFlag] (hr : HRel P B A0 σ h w) (e : TypeId) : Leaves P B A0 σ h w (.isl [] (.tok h.length)) (h ++ [.tok 0 e]) (.slice none 0 0) w :=
  ⟨σ ++ [none], HRel.push hr (.refl w) _ _ (fun b hb => by simp at hb) (fun cs st e => by cases e) (fun u ty e => by simp only [VObj.tok.injEq] at e; exact .inl ⟨rfl, e.1.symm⟩),
    Step.push hr (.refl w) _ _ (fun b hb => by simp at hb), .tok .islNil ⟨0, e, getElem?_push_eq h _, Nat.le_refl _, fun _ => .inl ⟨rfl, by rw [← hr.len, getElem?_push_eq], rfl⟩⟩⟩

theorem zipped_get (z : Array Value) (n : Nat) (hz : 0 < z.size) (k : Nat) (hk : k < n * z.size) : ((Array.range (n * z.size)).map (z[· % z.size]!))[k]? = z[k % z.size]? := by
  have : k % z.size < z.size := Nat.mod_lt _ hz
  simp [hk, this]
theorem flatten_replicate_get {α : Type} (z : List α) : ∀ (n k : Nat), k < n * z.length → ((List.replicate n z).flatten)[k]? = z[k % z.length]? := by
  intro n
  induction n with
  | zero => intro k hk; simp at hk
  | succ n ih =>
    intro k hk
    simp only [List.replicate_succ, List.flatten_cons]
    by_cases hkz : k < z.length
    · rw [List.getElem?_append_left hkz, Nat.mod_eq_of_lt hkz]
    · rw [List.getElem?_append_right (by omega), ih _ (by rw [Nat.succ_mul] at hk; omega)]
      rw [Nat.mod_eq_sub_mod (a := k) (by omega)]

theorem makeSliceV_sound [DFlag] (hr : HRel P B A0 σ h w) {wr : Bool} {t : TypeId} {l c r : AV} {h' : H} {ul uc : Value} (hh : makeSliceV P wr h t l c = some (r, h')) (rl : Rel P (Alw P B A0 σ h) σ h w l ul) (rc : Rel P (Alw P B A0 σ h) σ h w c uc) :
    ∃ v w', (Instr.makeSlice t ul uc).run P w = .ok v w' ∧ Leaves P B A0 σ h w r h' v w' := by
  unfold makeSliceV at hh
  split at hh <;> first | (cases hh; done) | skip
  rename_i elem l c ht
  split at hh <;> first | (cases hh; done) | skip
  rename_i sz by_ z hsz hby hz
  split at hh <;> first | (cases hh; done) | skip
  rename_i hg
  simp only [Bool.or_eq_true, Bool.not_eq_true', beq_iff_eq, not_or, Bool.not_eq_false, decide_eq_false_iff_not, Decidable.not_not] at hg
  obtain ⟨⟨⟨hsz0, hzo⟩, hlc⟩, hb4⟩ := hg
  rw [rel_int rl, rel_int rc]
  obtain ⟨i, z0, hi, hz0, hzs⟩ := zeroOk_spec hzo
  have hisz : i.size = sz := by simpa [sizeV, hi] using hsz
  have hiby : i.bytes = by_ := by simpa [bytesV, hi] using hby
  subst hisz hiby
  obtain ⟨v, e1, e2, i2, e3, e4⟩ := zeroV_spec (A := Alw P B A0 σ h) (σ := σ) (h := h) (w := w) hz
  rw [hi] at e3; simp only [Option.some.injEq] at e3; subst e3
  obtain ⟨k1, k2, k3⟩ := one_cells e2 (zeroV_notTuple hz)
  have hwl : IntKind.i64.wrap l = l := IntWalk.i64_in _ (by omega)
  have hwc : IntKind.i64.wrap c = c := IntWalk.i64_in _ (by omega)
  have hbytes : (i.bytes : Int) * c ≤ 4096 * 1073741824 := Int.mul_le_mul (by omega) hlc.2.2 (by omega) (by omega)
  have hbytes2 : (i.bytes : Int) * l ≤ 4096 * 1073741824 := Int.mul_le_mul (by omega) (by omega) (by omega) (by omega)
  have run : ∀ (vs : Array Value), ((c.toNat * i.size = 0 ∧ vs = #[]) ∨ (c.toNat * i.size ≠ 0 ∧ vs = (Array.range (c.toNat * i.size)).map (v.cells[· % v.cells.size]!))) →
      (Instr.makeSlice t (.int .i64 l) (.int .i64 c)).run P w = .ok (.slice (some ⟨w.heap.size, 0, none⟩) l.toNat c.toNat) (w.alloc (.cells vs elem)) := by
    intro vs hvs
    have hT : ∀ q : Int, 0 ≤ q → (i.bytes : Int) * q ≤ 4096 * 1073741824 → (decide (q < 0) || decide ((i.bytes : Int) * q > 2 ^ 48)) = false := fun q h1 h2 => by
      simp only [Bool.or_eq_false_iff, decide_eq_false_iff_not]; omega
    have hbig : ¬ (c.toNat * i.bytes > roomBytes) := by
      have : ((c.toNat * i.bytes : Nat) : Int) = i.bytes * c := by rw [Int.natCast_mul, Int.toNat_of_nonneg (by omega), Int.mul_comm]
      simp only [roomBytes]; omega
    simp only [Instr.makeSlice, Sem.run_bind, run_under ht, Result.andThen_ok, asInt, asIntOf, Sem.run_pure, typeInfo, run_program, hi, hwl, hwc]
    rw [hT c (by omega) hbytes]
    simp only [Bool.false_or, Bool.or_eq_true, decide_eq_true_eq]
    rw [if_neg (by omega)]
    simp only [Sem.run_bind, Result.andThen_ok, run_askRoom, run_sizeOf (show sizeV P elem = some i.size from hsz)]
    rcases hvs with ⟨h1, rfl⟩ | ⟨h1, rfl⟩
    · simp [h1, newRow, show Array.range 0 = (#[] : Array Nat) from rfl]
    · simp only [if_neg h1, Sem.run_bind, e1, Sem.run_pure, Result.andThen_ok, newRow, run_newObj, World.alloc_eq]
  obtain ⟨vs, hvs, hvsize, hvget⟩ : ∃ vs : Array Value, ((c.toNat * i.size = 0 ∧ vs = #[]) ∨ (c.toNat * i.size ≠ 0 ∧ vs = (Array.range (c.toNat * i.size)).map (v.cells[· % v.cells.size]!))) ∧ vs.size = c.toNat * i.size ∧
      ∀ k : Nat, k < c.toNat * i.size → vs[k]? = v.cells[k % v.cells.size]? := by
    by_cases h1 : c.toNat * i.size = 0
    · exact ⟨#[], .inl ⟨h1, rfl⟩, by simp [h1], fun k hk => by omega⟩
    · refine ⟨_, .inr ⟨h1, rfl⟩, by simp, fun k hk => ?_⟩
      have hsv : v.cells.size = i.size := by omega
      have := zipped_get v.cells c.toNat (by omega) k (by rw [hsv]; exact hk)
      rw [hsv] at this ⊢
      exact this
  have hcm : c.toNat ≤ maxLen := by simp only [maxLen]; omega
  split at hh
  · rename_i hl0
    simp only [Option.some.injEq, Prod.mk.injEq] at hh; obtain ⟨rfl, rfl⟩ := hh
    obtain ⟨rfl, _⟩ := hl0
    refine ⟨_, _, run vs hvs, σ ++ [some w.heap.size], ?_, Step.push hr (Grows.alloc _ _) _ _ (fun b hb => by simp at hb; omega), ?_⟩
    · exact HRel.push hr (Grows.alloc _ _) _ _ (fun b hb => by simp at hb; omega) (fun cs st e => by cases e) (fun u ty e => by
        simp only [VObj.tok.injEq] at e; obtain ⟨rfl, rfl⟩ := e
        exact .inr ⟨_, vs, i.size, c.toNat, rfl, heap_alloc_new w _, hsz, hvsize, Nat.zero_le _, hcm⟩)
    · refine .tok (of_flat (fl := []) (sz := 1) ⟨by simp, by simp, by simp, by simp⟩ (by omega) (by simp) hcm (by simp)) ⟨0, elem, getElem?_push_eq h _, Nat.le_refl _, fun _ => .inr ⟨w.heap.size, c.toNat, vs, i.size, by rw [← hr.len, getElem?_push_eq], by simp, ⟨_, heap_alloc_new w _⟩, hsz, hvsize, Nat.zero_le _, hcm⟩⟩
  · simp only [Option.some.injEq, Prod.mk.injEq] at hh; obtain ⟨rfl, rfl⟩ := hh
    have hfl : ((List.replicate c.toNat z.cells).flatten).length = c.toNat * i.size := by simp [List.length_flatten, List.map_replicate, List.sum_replicate_nat, e4]
    obtain ⟨hR, st⟩ := pushCells (cs := (List.replicate c.toNat z.cells).flatten) (vs := vs) (t := elem) hr (by omega) (fun x hx => by
        obtain ⟨l, hl, hx⟩ := List.mem_flatten.1 hx
        rw [(List.mem_replicate.1 hl).2] at hx; exact k2 x hx) (fun k x y hx hy => by
        have hk : k < c.toNat * i.size := by rw [← hfl]; exact (List.getElem?_eq_some_iff.1 hx).1
        rw [flatten_replicate_get z.cells c.toNat k (by rw [e4]; exact hk)] at hx
        rw [hvget k hk] at hy
        rw [k1] at hy
        exact k3 _ x y hx hy)
    exact ⟨_, _, run vs hvs, _, hR, st, .msl (by rw [← hr.len, getElem?_push_eq]) ⟨_, _, getElem?_push_eq h _⟩ (by omega) (by omega) hcm (fun n hn => by simpa using hn) ⟨_, _, _, heap_alloc_new w _, by rw [hvsize]; omega⟩⟩

theorem storeV_sound [DFlag] (hr : HRel P B A0 σ h w) {t : TypeId} {a x : AV} {h' : H} {u v : Value} (hh : storeV P h t a x = some h') (ra : Rel P (Alw P B A0 σ h) σ h w a u) (rx : Rel P (Alw P B A0 σ h) σ h w x v) :
    ∃ w', (Instr.storeAt t u v).run P w = .ok () w' ∧ HRel P B A0 σ h' w' ∧ Step P B A0 σ h w σ h' w' := by
  unfold storeV at hh
  split at hh <;> first | (cases hh; done) | skip
  rename_i id off
  split at hh <;> first | (cases hh; done) | skip
  rename_i cs n hid hn
  obtain ⟨b, rfl, g1, _⟩ := rel_ptr ra
  obtain ⟨b', vs, ty, k1, k2, k3, k4, k5, k6⟩ := hr.cells id cs _ hid (by simp)
  rw [g1] at k1; simp only [Option.some.injEq] at k1; subst k1
  have go : ∀ (xs : List AV), x.cells = xs → notTuple x = true → xs.length = n → off + n ≤ cs.length → ∀ cs', cs' = cs.take off ++ xs ++ cs.drop (off + n) →
      ∃ w', (Instr.storeAt t (.pointer (some ⟨b, off, none⟩)) v).run P w = .ok () w' ∧ HRel P B A0 σ (h.set id (.cells cs' .live)) w' ∧ Step P B A0 σ h w σ (h.set id (.cells cs' .live)) w' := by
    intro xs hxs hnt hxl hoff cs' hcs'
    subst hxs
    obtain ⟨e1, e2, e3⟩ := one_cells rx hnt
    have hl : v.cells.toList.length = n := by simp; omega
    have hst := run_storeCells_at P b off ty v.cells.toList 0 vs w k3 (by rw [hl]; omega) (fun y hy => by
      obtain ⟨j, hj, rfl⟩ := List.getElem_of_mem hy
      have hc : x.cells[j]? = some (x.cells[j]'(by omega)) := List.getElem?_eq_getElem _
      exact rel_one (e3 j _ _ hc (by rw [← Array.getElem?_toList]; exact List.getElem?_eq_getElem hj)) (e2 _ (List.getElem_mem _)))
    simp only [Nat.add_zero, hl] at hst
    subst hcs'
    have hmidc : off + x.cells.length ≤ cs.length := by omega
    have hmidv : off + v.cells.toList.length ≤ vs.toList.length := by rw [hl]; simp; omega
    have hsz' : (vs.toList.take off ++ v.cells.toList ++ vs.toList.drop (off + n)).toArray.size = vs.size := by
      simp only [List.size_toArray, List.length_append, List.length_take, List.length_drop, Array.length_toList]; simp at hl; omega
    refine ⟨_, ?_, HRel.write hr hid g1 k3 hsz' (by simp only [List.length_append, List.length_take, List.length_drop]; omega) (fun c hc => ?_) (fun k c y hc hy => ?_), Step.write hr hid g1 k3 hsz'⟩
    · simp only [Instr.storeAt, Instr.sureAddr, Sem.run_bind, Sem.run_pure, Result.andThen_ok, storeVar, run_sizeOf hn]
      rw [if_neg (by simp; omega)]
      exact hst
    · simp only [List.mem_append] at hc
      rcases hc with (hc | hc) | hc
      · exact k5 c (List.mem_of_mem_take hc)
      · exact e2 c hc
      · exact k5 c (List.mem_of_mem_drop hc)
    · rw [← hxl, getElem?_mid _ _ _ hmidc] at hc
      rw [List.getElem?_toArray, ← hl, getElem?_mid _ _ _ hmidv] at hy
      rw [hl] at hy; rw [hxl] at hc
      split at hc
      · rename_i hk
        rw [if_pos hk, Array.getElem?_toList] at hy
        exact e3 _ c y hc hy
      · rename_i hk
        rw [if_neg hk, Array.getElem?_toList] at hy
        exact k6 k c y hc hy
  split at hh <;> first | (cases hh; done) | skip
  · rename_i xs
    split at hh <;> first | (cases hh; done) | skip
    rename_i hb
    simp only [Option.some.injEq] at hh; subst hh
    exact go xs rfl rfl hb.1 hb.2 _ rfl
  · rename_i nt na
    split at hh <;> first | (cases hh; done) | skip
    rename_i hb
    simp only [Option.some.injEq] at hh; subst hh
    have hx1 : x.cells = [x] := by
      cases x with
      | agg cs => exact absurd rfl (na cs)
      | _ => rfl
    have hnt : notTuple x = true := by
      cases x with
      | tuple vs => exact absurd rfl (nt vs)
      | _ => rfl
    obtain ⟨rfl, hb2⟩ := hb
    exact go [x] hx1 hnt rfl (by omega) _ (by rw [List.set_eq_take_append_cons_drop, if_pos hb2]; simp)
end
end Go.V
