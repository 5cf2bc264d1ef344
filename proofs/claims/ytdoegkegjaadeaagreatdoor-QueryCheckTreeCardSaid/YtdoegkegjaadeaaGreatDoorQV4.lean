/- The operations that look at their operands alone, one after the other. -/
import Derived.Test.YtdoegkegjaadeaaGreatDoorQV3
namespace Go.V
open Go

section
variable {P : Program} {A : Nat → Nat → Prop} {σ : List (Option Nat)} {h : H} {w : World}

theorem sizeV_info {t : TypeId} {n : Nat} (hh : sizeV P t = some n) : ∃ i, P.info? t = some i ∧ i.size = n := by
  unfold sizeV at hh
  cases hi : P.info? t with
  | none => simp [hi] at hh
  | some i => exact ⟨i, rfl, by simpa [hi] using hh⟩
theorem run_sizeOf {t : TypeId} {n : Nat} (hh : sizeV P t = some n) : (sizeOf t).run P w = .ok n w := by
  obtain ⟨i, hi, rfl⟩ := sizeV_info hh
  simp [sizeOf, typeInfo, hi]
theorem run_under {t : TypeId} {d : TypeDesc} (hh : P.underlying t = some d) : (underlying t).run P w = .ok d w := by
  simp [underlying, hh]
theorem run_isAgg {t : TypeId} {b : Bool} (hh : isAggB P t = some b) : (isAgg t).run P w = .ok b w := by
  unfold isAggB at hh
  split at hh <;> first | (cases hh; done) | skip
  · rename_i hu; cases hh; simp [isAgg, run_under hu]
  · rename_i hu; cases hh; simp [isAgg, run_under hu]
  · rename_i d h1 h2 hu
    cases hh
    simp only [isAgg, Sem.run_bind, run_under hu, Result.andThen_ok]
    cases d <;> first | rfl | exact absurd rfl (h1 _) | exact absurd rfl (h2 _ _)

theorem getElem?_drop_take (l : List AV) (off n i : Nat) : ((l.drop off).take n)[i]? = if i < n then l[off + i]? else none := by
  rw [List.getElem?_take]; split <;> simp [List.getElem?_drop]

theorem cellsAt_part {t : TypeId} {cs : List AV} {off : Nat} {r : AV} {vs : Array Value} (hh : cellsAt P t cs off = some r) (h1 : ∀ c ∈ cs, c.one = true) (hl : vs.size = cs.length)
    (hr : ∀ (i : Nat) a v, cs[i]? = some a → vs[i]? = some v → Rel P A σ h w a v) : ∃ v, (part t vs off).run P w = .ok v w ∧ Rel P A σ h w r v := by
  unfold cellsAt at hh
  split at hh <;> first | (cases hh; done) | skip
  · rename_i n ha hn
    split at hh <;> first | (cases hh; done) | skip
    rename_i hb
    simp only [Option.some.injEq] at hh; subst hh
    refine ⟨.agg (vs.extract off (off + n)), by simp [part, run_isAgg ha, run_sizeOf hn], .agg (fun c hc => h1 c (List.mem_of_mem_drop (List.mem_of_mem_take hc))) ?_ (fun i a v hi hv => ?_)⟩
    · simp; omega
    · rw [getElem?_drop_take] at hi
      split at hi
      · refine hr (off + i) a v hi ?_
        rw [Array.getElem?_extract] at hv
        split at hv <;> simp_all
      · cases hi
  · rename_i n ha hn
    have hlt : off < cs.length := by
      rcases Nat.lt_or_ge off cs.length with h | h
      · exact h
      · rw [List.getElem?_eq_none h] at hh; cases hh
    have hv : vs[off]? = some (vs[off]'(by omega)) := Array.getElem?_eq_getElem _
    exact ⟨_, by simp [part, run_isAgg ha, hv], hr off r _ hh hv⟩

theorem run_equalIn_nil_ptr (d : Nat) {t e : TypeId} (b : Option Addr) (hu : P.underlying t = some (.pointer e)) :
    (Op.equalIn (d + 1) t (.pointer none) (.pointer b)).run P w = .ok b.isNone w := by
  simp only [Op.equalIn, Sem.run_bind, run_under hu, Result.andThen_ok]; rfl
theorem run_equalIn_ptr_nil (d : Nat) {t e : TypeId} (a : Addr) (hu : P.underlying t = some (.pointer e)) :
    (Op.equalIn (d + 1) t (.pointer (some a)) (.pointer none)).run P w = .ok false w := by
  simp only [Op.equalIn, Sem.run_bind, run_under hu, Result.andThen_ok]; rfl
theorem run_eql_ptrs {t : TypeId} (a b : Option Addr) (x y : Operand) (r : Bool) (h1 : (Op.equalIn (9999 + 1) t (.pointer a) (.pointer b)).run P w = .ok r w) :
    (do eqGuard .eql t x y (.pointer a) (.pointer b); binOp .eql t (.pointer a) (.pointer b) : Sem Value).run P w = .ok (.bool r) w := by
  have : Op.equal t (.pointer a) (.pointer b) = Op.equalIn (9999 + 1) t (.pointer a) (.pointer b) := rfl
  simp only [eqGuard, binOp, this, Sem.run_bind, Sem.run_pure, ite_self, Result.andThen_ok, h1]
theorem run_neq_ptrs {t : TypeId} (a b : Option Addr) (x y : Operand) (r : Bool) (h1 : (Op.equalIn (9999 + 1) t (.pointer a) (.pointer b)).run P w = .ok r w) :
    (do eqGuard .neq t x y (.pointer a) (.pointer b); binOp .neq t (.pointer a) (.pointer b) : Sem Value).run P w = .ok (.bool !r) w := by
  have : Op.equal t (.pointer a) (.pointer b) = Op.equalIn (9999 + 1) t (.pointer a) (.pointer b) := rfl
  simp only [eqGuard, binOp, this, Sem.run_bind, Sem.run_pure, ite_self, Result.andThen_ok, h1]

theorem run_eql_slices {t : TypeId} (a : Addr) (n c : Nat) (x y : Operand) (r : Bool) (h1 : (Op.equalIn (9999 + 1) t (.slice (some a) n c) (.slice none 0 0)).run P w = .ok r w) :
    (do eqGuard .eql t x y (.slice (some a) n c) (.slice none 0 0); binOp .eql t (.slice (some a) n c) (.slice none 0 0) : Sem Value).run P w = .ok (.bool r) w := by
  have : Op.equal t (.slice (some a) n c) (.slice none 0 0) = Op.equalIn (9999 + 1) t (.slice (some a) n c) (.slice none 0 0) := rfl
  simp only [eqGuard, binOp, this, Sem.run_bind, Sem.run_pure, ite_self, Result.andThen_ok, h1]
theorem run_neq_slices {t : TypeId} (a : Addr) (n c : Nat) (x y : Operand) (r : Bool) (h1 : (Op.equalIn (9999 + 1) t (.slice (some a) n c) (.slice none 0 0)).run P w = .ok r w) :
    (do eqGuard .neq t x y (.slice (some a) n c) (.slice none 0 0); binOp .neq t (.slice (some a) n c) (.slice none 0 0) : Sem Value).run P w = .ok (.bool !r) w := by
  have : Op.equal t (.slice (some a) n c) (.slice none 0 0) = Op.equalIn (9999 + 1) t (.slice (some a) n c) (.slice none 0 0) := rfl
  simp only [eqGuard, binOp, this, Sem.run_bind, Sem.run_pure, ite_self, Result.andThen_ok, h1]
theorem run_equalIn_slice_nil (d : Nat) {t e : TypeId} (a : Addr) (n c : Nat) (hu : P.underlying t = some (.slice e)) :
    (Op.equalIn (d + 1) t (.slice (some a) n c) (.slice none 0 0)).run P w = .ok false w := by
  simp only [Op.equalIn, Sem.run_bind, run_under hu, Result.andThen_ok]; rfl
theorem run_slice_nil {t e : TypeId} (a : Addr) (n c : Nat) (x y : Operand) (hu : P.underlying t = some (.slice e)) {op : BinOp} {b : Bool} (ho : eqSign op = some b) :
    (do eqGuard op t x y (.slice (some a) n c) (.slice none 0 0); binOp op t (.slice (some a) n c) (.slice none 0 0) : Sem Value).run P w = .ok (.bool b) w := by
  unfold eqSign at ho
  split at ho <;> first | (cases ho; done) | skip
  · cases ho; exact run_eql_slices a n c x y false (run_equalIn_slice_nil 9999 a n c hu)
  · cases ho; exact run_neq_slices a n c x y false (run_equalIn_slice_nil 9999 a n c hu)
theorem irel_sure {a : AV} {u : Value} (hs : sureV a = true) (ra : IRel A w a u) : ∃ p n c, u = .slice (some p) n c := by
  cases ra <;> first | (cases hs; done) | exact ⟨_, _, _, rfl⟩
theorem rel_sure {a : AV} {u : Value} (hs : sureV a = true) (ra : Rel P A σ h w a u) : ∃ p n c, u = .slice (some p) n c := by
  cases ra with
  | data r => exact irel_sure hs r
  | msl => exact ⟨_, _, _, rfl⟩
  | full hd => exact irel_sure (by simpa [sureV] using hs) hd
  | tok hd => exact irel_sure (by simpa [sureV] using hs) hd
  | _ => cases hs
theorem nilCmpV_sound {op : BinOp} {t : TypeId} {x y : Operand} {a r : AV} {u : Value} (hh : nilCmpV P op t y a = some r) (ra : Rel P A σ h w a u) :
    ∃ z, (do eqGuard op t x y u (.slice none 0 0); binOp op t u (.slice none 0 0) : Sem Value).run P w = .ok z w ∧ Rel P A σ h w r z := by
  unfold nilCmpV at hh
  split at hh <;> first | (cases hh; done) | skip
  rename_i hb
  simp only [Bool.and_eq_true] at hb
  obtain ⟨⟨_, h2⟩, h3⟩ := hb
  unfold isSl at h3
  split at h3 <;> first | (cases h3; done) | skip
  rename_i e he
  obtain ⟨p, n, c, rfl⟩ := rel_sure h2 ra
  cases hs : eqSign op with
  | none => rw [hs] at hh; cases hh
  | some b =>
    rw [hs] at hh; simp only [Option.map_some, Option.some.injEq] at hh; subst hh
    exact ⟨_, run_slice_nil p n c x y he hs, .data (.bool _)⟩
theorem nilCmpV_nil {op : BinOp} {t : TypeId} {y : Operand} {a r : AV} (hh : nilCmpV P op t y a = some r) : y = .const (.slice none 0 0) := by
  unfold nilCmpV at hh
  split at hh <;> first | (cases hh; done) | skip
  rename_i hb
  simp only [Bool.and_eq_true] at hb
  have := hb.1.1
  unfold isNil at this
  split at this <;> first | rfl | cases this

theorem binV_sound {op : BinOp} {t : TypeId} {x y : Operand} {a b r : AV} {u v : Value} (hh : binV P op t x y a b = some r) (ra : Rel P A σ h w a u) (rb : Rel P A σ h w b v) (hcy : y = .const (.slice none 0 0) → v = .slice none 0 0) :
    ∃ z, (do eqGuard op t x y u v; binOp op t u v : Sem Value).run P w = .ok z w ∧ Rel P A σ h w r z := by
  unfold binV at hh
  split at hh
  · rename_i u' v' hu hv
    rw [toVal_rel hu ra, toVal_rel hv rb]
    split at hh <;> first | (cases hh; done) | skip
    rename_i z hz
    exact ⟨z, pureVal_run _ _ hz, ofConst_Rel hh⟩
  · split at hh
    rotate_left 8
    · rw [hcy (nilCmpV_nil hh)]; exact nilCmpV_sound hh ra
    all_goals
      split at hh <;> first | (cases hh; done) | skip
      rename_i hty
      simp only [Option.some.injEq] at hh; subst hh
      have hi : ∀ (id off : Nat) z, Rel P A σ h w (.ptr id off) z → ∃ p, z = .pointer (some p) := fun id off z r => by
        cases r with
        | data r => cases r
        | ptr => exact ⟨_, rfl⟩
      have hj : ∀ (e : AV) (off : Nat) z, Rel P A σ h w (.iptr e off) z → ∃ p, z = .pointer (some p) := fun id off z r => by
        cases r with
        | data r => cases r; exact ⟨_, rfl⟩
      have hn : ∀ z, Rel P A σ h w .nilptr z → z = .pointer none := fun z r => toScalar_rel (a := .nilptr) rfl r
    · have := hn _ ra; obtain ⟨p, rfl⟩ := hi _ _ _ rb; subst this
      exact ⟨.bool false, run_eql_ptrs _ _ x y _ (run_equalIn_nil_ptr 9999 _ hty), .data (.bool _)⟩
    · have := hn _ ra; obtain ⟨p, rfl⟩ := hj _ _ _ rb; subst this
      exact ⟨.bool false, run_eql_ptrs _ _ x y _ (run_equalIn_nil_ptr 9999 _ hty), .data (.bool _)⟩
    · have := hn _ rb; obtain ⟨p, rfl⟩ := hi _ _ _ ra; subst this
      exact ⟨.bool false, run_eql_ptrs _ _ x y _ (run_equalIn_ptr_nil 9999 _ hty), .data (.bool _)⟩
    · have := hn _ rb; obtain ⟨p, rfl⟩ := hj _ _ _ ra; subst this
      exact ⟨.bool false, run_eql_ptrs _ _ x y _ (run_equalIn_ptr_nil 9999 _ hty), .data (.bool _)⟩
    · have := hn _ ra; obtain ⟨p, rfl⟩ := hi _ _ _ rb; subst this
      exact ⟨.bool true, run_neq_ptrs _ _ x y _ (run_equalIn_nil_ptr 9999 _ hty), .data (.bool _)⟩
    · have := hn _ ra; obtain ⟨p, rfl⟩ := hj _ _ _ rb; subst this
      exact ⟨.bool true, run_neq_ptrs _ _ x y _ (run_equalIn_nil_ptr 9999 _ hty), .data (.bool _)⟩
    · have := hn _ rb; obtain ⟨p, rfl⟩ := hi _ _ _ ra; subst this
      exact ⟨.bool true, run_neq_ptrs _ _ x y _ (run_equalIn_ptr_nil 9999 _ hty), .data (.bool _)⟩
    · have := hn _ rb; obtain ⟨p, rfl⟩ := hj _ _ _ ra; subst this
      exact ⟨.bool true, run_neq_ptrs _ _ x y _ (run_equalIn_ptr_nil 9999 _ hty), .data (.bool _)⟩

theorem unV_sound {op : UnOp} {a r : AV} {u : Value} (hh : unV P op a = some r) (ra : Rel P A σ h w a u) : ∃ z, (Op.unary op u).run P w = .ok z w ∧ Rel P A σ h w r z := by
  unfold unV at hh
  split at hh <;> first | (cases hh; done) | skip
  rename_i u' hu
  rw [toVal_rel hu ra]
  split at hh <;> first | (cases hh; done) | skip
  rename_i z hz
  exact ⟨z, pureVal_run _ _ hz, ofConst_Rel hh⟩
theorem convV_sound {src dst : TypeId} {a r : AV} {u : Value} (hh : convV P src dst a = some r) (ra : Rel P A σ h w a u) : ∃ z, (convert src dst u).run P w = .ok z w ∧ Rel P A σ h w r z := by
  unfold convV at hh
  split at hh <;> first | (cases hh; done) | skip
  rename_i u' hu
  rw [toVal_rel hu ra]
  split at hh <;> first | (cases hh; done) | skip
  rename_i z hz
  exact ⟨z, pureVal_run _ _ hz, ofConst_Rel hh⟩

/-- A pointer into own or foreign cells. -/
theorem rel_ptr {id off : Nat} {v : Value} (r : Rel P A σ h w (.ptr id off) v) : ∃ b, v = .pointer (some ⟨b, off, none⟩) ∧ σ[id]? = some (some b) ∧ ∃ cs st, h[id]? = some (.cells cs st) := by
  cases r with
  | data r => cases r
  | ptr hs hk => exact ⟨_, rfl, hs, hk⟩
theorem rel_iptr {e : AV} {off : Nat} {v : Value} (r : Rel P A σ h w (.iptr e off) v) : ∃ (b o : Nat) (f : Nat → Value), v = .pointer (some ⟨b, o + off, none⟩) ∧ (∀ c ∈ e.cells, c.one = true) ∧
    (∀ (j : Nat) c, e.cells[j]? = some c → A b (o + j) ∧ w.cell? ⟨b, o + j, none⟩ = some (f j)) ∧ ∀ (j : Nat) c, e.cells[j]? = some c → IRel A w c (f j) := by
  cases r with
  | data r => cases r with | iptr f h1 h2 h3 => exact ⟨_, _, f, rfl, h1, h2, h3⟩
theorem rel_msl {id off sz len : Nat} {cap : Option Nat} {v : Value} (r : Rel P A σ h w (.msl id off sz len cap) v) : ∃ b c, v = .slice (some ⟨b, off, none⟩) len c ∧ σ[id]? = some (some b) ∧
    (∃ cs st, h[id]? = some (.cells cs st)) ∧ 0 < sz ∧ len ≤ c ∧ c ≤ maxLen ∧ (∀ n, cap = some n → c = n) ∧ ∃ vs ty fr, w.heap[b]? = some (.cells vs ty fr) ∧ off + c * sz ≤ vs.size := by
  cases r with
  | data r => cases r
  | msl hs hk h0 hc hm hcap hw => exact ⟨_, _, rfl, hs, hk, h0, hc, hm, hcap, hw⟩
theorem rel_isl {es : List AV} {x : Ext} {v : Value} (r : Rel P A σ h w (.isl es x) v) : IRel A w (.isl es .unk) v := by
  cases r with
  | data r => cases r with
    | islNil => exact .islNil
    | islEmpty a cap hm => exact .islEmpty a cap hm
    | isl f hz hc hm h0 h1 h2 h3 => exact .isl f hz hc hm h0 h1 h2 h3
  | full hd => exact hd
  | tok hd ht => exact hd
theorem irel_empty {A A' : Nat → Nat → Prop} {w w' : World} {v : Value} (r : IRel A w (.isl [] .unk) v) : IRel A' w' (.isl [] .unk) v := by
  cases r with
  | islNil => exact .islNil
  | islEmpty a cap hm => exact .islEmpty a cap hm
  | isl f hz hc hm h0 h1 h2 h3 => exact .islEmpty _ _ hm
theorem irel_isl {es : List AV} {v : Value} (r : IRel A w (.isl es .unk) v) : (es = [] ∧ ∃ base cap, v = .slice base 0 cap ∧ cap ≤ maxLen ∧ (base = none → cap = 0)) ∨
    ∃ (sz b o cap : Nat) (f : Nat → Nat → Value), v = .slice (some ⟨b, o, none⟩) es.length cap ∧ 0 < sz ∧ es.length ≤ cap ∧ cap ≤ maxLen ∧
      (∀ e ∈ es, e.cells.length = sz ∧ notTuple e = true) ∧ (∀ e ∈ es, ∀ c ∈ e.cells, c.one = true) ∧
      (∀ (i j : Nat) e c, es[i]? = some e → e.cells[j]? = some c → A b (o + i * sz + j) ∧ w.cell? ⟨b, o + i * sz + j, none⟩ = some (f i j)) ∧
      ∀ (i j : Nat) e c, es[i]? = some e → e.cells[j]? = some c → IRel A w c (f i j) := by
  cases r with
  | islNil => exact .inl ⟨rfl, _, _, rfl, by simp [maxLen], fun _ => rfl⟩
  | islEmpty a cap hm => exact .inl ⟨rfl, _, _, rfl, hm, fun e => by cases e⟩
  | isl f hz hc hm h0 h1 h2 h3 => exact .inr ⟨_, _, _, _, f, rfl, hz, hc, hm, h0, h1, h2, h3⟩

theorem addr_add (b o n : Nat) : (⟨b, o, none⟩ : Addr).add n = ⟨b, o + n, none⟩ := by
  unfold Addr.add; split <;> simp_all

theorem elem_iptr {es : List AV} {b o sz : Nat} {f : Nat → Nat → Value} (h1 : ∀ e ∈ es, ∀ c ∈ e.cells, c.one = true)
    (h2 : ∀ (i j : Nat) e c, es[i]? = some e → e.cells[j]? = some c → A b (o + i * sz + j) ∧ w.cell? ⟨b, o + i * sz + j, none⟩ = some (f i j))
    (h3 : ∀ (i j : Nat) e c, es[i]? = some e → e.cells[j]? = some c → IRel A w c (f i j)) {i : Nat} {e : AV} (hi : es[i]? = some e) :
    IRel A w (.iptr e 0) (.pointer (some ⟨b, o + i * sz, none⟩)) := by
  have := IRel.iptr (A := A) (w := w) (e := e) (off := 0) (b := b) (o := o + i * sz) (f i) (h1 e (List.mem_of_getElem? hi)) (fun j c hc => h2 i j e c hi hc) (fun j c hc => h3 i j e c hi hc)
  simpa using this

theorem indexAddrV_sound {t : TypeId} {x i r : AV} {u v : Value} (hh : indexAddrV P t x i = some r) (ra : Rel P A σ h w x u) (rb : Rel P A σ h w i v) :
    ∃ z, (Instr.indexAt t u v).run P w = .ok z w ∧ Rel P A σ h w r z := by
  unfold indexAddrV at hh
  split at hh <;> first | (cases hh; done) | skip
  · rename_i elem es ext k m hty
    split at hh <;> first | (cases hh; done) | skip
    rename_i sz hsz
    split at hh <;> first | (cases hh; done) | skip
    rename_i hb
    split at hh <;> first | (cases hh; done) | skip
    rename_i e he
    split at hh <;> first | (cases hh; done) | skip
    rename_i hcl
    simp only [Option.some.injEq] at hh; subst hh
    rw [rel_int rb]
    rcases irel_isl (rel_isl ra) with ⟨rfl, _, _, rfl, _⟩ | ⟨sz', b, o, cap, f, rfl, g1, g2, g3, g4, g5, g6, g7⟩
    · simp at hb; omega
    · have hm := g4 e (List.mem_of_getElem? he)
      have hsz' : sz' = sz := by rw [← hm.1, hcl]
      subst hsz'
      refine ⟨_, ?_, .data (elem_iptr g5 g6 g7 he)⟩
      simp [Instr.indexAt, asIntOf, run_under hty, hb.1, hb.2, run_sizeOf hsz, addr_add]
  · rename_i elem id off sz len cap k m hty
    split at hh <;> first | (cases hh; done) | skip
    rename_i hb
    simp only [Option.some.injEq] at hh; subst hh
    rw [rel_int rb]
    obtain ⟨b, c, rfl, g1, g2, g3, g4, g5, g6, g7⟩ := rel_msl ra
    refine ⟨_, ?_, .ptr g1 g2⟩
    simp [Instr.indexAt, asIntOf, run_under hty, hb.2.1, hb.2.2, run_sizeOf hb.1, addr_add]
  · rename_i len elem id off k m hty
    split at hh <;> first | (cases hh; done) | skip
    rename_i sz hsz
    split at hh <;> first | (cases hh; done) | skip
    rename_i hb
    simp only [Option.some.injEq] at hh; subst hh
    rw [rel_int rb]
    obtain ⟨b, rfl, g1, g2⟩ := rel_ptr ra
    refine ⟨_, ?_, .ptr g1 g2⟩
    simp [Instr.indexAt, asIntOf, run_under hty, Instr.sureAddr, hb.1, hb.2, run_sizeOf hsz, addr_add]
  · rename_i len elem e off k m hty
    split at hh <;> first | (cases hh; done) | skip
    rename_i sz hsz
    split at hh <;> first | (cases hh; done) | skip
    rename_i hb
    simp only [Option.some.injEq] at hh; subst hh
    rw [rel_int rb]
    obtain ⟨b, o, f, rfl, g1, g2, g3⟩ := rel_iptr ra
    refine ⟨.pointer (some ⟨b, o + (off + m.toNat * sz), none⟩), ?_, .data (.iptr f g1 g2 g3)⟩
    simp [Instr.indexAt, asIntOf, run_under hty, Instr.sureAddr, hb.1, hb.2, run_sizeOf hsz, addr_add, Nat.add_assoc]

theorem fieldPlaceV_spec {s : TypeId} {f o n : Nat} (hh : fieldPlaceV P s f = some (o, n)) : ∃ fields fd, P.underlying s = some (.struct fields) ∧ fields[f]? = some fd ∧ sizeV P fd.type = some n ∧ fd.offset = o := by
  unfold fieldPlaceV at hh
  split at hh <;> first | (cases hh; done) | skip
  rename_i fields hu
  split at hh <;> first | (cases hh; done) | skip
  rename_i fd hf
  split at hh <;> first | (cases hh; done) | skip
  rename_i m hm
  simp only [Option.some.injEq, Prod.mk.injEq] at hh
  exact ⟨fields, fd, hu, hf, by rw [hm, hh.2], hh.1⟩

theorem fieldAddrV_sound {t : TypeId} {x r : AV} {f : Nat} {u : Value} (hh : fieldAddrV P t x f = some r) (ra : Rel P A σ h w x u) :
    ∃ z, (Instr.fieldAt t u f).run P w = .ok z w ∧ Rel P A σ h w r z := by
  unfold fieldAddrV at hh
  split at hh <;> first | (cases hh; done) | skip
  rename_i o n hp
  obtain ⟨fields, fd, h1, h2, h3, rfl⟩ := fieldPlaceV_spec hp
  split at hh <;> first | (cases hh; done) | skip
  rename_i hn
  split at hh <;> first | (cases hh; done) | skip
  · simp only [Option.some.injEq] at hh; subst hh
    obtain ⟨b, rfl, g1, g2⟩ := rel_ptr ra
    refine ⟨_, ?_, .ptr g1 g2⟩
    simp [Instr.fieldAt, run_under h1, h2, Instr.sureAddr, fieldPlace, run_sizeOf h3, hn, addr_add]
  · rename_i e off
    simp only [Option.some.injEq] at hh; subst hh
    obtain ⟨b, o, f, rfl, g1, g2, g3⟩ := rel_iptr ra
    refine ⟨.pointer (some ⟨b, o + (off + fd.offset), none⟩), ?_, .data (.iptr f g1 g2 g3)⟩
    simp [Instr.fieldAt, run_under h1, h2, Instr.sureAddr, fieldPlace, run_sizeOf h3, hn, addr_add, Nat.add_assoc]

theorem fieldV_sound {t : TypeId} {x r : AV} {f : Nat} {u : Value} (hh : fieldV P t x f = some r) (ra : Rel P A σ h w x u) :
    ∃ z, (Instr.field t u f).run P w = .ok z w ∧ Rel P A σ h w r z := by
  unfold fieldV at hh
  split at hh <;> first | (cases hh; done) | skip
  rename_i fields cs hu
  split at hh <;> first | (cases hh; done) | skip
  rename_i fd hf
  obtain ⟨vs, rfl, g1, g2, g3⟩ := rel_agg ra
  obtain ⟨v, e1, e2⟩ := cellsAt_part hh g2 g1 g3
  exact ⟨v, by simp [Instr.field, run_under hu, hf, asAgg, e1], e2⟩

theorem indexV_sound {t : TypeId} {x i r : AV} {u v : Value} (hh : indexV P t x i = some r) (ra : Rel P A σ h w x u) (rb : Rel P A σ h w i v) :
    ∃ z, (Instr.index t u v).run P w = .ok z w ∧ Rel P A σ h w r z := by
  unfold indexV at hh
  split at hh <;> first | (cases hh; done) | skip
  · rename_i cs k m
    split at hh <;> first | (cases hh; done) | skip
    rename_i len elem hu
    split at hh <;> first | (cases hh; done) | skip
    rename_i sz hsz
    split at hh <;> first | (cases hh; done) | skip
    rename_i hb
    rw [rel_int rb]
    obtain ⟨vs, rfl, g1, g2, g3⟩ := rel_agg ra
    obtain ⟨v, e1, e2⟩ := cellsAt_part hh g2 g1 g3
    exact ⟨v, by simp [Instr.index, asIntOf, run_under hu, hb.1, hb.2, run_sizeOf hsz, e1], e2⟩
  · rename_i b k m
    split at hh <;> first | (cases hh; done) | skip
    rename_i z hz
    rw [rel_int rb, rel_str ra]
    exact ⟨z, pureVal_run _ _ hz, ofConst_Rel hh⟩
end
end Go.V
