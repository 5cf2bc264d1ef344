/- What a callee leaves, taken into the caller's own memory. -/
import Derived.Test.YtdoegkegjaadeaaGreatDoorQV28
import Derived.RangeFuncLeaves
import Derived.RangeFuncRecord
import Derived.RangeFuncCalls
import Derived.OrdersIn
namespace Go.V
open Go

/-- A way of running functions, and rounds, that the model bears out. -/
structure Ok [DFlag] (P : Program) (run : FuncId → List AV → H → Option (AV × H)) : Prop where
  fn : ∀ f args h r h', hasBody P f = true → run f args h = some (r, h') → ∀ (B : Nat) (A0 : Nat → Nat → Prop) (σ : List (Option Nat)) (w : World) (vs : Array Value), HRel P B A0 σ h w → vs.size = args.length →
    (∀ (i : Nat) a v, args[i]? = some a → vs[i]? = some v → Rel P (Alw P B A0 σ h) σ h w a v) →
    Calls P f vs w (fun e w' => ∃ v, e = .returned v ∧ Leaves P B A0 σ h w r h' v w')
  yl : ∀ i args h r h', run (yb P + i) args h = some (r, h') → ∀ (B : Nat) (A0 : Nat → Nat → Prop) (σ : List (Option Nat)) (w : World) (vs : Array Value), HRel P B A0 σ h w → vs.size = args.length →
    (∀ (i : Nat) a v, args[i]? = some a → vs[i]? = some v → Rel P (Alw P B A0 σ h) σ h w a v) → ∀ l, σ[i]? = some (some l) →
    ∃ fn tmps assign body, (Instr.yield l vs).run P w = .ok (.round l fn tmps assign body) w ∧
      ∀ k, RoundIn Fence.wide k P l fn tmps assign body w (fun e w' => ∃ v, e = .returned v ∧ Leaves P B A0 σ h w r h' v w')

section
variable {P : Program} {B : Nat} {A0 : Nat → Nat → Prop} {σ : List (Option Nat)} {h : H} {w : World}

theorem scalOne_any {A A' : Nat → Nat → Prop} {w w' : World} {c : AV} {v : Value} (hs : scalOne c = true) (r : IRel A w c v) : IRel A' w' c v := by
  unfold scalOne at hs
  obtain ⟨u, hu⟩ := Option.isSome_iff_exists.1 hs
  unfold toVal at hu
  split at hu
  · rename_i cs
    split at hu <;> first | (cases hu; done) | skip
    rename_i l hl
    cases r with
    | agg h1 h2 h3 =>
      refine .agg h1 h2 (fun i a v ha hv => ?_)
      obtain ⟨k1, k2⟩ := toList_spec _ _ hl
      have hi : i < l.length := by rw [k1]; exact (List.getElem?_eq_some_iff.1 ha).1
      have := k2 i a _ ha (List.getElem?_eq_getElem hi)
      rw [toScalar_irel this (h3 i a v ha hv)]
      exact toScalar_of this
  · rw [toScalar_irel hu r]; exact toScalar_of hu
theorem scal_any {A A' : Nat → Nat → Prop} {w w' : World} {c : AV} {v : Value} (hs : scal c = true) (r : IRel A w c v) : IRel A' w' c v := by
  unfold scal at hs
  split at hs
  · cases r with
    | tuple h1 h2 => exact .tuple h1 (fun i a v ha hv => scalOne_any (List.all_eq_true.1 hs a (List.mem_of_getElem? ha)) (h2 i a v ha hv))
  · exact scalOne_any hs r

theorem of_below [DFlag] {w w' : World} (hb : RowKit.Below w.heap.size w w') (hd : DFlag.D → w.drawn ≤ w'.drawn) : Grows w w' := ⟨hb.os, hb.tape, hb.output, hb.size, hb.block, hd⟩

/-- What may be led to in the callee may be led to in the caller. -/
theorem alw_back (hr : HRel P B A0 σ h w) {σ1 : List (Option Nat)} {h1 : H} {b o : Nat} (ha : Alw P w.heap.size (Alw P B A0 σ h) σ1 h1 b o) : Alw P B A0 σ h b o := by
  unfold Alw at ha
  split at ha
  · exact ha
  · rename_i hB
    have := hr.base
    unfold Alw
    rw [if_neg (by omega)]
    refine ⟨fun i cs hi hs => ?_, fun i u ty hi hs => ?_⟩
    · have := hr.lt hi rfl hs; omega
    · have := hr.lt hi rfl hs; omega

theorem adopt_sound [DFlag] (hr : HRel P B A0 σ h w) {m : Mode} {A1 : Nat → Nat → Prop} {σ1 : List (Option Nat)} {h1 : H} {w1 : World} {r r' : AV} {h' : H} {v : Value} (hg : Grows w w1) (hr1 : HRel P w.heap.size A1 σ1 h1 w1)
    (rr : Rel P (Alw P w.heap.size A1 σ1 h1) σ1 h1 w1 r v) (hh : adopt P m h1 h r = some (r', h')) : Leaves P B A0 σ h w r' h' v w1 := by
  unfold adopt at hh
  split at hh
  · rename_i es t
    split at hh <;> first | (cases hh; done) | skip
    rename_i used ty ht
    split at hh <;> first | (cases hh; done) | skip
    rename_i hc
    obtain ⟨rfl, hsc, hsz⟩ := hc
    cases rr with
    | data rr => cases rr
    | tok hd hk =>
      obtain ⟨u2, ty2, k1, k2, k3⟩ := hk
      rw [ht] at k1; simp only [Option.some.injEq, VObj.tok.injEq] at k1; obtain ⟨rfl, rfl⟩ := k1
      have k3 := k3 rfl
      have hcell : ∀ (k : Nat) c, es[k]? = some c → ∃ u, toScalar c = some u := fun k c hc => Option.isSome_iff_exists.1 (List.all_eq_true.1 hsc c (List.mem_of_getElem? hc))
      have hc1 : ∀ c ∈ es, c.cells = [c] ∧ c.one = true ∧ notTuple c = true := fun c hc => by
        obtain ⟨k, hk, rfl⟩ := List.getElem_of_mem hc
        obtain ⟨u, hu⟩ := hcell k _ (List.getElem?_eq_getElem hk)
        have h1 := toScalar_one hu
        generalize es[k] = c at *
        cases c <;> simp_all [AV.cells, AV.one, notTuple]
      -- the cells, if there are any
      have hvals : ∀ b cap vs, v = .slice (some ⟨b, 0, none⟩) es.length cap → w1.heap[b]? = some (.cells vs ty (0, 0)) → ∀ (k : Nat) c, es[k]? = some c → ∃ u, toScalar c = some u ∧ vs[k]? = some u := by
        intro b cap vs hv hb k c hc
        obtain ⟨u, hu⟩ := hcell k c hc
        refine ⟨u, hu, ?_⟩
        rcases irel_isl hd with ⟨rfl, _⟩ | ⟨sz', b', o, cap', f, e1, g1, g2, g3, g4, g5, g6, g7⟩
        · simp at hc
        · rw [hv] at e1; simp only [Value.slice.injEq, Option.some.injEq, Addr.mk.injEq] at e1
          obtain ⟨⟨rfl, rfl, _⟩, _, rfl⟩ := e1
          have hm := List.mem_of_getElem? hc
          have hs1 : sz' = 1 := by have := (g4 c hm).1; rw [(hc1 c hm).1] at this; simpa using this.symm
          subst hs1
          have h0 : c.cells[0]? = some c := by rw [(hc1 c hm).1]; rfl
          have e2 := (g6 k 0 c c hc h0).2
          have e3 := toScalar_irel hu (g7 k 0 c c hc h0)
          rw [cell_of_row w1 b _ vs ty _ hb] at e2
          simp only [Nat.zero_add, Nat.mul_one, Nat.add_zero] at e2
          rw [e2, e3]
      split at hh <;> first | (cases hh; done) | skip
      · -- it may be appended to
        simp only [Option.some.injEq, Prod.mk.injEq] at hh; obtain ⟨rfl, rfl⟩ := hh
        rcases k3 with ⟨q1, q2, q3⟩ | ⟨b, cap, vs, sz, q1, q2, q3z, q4, q5, q6, q7⟩
        · have : es = [] := List.eq_nil_of_length_eq_zero q3
          subst this
          have hy : ∀ b, (none : Option Nat) = some b → w.heap.size ≤ b := fun b hb => by cases hb
          exact ⟨σ ++ [none], HRel.push hr hg _ _ hy (fun cs st e => by cases e) (fun u ty' e => by simp only [VObj.tok.injEq] at e; exact .inl ⟨rfl, by simpa using e.1.symm⟩),
            Step.push hr hg _ _ hy, by rw [q1]; exact .tok .islNil ⟨0, ty, by simp, Nat.le_refl _, fun _ => .inl ⟨rfl, by rw [← hr.len, getElem?_push_eq], rfl⟩⟩⟩
        · have q3 := hr1.tok00 ht q1 q3z
          rw [hsz] at q4; simp only [Option.some.injEq] at q4; subst q4
          have hb1 := (hr1.lt ht rfl q1).2
          have hy : ∀ b', some b = some b' → w.heap.size ≤ b' := fun b' hb => by simp only [Option.some.injEq] at hb; omega
          have hR := HRel.push hr hg (.tok es.length ty) (some b) hy (fun cs st e => by cases e) (fun u ty' e => by
            simp only [VObj.tok.injEq] at e; obtain ⟨rfl, rfl⟩ := e
            exact .inr ⟨b, vs, 1, cap, rfl, q3, hsz, q5, q6, q7⟩)
          refine ⟨_, hR, Step.push hr hg _ _ hy, ?_⟩
          have hfl : Flat (Alw P B A0 (σ ++ [some b]) (h ++ [.tok es.length ty])) w1 1 es (vs.toList.take es.length) := ⟨by simp; omega, fun e he => ⟨by rw [(hc1 e he).1]; rfl, (hc1 e he).2.2⟩, fun e he c hc => by
              rw [(hc1 e he).1] at hc; simp at hc; subst hc; exact (hc1 c he).2.1, fun i j e c he hc => by
              have hi := (List.getElem?_eq_some_iff.1 he).1
              rw [(hc1 e (List.mem_of_getElem? he)).1] at hc
              cases j with
              | succ j => simp at hc
              | zero =>
                simp at hc; subst hc
                obtain ⟨u, hu, hv⟩ := hvals b cap vs q2 q3 i e he
                refine ⟨u, ?_, toScalar_of hu⟩
                simp only [Nat.mul_one, Nat.add_zero]
                rw [List.getElem?_take, if_pos hi, Array.getElem?_toList, hv]⟩
          rw [q2]
          exact grown_row hfl (by omega) hsz q3 (fun k x hx => by
            rw [List.getElem?_take] at hx
            split at hx <;> first | (cases hx; done) | skip
            rwa [Array.getElem?_toList] at hx) q5 q6 q7 (fun o ho => by
              have := hr.base
              unfold Alw
              rw [if_neg (by omega)]
              refine ⟨fun i cs hi hs => ?_, fun i u2 t2 hi hs => ?_⟩
              · rcases getElem?_push_cases hi with ⟨c, hi⟩ | ⟨_, e⟩
                · rw [getElem?_push_lt σ _ (by rw [hr.len]; exact c)] at hs
                  have := hr.lt hi rfl hs; omega
                · cases e
              · rcases getElem?_push_cases hi with ⟨c, hi⟩ | ⟨_, e⟩
                · rw [getElem?_push_lt σ _ (by rw [hr.len]; exact c)] at hs
                  have := hr.lt hi rfl hs; omega
                · simp only [VObj.tok.injEq] at e; obtain ⟨rfl, rfl⟩ := e
                  exact ⟨1, hsz, ho⟩) (getElem?_push_eq h _) (by rw [← hr.len, getElem?_push_eq])
      · split at hh
        · simp only [Option.some.injEq, Prod.mk.injEq] at hh; obtain ⟨rfl, rfl⟩ := hh
          refine ⟨σ, hr.grows hg, .grows hr hg, .data ?_⟩
          exact irel_empty hd
        · rename_i hne
          simp only [Option.some.injEq, Prod.mk.injEq] at hh; obtain ⟨rfl, rfl⟩ := hh
          rcases k3 with ⟨q1, q2, q3⟩ | ⟨b, cap, vs, sz, q1, q2, q3z, q4, q5, q6, q7⟩
          · exact absurd (List.eq_nil_of_length_eq_zero q3) hne
          · have q3 := hr1.tok00 ht q1 q3z
            rw [hsz] at q4; simp only [Option.some.injEq] at q4; subst q4
            have hb1 := (hr1.lt ht rfl q1).2
            have hy : ∀ b', some b = some b' → w.heap.size ≤ b' := fun b' hb => by simp only [Option.some.injEq] at hb; omega
            have hR := HRel.push hr hg (.cells es .live) (some b) hy (fun cs st e => by
              simp only [VObj.cells.injEq] at e; obtain ⟨rfl, rfl⟩ := e
              refine ⟨b, vs, ty, rfl, q3, by omega, fun c hc => (hc1 c hc).2.1, fun k c x hc hx => ?_⟩
              obtain ⟨u, hu, hv⟩ := hvals b cap vs q2 q3 k c hc
              rw [hv] at hx; simp only [Option.some.injEq] at hx; subst hx
              exact .data (toScalar_of hu)) (fun u ty' e => by cases e)
            refine ⟨_, hR, Step.push hr hg _ _ hy, ?_⟩
            rw [q2]
            exact .msl (by rw [← hr.len, getElem?_push_eq]) ⟨_, _, getElem?_push_eq h _⟩ (by omega) q6 q7 (fun n hn => by cases hn) ⟨_, _, _, q3, by omega⟩
  · simp only [Option.some.injEq, Prod.mk.injEq] at hh; obtain ⟨rfl, rfl⟩ := hh
    refine ⟨σ, hr.grows hg, .grows hr hg, ?_⟩
    obtain ⟨base, n, rfl, hd⟩ := rel_full rr
    exact .full (irel_empty hd)
  · rename_i id off sz len cap
    split at hh <;> first | (cases hh; done) | skip
    rename_i cs hid
    split at hh <;> first | (cases hh; done) | skip
    rename_i hc
    obtain ⟨hc1, rfl, hc2⟩ := hc
    obtain ⟨b, c, rfl, g1, g2, g3, g4, g5, g6, g7⟩ := rel_msl rr
    obtain ⟨b', vs, ty, k1, k2, k3, k4, k5, k6⟩ := hr1.cells id cs _ hid (by simp)
    rw [g1] at k1; simp only [Option.some.injEq] at k1; subst k1
    have hsc : ∀ (k : Nat) x v, cs[k]? = some x → vs[k]? = some v → IRel A1 w1 x v ∧ x.cells = [x] ∧ x.one = true ∧ notTuple x = true := fun k x v hx hv => by
      have hmem : x ∈ cs := List.mem_of_getElem? hx
      have : (toScalar x).isSome = true := by
        simp only [scalars, List.all_eq_true] at hc1
        exact hc1 x hmem
      obtain ⟨u, hu⟩ := Option.isSome_iff_exists.1 this
      have hv' := toScalar_rel hu (k6 k x v hx hv)
      subst hv'
      refine ⟨toScalar_of hu, ?_, toScalar_one hu, ?_⟩ <;> cases x <;> first | rfl | (cases hu; done) | simp [toScalar] at hu
    split at hh <;> first | (cases hh; done) | skip
    · simp only [Option.some.injEq, Prod.mk.injEq] at hh; obtain ⟨rfl, rfl⟩ := hh
      have hy : ∀ b', some b = some b' → w.heap.size ≤ b' := fun b' hb => by simp only [Option.some.injEq] at hb; omega
      have hR := HRel.push hr hg (.cells cs .live) (some b) hy (fun cs' st e => by
        simp only [VObj.cells.injEq] at e; obtain ⟨rfl, rfl⟩ := e
        refine ⟨b, vs, ty, rfl, k3, k4, k5, fun k x v hx hv => ?_⟩
        have hmem : x ∈ cs := List.mem_of_getElem? hx
        have : (toScalar x).isSome = true := by
          simp only [scalars, List.all_eq_true] at hc1
          exact hc1 x hmem
        obtain ⟨u, hu⟩ := Option.isSome_iff_exists.1 this
        have hv' := toScalar_rel hu (k6 k x v hx hv)
        subst hv'
        exact .data (toScalar_of hu)) (fun u ty' e => by cases e)
      refine ⟨_, hR, Step.push hr hg _ _ hy, ?_⟩
      exact .msl (by rw [← hr.len, getElem?_push_eq]) ⟨_, _, getElem?_push_eq h _⟩ (by omega) g4 g5 (fun n hn => by cases hn) g7
    · simp only [Option.some.injEq, Prod.mk.injEq] at hh; obtain ⟨rfl, rfl⟩ := hh
      refine ⟨σ, hr.grows hg, .grows hr hg, .data ?_⟩
      have hlen : ((cs.drop off).take len).length = len := by simp; omega
      have hget : ∀ (i : Nat) e, ((cs.drop off).take len)[i]? = some e → cs[off + i]? = some e := fun i e he => by
        rw [List.getElem?_take] at he
        split at he
        · rwa [List.getElem?_drop] at he
        · cases he
      have hval : ∀ (i : Nat) e, ((cs.drop off).take len)[i]? = some e → ∃ v, vs[off + i]? = some v := fun i e he => by
        have := (List.getElem?_eq_some_iff.1 (hget i e he)).1
        exact ⟨_, Array.getElem?_eq_getElem (by omega)⟩
      have := IRel.isl (A := Alw P B A0 σ h) (w := w1) (es := (cs.drop off).take len) (sz := 1) (b := b) (o := off) (cap := c) (fun i j => vs.getD (off + i) undef) (by omega) (by rw [hlen]; exact g4) g5
        (fun e he => by
          obtain ⟨i, hi⟩ := List.getElem?_of_mem he
          obtain ⟨v, hv⟩ := hval i e hi
          obtain ⟨_, q2, _, q4⟩ := hsc _ _ _ (hget i e hi) hv
          exact ⟨by rw [q2]; rfl, q4⟩)
        (fun e he x hx => by
          obtain ⟨i, hi⟩ := List.getElem?_of_mem he
          obtain ⟨v, hv⟩ := hval i e hi
          obtain ⟨_, q2, q3, _⟩ := hsc _ _ _ (hget i e hi) hv
          rw [q2] at hx; simp at hx; subst hx; exact q3)
        (fun i j e x he hx => by
          obtain ⟨v, hv⟩ := hval i e he
          obtain ⟨_, q2, _, _⟩ := hsc _ _ _ (hget i e he) hv
          rw [q2] at hx
          have hj : j = 0 := by have := (List.getElem?_eq_some_iff.1 hx).1; simp at this; exact this
          subst hj
          refine ⟨?_, ?_⟩
          · have := hr.base
            unfold Alw
            rw [if_neg (by omega)]
            refine ⟨fun i2 cs2 hi2 hs2 => ?_, fun i2 u2 t2 hi2 hs2 => ?_⟩
            · have := hr.lt hi2 rfl hs2; omega
            · have := hr.lt hi2 rfl hs2; omega
          · rw [cell_of_row w1 b _ vs ty _ k3, show off + i * 1 + 0 = off + i by omega, hv]
            simp [Array.getD_eq_getD_getElem?, hv])
        (fun i j e x he hx => by
          obtain ⟨v, hv⟩ := hval i e he
          obtain ⟨_, q2, _, _⟩ := hsc _ _ _ (hget i e he) hv
          rw [q2] at hx
          have hj : j = 0 := by have := (List.getElem?_eq_some_iff.1 hx).1; simp at this; exact this
          subst hj
          simp at hx; subst hx
          have hmem : e ∈ cs := List.mem_of_getElem? (hget i e he)
          have : (toScalar e).isSome = true := by
            simp only [scalars, List.all_eq_true] at hc1
            exact hc1 e hmem
          obtain ⟨u, hu⟩ := Option.isSome_iff_exists.1 this
          have hv' := toScalar_rel hu (k6 _ e v (hget i e he) hv)
          subst hv'
          simp only [Array.getD_eq_getD_getElem?, hv, Option.getD_some]
          exact toScalar_of hu)
      rw [hlen] at this
      exact this
  · cases hh

theorem rel_dat1 {A : Nat → Nat → Prop} {c c' : AV} {v : Value} (hd : dat1 c = some c') (r : Rel P A σ h w c v) : IRel A w c' v ∧ c'.one = true := by
  cases c <;> simp only [dat1, Option.some.injEq] at hd <;> first | (cases hd; done) | skip
  case isl es x =>
    subst hd
    refine ⟨?_, rfl⟩
    cases r with
    | data hd => cases hd <;> constructor <;> assumption
    | full hd => exact hd
    | tok hd _ => exact hd
  all_goals
    subst hd
    cases r with
    | data hd => exact ⟨hd, rfl⟩
theorem dats1_spec : ∀ (l l' : List AV), dats1 l = some l' → l'.length = l.length ∧ ∀ (k : Nat) c, l[k]? = some c → ∃ c', l'[k]? = some c' ∧ dat1 c = some c' := by
  intro l
  induction l with
  | nil => intro l' h; simp only [dats1, Option.some.injEq] at h; subst h; simp
  | cons a l ih =>
    intro l' h
    simp only [dats1] at h
    split at h <;> first | (cases h; done) | skip
    rename_i b r h1 h2
    simp only [Option.some.injEq] at h; subst h
    obtain ⟨g1, g2⟩ := ih _ h2
    refine ⟨by simp [g1], fun k c hk => ?_⟩
    cases k with
    | zero => simp only [List.getElem?_cons_zero, Option.some.injEq] at hk; subst hk; exact ⟨_, rfl, h1⟩
    | succ k => simp only [List.getElem?_cons_succ] at hk ⊢; exact g2 k c hk
theorem freezeBut_stiller (h : H) (i : Nat) : Stiller h (freezeBut h i) := by
  unfold freezeBut
  cases hi : h[i]? with
  | none => exact ⟨rfl, fun j => .inl rfl⟩
  | some x =>
    have hs := freezeAll_stiller h
    refine ⟨by simpa using hs.len, fun j => ?_⟩
    by_cases e : i = j
    · subst e
      have hl : i < (freezeAll h).length := by rw [hs.len]; exact (List.getElem?_eq_some_iff.1 hi).1
      exact .inl (by rw [List.getElem?_set_self hl, hi])
    · rw [List.getElem?_set_ne e]; exact hs.at_ j
theorem freezeBut_self {h : H} {i : Nat} {x : VObj} (hi : h[i]? = some x) : (freezeBut h i)[i]? = some x := by
  have hs := freezeAll_stiller h
  have hl : i < (freezeAll h).length := by rw [hs.len]; exact (List.getElem?_eq_some_iff.1 hi).1
  unfold freezeBut
  rw [hi]
  exact List.getElem?_set_self hl
theorem scalOne_rel {A A' : Nat → Nat → Prop} {σ : List (Option Nat)} {h : H} {w w' : World} {c : AV} {v : Value} (hs : scalOne c = true) (r : Rel P A σ h w c v) : IRel A' w' c v := by
  have hs' := hs
  unfold scalOne at hs'
  obtain ⟨u', hu'⟩ := Option.isSome_iff_exists.1 hs'
  cases r with
  | data r => exact scalOne_any hs r
  | agg h1 hl h3 =>
    unfold toVal at hu'
    dsimp at hu'
    split at hu' <;> first | (cases hu'; done) | skip
    rename_i l hl'
    refine .agg h1 hl (fun i a v ha hv => ?_)
    obtain ⟨k1, k2⟩ := toList_spec _ _ hl'
    have hi : i < l.length := by rw [k1]; exact (List.getElem?_eq_some_iff.1 ha).1
    have := k2 i a _ ha (List.getElem?_eq_getElem hi)
    rw [toScalar_rel this (h3 i a v ha hv)]
    exact toScalar_of this
  | _ => simp [toVal, toScalar] at hu'
/-- A row that the callee wrote is the caller's; what its values hold is past writing. -/
theorem adoptM_sound [DFlag] (hr : HRel P B A0 σ h w) {σ1 : List (Option Nat)} {h1 : H} {w1 : World} {r r' : AV} {h' : H} {v : Value} (hg : Grows w w1) (hr1 : HRel P w.heap.size (Alw P B A0 σ h) σ1 h1 w1)
    (rr : Rel P (Alw P w.heap.size (Alw P B A0 σ h) σ1 h1) σ1 h1 w1 r v) (hh : adoptM h1 h r = some (r', h')) : Leaves P B A0 σ h w r' h' v w1 := by
  unfold adoptM at hh
  split at hh <;> first | (cases hh; done) | skip
  rename_i id off sz len cap
  split at hh <;> first | (cases hh; done) | skip
  rename_i cs hid
  split at hh <;> first | (cases hh; done) | skip
  rename_i cs' hcs
  split at hh <;> first | (cases hh; done) | skip
  rename_i hc
  obtain ⟨hc1, hc2⟩ := hc
  simp only [Option.some.injEq, Prod.mk.injEq] at hh; obtain ⟨rfl, rfl⟩ := hh
  obtain ⟨b, c, rfl, g1, g2, g3, g4, g5, g6, g7⟩ := rel_msl rr
  obtain ⟨b', vs, ty, k1, k2, k3, k4, k5, k6⟩ := hr1.cells id cs _ hid (by simp)
  rw [g1] at k1; simp only [Option.some.injEq] at k1; subst k1
  have hst := freezeBut_stiller h1 id
  have hid2 := freezeBut_self hid
  have hrb := hr1.stiller hst
  obtain ⟨q1, q2, q3⟩ := snaps_sound hrb _ _ _ hcs
  have hy : ∀ b', some b = some b' → w.heap.size ≤ b' := fun b' hb => by simp only [Option.some.injEq] at hb; omega
  have hcell : ∀ (k : Nat) c' u, cs'[k]? = some c' → vs[k]? = some u → IRel (Alw P w.heap.size (Alw P B A0 σ h) σ1 (freezeBut h1 id)) w1 c' u := fun k c' u hk hu => by
    have hlt : k < cs.length := by rw [← q1]; exact (List.getElem?_eq_some_iff.1 hk).1
    exact q2 k cs[k] c' u (List.getElem?_eq_getElem hlt) hk ((k6 k _ u (List.getElem?_eq_getElem hlt) hu).step (.stiller hr1 hst))
  have hR := HRel.pushF hr hg (.cells cs' .live) (some b) hy rfl ⟨b, vs, ty, rfl, k3, by omega, fun c hc => q3 c hc k5, fun k c u hk hu => .data ((hcell k c u hk hu).mono fun bb o x ha hx => ⟨?_, hx⟩)⟩
  · refine ⟨_, hR, Step.push hr hg _ _ hy, ?_⟩
    exact .msl (by rw [← hr.len, getElem?_push_eq]) ⟨_, _, getElem?_push_eq h _⟩ g3 g4 g5 (fun n hn => by cases hn) g7
  · have hne : bb ≠ b := by
      intro e; subst e
      unfold Alw at ha
      rw [if_neg (by omega)] at ha
      exact ha.1 id cs hid2 g1
    have hal := alw_back hr ha
    unfold Alw at hal ⊢
    split
    · rename_i hB; rw [if_pos hB] at hal; exact hal
    · rename_i hB
      rw [if_neg hB] at hal
      refine ⟨fun i cs2 hi hs => ?_, fun i u2 ty2 hi hs => ?_⟩
      · rcases getElem?_push_cases hi with ⟨c, hi⟩ | ⟨rfl, _⟩
        · rw [getElem?_push_lt σ _ (by rw [hr.len]; exact c)] at hs; exact hal.1 i cs2 hi hs
        · rw [← hr.len, getElem?_push_eq] at hs; simp only [Option.some.injEq] at hs; exact hne hs.symm
      · rcases getElem?_push_cases hi with ⟨c, hi⟩ | ⟨_, e⟩
        · rw [getElem?_push_lt σ _ (by rw [hr.len]; exact c)] at hs; exact hal.2 i u2 ty2 hi hs
        · cases e
theorem adoptD_sound [DFlag] (hr : HRel P B A0 σ h w) {m : Mode} {σ1 : List (Option Nat)} {h1 : H} {w1 : World} {r r' : AV} {h' : H} {v : Value} (hg : Grows w w1) (hr1 : HRel P w.heap.size (Alw P B A0 σ h) σ1 h1 w1)
    (rr : Rel P (Alw P w.heap.size (Alw P B A0 σ h) σ1 h1) σ1 h1 w1 r v) (hh : adoptD m h1 h r = some (r', h')) : Leaves P B A0 σ h w r' h' v w1 := by
  unfold adoptD at hh
  split at hh <;> first | (cases hh; done) | skip
  · rename_i x y
    split at hh <;> first | (cases hh; done) | skip
    rename_i hy
    split at hh <;> first | (cases hh; done) | skip
    rename_i x' h2 hx
    simp only [Option.some.injEq, Prod.mk.injEq] at hh; obtain ⟨rfl, rfl⟩ := hh
    obtain ⟨vs, rfl, q1, q3⟩ := rel_tuple rr
    have hv0 : vs[0]? = some (vs[0]'(by simp at q1; omega)) := Array.getElem?_eq_getElem _
    have hv1 : vs[1]? = some (vs[1]'(by simp at q1; omega)) := Array.getElem?_eq_getElem _
    obtain ⟨σ', k1, k2, k3⟩ := adoptM_sound hr hg hr1 (q3 0 x _ rfl hv0) hx
    refine ⟨σ', k1, k2, .tuple (by simpa using q1) fun i a u ha hu => ?_⟩
    cases i with
    | zero => simp only [List.getElem?_cons_zero, Option.some.injEq] at ha; subst ha; rw [hv0] at hu; simp only [Option.some.injEq] at hu; subst hu; exact k3
    | succ i =>
      cases i with
      | zero =>
        simp only [List.getElem?_cons_succ, List.getElem?_cons_zero, Option.some.injEq] at ha; subst ha
        exact .data (scalOne_rel hy (q3 1 y u rfl hu))
      | succ i => simp at ha
  · exact adoptM_sound hr hg hr1 rr hh

theorem finishV_sound [DFlag] (hr : HRel P B A0 σ h w) {h2 : H} (hst : Stiller h h2) {m : Mode} {σ1 : List (Option Nat)} {h1 : H} {w1 : World} {r r' : AV} {h' : H} {v : Value} (hg : Grows w w1)
    (hr1 : HRel P w.heap.size (Alw P B A0 σ h2) σ1 h1 w1) (rr : Rel P (Alw P w.heap.size (Alw P B A0 σ h2) σ1 h1) σ1 h1 w1 r v) (hh : finishV P m r h1 h h2 = some (r', h')) : Leaves P B A0 σ h w r' h' v w1 := by
  have hr2 := hr.stiller hst
  have strip : ∀ r' h', stripV r h1 h h2 = some (r', h') → Leaves P B A0 σ h w r' h' v w1 := by
    intro r' h' hh
    unfold stripV at hh
    split at hh <;> first | (cases hh; done) | skip
    rename_i r2 hsn
    simp only [Option.some.injEq, Prod.mk.injEq] at hh; obtain ⟨rfl, rfl⟩ := hh
    have hs1 := freezeAll_stiller h1
    have hI := snap_sound (hr1.stiller hs1) _ _ _ _ hsn (rr.step (.stiller hr1 hs1))
    by_cases hsc : scal r2 = true
    · rw [if_pos hsc]
      exact ⟨σ, hr.grows hg, .grows hr hg, .data (scal_any hsc hI)⟩
    · rw [if_neg hsc]
      exact ⟨σ, hr2.grows hg, (Step.stiller hr hst).trans (.grows hr2 hg), .data (hI.mono fun b o x ha hc => ⟨alw_back hr2 ha, hc⟩)⟩
  have one : ∀ (m : Mode) x x' hx v, Rel P (Alw P w.heap.size (Alw P B A0 σ h2) σ1 h1) σ1 h1 w1 x v → adopt P m h1 h x = some (x', hx) → Leaves P B A0 σ h w x' hx v w1 :=
    fun m x x' hx v rx ha => adopt_sound hr hg hr1 rx ha
  have both : ∀ (m : Mode) z, adoptR P m h1 h r = some z → Leaves P B A0 σ h w z.1 z.2 v w1 := by
    intro m z hz
    unfold adoptR at hz
    split at hz
    · rename_i x rest
      split at hz <;> first | (cases hz; done) | skip
      rename_i x' hx ha
      split at hz <;> first | (cases hz; done) | skip
      rename_i hrest
      simp only [Option.some.injEq] at hz; subst hz
      obtain ⟨vs, rfl, e1, e2⟩ := rel_tuple rr
      have hv0 : vs[0]? = some (vs[0]'(by rw [e1]; simp)) := Array.getElem?_eq_getElem _
      obtain ⟨σ', k1, k2, k3⟩ := one m x x' hx _ (e2 0 x _ (by simp) hv0) ha
      refine ⟨σ', k1, k2, .tuple (by simpa using e1) (fun i a u hia hiu => ?_)⟩
      cases i with
      | zero => simp only [List.getElem?_cons_zero, Option.some.injEq] at hia; subst hia; rw [hv0] at hiu; simp only [Option.some.injEq] at hiu; subst hiu; exact k3
      | succ i =>
        simp only [List.getElem?_cons_succ] at hia
        have hs := List.all_eq_true.1 hrest a (List.mem_of_getElem? hia)
        have := e2 (i + 1) a u (by simpa using hia) hiu
        obtain ⟨u', hu'⟩ := Option.isSome_iff_exists.1 hs
        have : IRel (Alw P B A0 σ' hx) w1 a u := by
          cases this with
          | data r => exact scalOne_any hs r
          | agg h1 hl h3 =>
            unfold toVal at hu'
            dsimp at hu'
            split at hu' <;> first | (cases hu'; done) | skip
            rename_i l hl'
            refine .agg h1 hl (fun i a v ha hv => ?_)
            obtain ⟨k1, k2⟩ := toList_spec _ _ hl'
            have hi : i < l.length := by rw [k1]; exact (List.getElem?_eq_some_iff.1 ha).1
            have := k2 i a _ ha (List.getElem?_eq_getElem hi)
            rw [toScalar_rel this (h3 i a v ha hv)]
            exact toScalar_of this
          | _ => simp [toVal, toScalar] at hu'
        exact .data this
    · exact one m _ _ _ v rr hz
  have rows : ∀ m z, adoptD m h1 h2 r = some z → Leaves P B A0 σ h w z.1 z.2 v w1 := fun m z hz => by
    obtain ⟨σ', k1, k2, k3⟩ := adoptD_sound hr2 hg hr1 rr hz
    exact ⟨σ', k1, (Step.stiller hr hst).trans k2, k3⟩
  unfold finishV at hh
  split at hh
  · split at hh
    · rename_i z hz; simp only [Option.some.injEq] at hh; subst hh; exact both _ _ hz
    · split at hh
      · rename_i z hz; simp only [Option.some.injEq] at hh; subst hh; exact rows _ _ hz
      · exact strip _ _ hh
  · split at hh
    · rename_i z hz; simp only [Option.some.injEq] at hh; subst hh; exact both _ _ hz
    · split at hh
      · rename_i z hz; simp only [Option.some.injEq] at hh; subst hh; exact rows _ _ hz
      · exact strip _ _ hh
  · exact strip _ _ hh

theorem HRel.start {A : Nat → Nat → Prop} (hg : GlobR A w) : HRel P w.heap.size A [] [] w :=
  ⟨Nat.le_refl _, rfl, fun i cs st hi => by simp at hi, fun i u ty hi => by simp at hi, fun i L st hi => by simp at hi, fun i es hi => by simp at hi, fun i j b x y hi => by simp at hi,
    fun g a h => (hg g a h).mono fun b o x ab hc => ⟨⟨World.block_lt_of_cell? w _ hc, ab⟩, hc⟩⟩
theorem irel_start {A : Nat → Nat → Prop} {a : AV} {v : Value} (r : IRel A w a v) : IRel (Alw P w.heap.size A [] []) w a v :=
  r.mono fun b o x hab hc => ⟨by
    have hb := World.block_lt_of_cell? w _ hc
    unfold Alw
    rw [if_pos hb]; exact hab, hc⟩

theorem appendW_sound [DFlag] (hr : HRel P B A0 σ h w) {wr : Bool} {t ty : TypeId} {s x r : AV} {h' : H} {u ux : Value} (hh : appendW P wr h t s x = some (r, h')) (rs : Rel P (Alw P B A0 σ h) σ h w s u) (rx : Rel P (Alw P B A0 σ h) σ h w x ux) :
    ∃ v w', (Builtin.append_ #[t, t] ty #[u, ux]).run P w = .ok v w' ∧ Leaves P B A0 σ h w r h' v w' := by
  unfold appendW at hh
  split at hh
  · exact appendV_sound hr hh rs rx
  · split at hh
    · split at hh
      · rename_i z hz
        simp only [Option.some.injEq] at hh; subst hh
        exact appendV_sound hr hz rs rx
      · exact appendN_sound hr (.inl rfl) hh rs rx
    · split at hh
      · rename_i z hz
        simp only [Option.some.injEq] at hh; subst hh
        exact appendN_sound hr (.inl rfl) hz rs rx
      · exact appendV_sound hr hh rs rx

theorem applyCall_sound [DFlag] {C : Cfg} (hC : C.P = P) {run : FuncId → List AV → H → Option (AV × H)} (hrun : Ok P run) (hr : HRel P B A0 σ h w) {f : FuncId} (hbo : hasBody P f = true) {args : List AV} {r : AV} {h' : H} {vs : Array Value}
    (hh : applyCall C run f args h = some (r, h')) (hl : vs.size = args.length) (ha : ∀ (i : Nat) a v, args[i]? = some a → vs[i]? = some v → Rel P (Alw P B A0 σ h) σ h w a v) :
    Calls P f vs w (fun e w' => ∃ v, e = .returned v ∧ Leaves P B A0 σ h w r h' v w') := by
  subst hC
  unfold applyCall at hh
  split at hh
  · exact hrun.fn f args h r h' hbo hh B A0 σ w vs hr hl ha
  · split at hh <;> first | (cases hh; done) | skip
    rename_i r2 h2 hf
    split at hh <;> first | (cases hh; done) | skip
    simp only [Option.some.injEq, Prod.mk.injEq] at hh
    obtain ⟨rfl, rfl⟩ := hh
    exact hrun.fn f args h r2 h2 hbo hf B A0 σ w vs hr hl ha
  · split at hh <;> first | (cases hh; done) | skip
    rename_i r2 h2 hf
    split at hh <;> first | (cases hh; done) | skip
    split at hh <;> first | (cases hh; done) | skip
    rename_i r3 hsn
    simp only [Option.some.injEq, Prod.mk.injEq] at hh
    obtain ⟨rfl, rfl⟩ := hh
    refine (hrun.fn f args h r2 h2 hbo hf B A0 σ w vs hr hl ha).mono (fun e w1 ⟨v, he, σ1, k1, k2, k3⟩ => ⟨v, he, ?_⟩)
    have hst := freeze_stiller h2 (news h h2)
    have hr2 := k1.stiller hst
    exact ⟨σ1, hr2, k2.trans (.stiller k1 hst), .data (snap_sound hr2 _ _ _ _ hsn (k3.step (.stiller k1 hst)))⟩
  · split at hh <;> first | (cases hh; done) | skip
    rename_i as hsn
    split at hh <;> first | (cases hh; done) | skip
    rename_i r1 h1 hf
    have hst := freeze_stiller h (reachs h deep args)
    have hr2 := hr.stiller hst
    obtain ⟨m1, m2, _⟩ := snaps_sound hr2 _ _ _ hsn
    have hr0 : HRel C.P w.heap.size (Alw C.P B A0 σ (freeze h (reachs h deep args))) [] [] w := .start hr2.gr
    refine (hrun.fn f as [] r1 h1 hbo hf _ _ [] w vs hr0 (by rw [hl, m1]) (fun i a v hia hiv => ?_)).mono (fun e w1 ⟨v, he, σ1, k1, k2, k3⟩ => ⟨v, he, ?_⟩)
    · have hi : i < args.length := by rw [← m1]; exact (List.getElem?_eq_some_iff.1 hia).1
      have hia' := List.getElem?_eq_getElem hi
      have := m2 i _ a v hia' hia ((ha i _ v hia' hiv).step (.stiller hr hst))
      refine .data (this.mono fun b o x hab hc => ⟨?_, hc⟩)
      have hb := World.block_lt_of_cell? w _ hc
      unfold Alw
      rw [if_pos hb]; exact hab
    · exact finishV_sound hr hst (of_below k2.below k2.drawn) k1 k3 hh
end
end Go.V
