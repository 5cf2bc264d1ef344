/- The operations that make memory or turn it, but for calls. -/
import Derived.Test.YtdoegkegjaadeaaGreatDoorQV9
namespace Go.V
open Go

section
variable {P : Program} {B : Nat} {A0 : Nat → Nat → Prop} {σ : List (Option Nat)} {h : H} {w : World}

/-- What an operation that hands back a value leaves. -/
def Leaves [DFlag] (P : Program) (B : Nat) (A0 : Nat → Nat → Prop) (σ : List (Option Nat)) (h : H) (w : World) (r : AV) (h' : H) (v : Value) (w' : World) : Prop :=
  ∃ σ', HRel P B A0 σ' h' w' ∧ Step P B A0 σ h w σ' h' w' ∧ Rel P (Alw P B A0 σ' h') σ' h' w' r v

theorem toScalar_one {c : AV} {u : Value} (hh : toScalar c = some u) : c.one = true := by cases c <;> first | rfl | (simp [toScalar] at hh; done)
theorem toScalar_of {A : Nat → Nat → Prop} {c : AV} {u : Value} (hh : toScalar c = some u) : IRel A w c u := by
  cases c <;> simp only [toScalar, Option.some.injEq] at hh <;> first | (cases hh; done) | (subst hh; constructor)

theorem elems_sound (hr : HRel P B A0 σ h w) {x : AV} {ys : List AV} {ux : Value} {sz : Nat} (hh : elemsV h x = some ys) (rx : Rel P (Alw P B A0 σ h) σ h w x ux) (hz : szOk sz ys = true) (h0 : 0 < sz) :
    ∃ fl, Flat (Alw P B A0 σ h) w sz ys fl ∧ ((ys = [] ∧ ux = .slice none 0 0) ∨ ∃ ad c, ux = .slice (some ad) ys.length c ∧ ∀ (j : Nat) v, fl[j]? = some v → w.cell? (ad.add j) = some v) := by
  unfold elemsV at hh
  split at hh <;> first | (cases hh; done) | skip
  · simp only [Option.some.injEq] at hh; subst hh
    obtain ⟨fl, h1, h2⟩ := flat_of (rel_isl rx) hz h0
    refine ⟨fl, h1, ?_⟩
    rcases h2 with h2 | ⟨a, cap, e1, _, _, e2⟩
    · exact .inl h2
    · exact .inr ⟨a, cap, e1, e2⟩
  · rename_i id off sz' len cap
    obtain ⟨b, c, rfl, g1, g2, g3, g4, g5, g6, g7⟩ := rel_msl rx
    have key : ∀ cs st, h[id]? = some (.cells cs st) → st ≠ .dead → (if off + len * sz' ≤ cs.length ∧ 0 < sz' ∧ scalars cs = true then some (chunk sz' len (cs.drop off)) else none) = some ys →
        ∃ fl, Flat (Alw P B A0 σ h) w sz ys fl ∧ ((ys = [] ∧ Value.slice (some ⟨b, off, none⟩) len c = .slice none 0 0) ∨ ∃ ad c', Value.slice (some ⟨b, off, none⟩) len c = .slice (some ad) ys.length c' ∧ ∀ (j : Nat) v, fl[j]? = some v → w.cell? (ad.add j) = some v) := by
      intro cs st hid hst hh
      split at hh <;> first | (cases hh; done) | skip
      rename_i hb
      simp only [Option.some.injEq] at hh; subst hh
      obtain ⟨b', vs, ty, k1, k2, k3, k4, k5, k6⟩ := hr.cells id cs st hid hst
      rw [g1] at k1; simp only [Option.some.injEq] at k1; subst k1
      have hone : ∀ c ∈ cs.drop off, c.one = true := fun c hc => k5 c (List.mem_of_mem_drop hc)
      have hlen : len * sz' ≤ (cs.drop off).length := by simp; omega
      have hcl : (chunk sz' len (cs.drop off)).length = len := chunk_length _ _ _
      have hs : chunk sz' len (cs.drop off) ≠ [] → sz' = sz := fun hne => by
        cases hc : chunk sz' len (cs.drop off) with
        | nil => exact absurd hc hne
        | cons e es =>
          rw [hc] at hz
          simp only [szOk, beq_iff_eq] at hz
          rw [← hz]; exact ((chunk_cells hlen g3 hone (i := 0) (by rw [hc]; rfl)).2.1).symm
      by_cases hne : chunk sz' len (cs.drop off) = []
      · have : len = 0 := by rw [hne] at hcl; simpa using hcl.symm
        subst this
        exact ⟨[], ⟨by simp [hne], by simp [hne], by simp [hne], by simp [hne]⟩, .inr ⟨_, c, by rw [hcl], by simp⟩⟩
      · have hs := hs hne; subst hs
        refine ⟨(vs.toList.drop off).take (len * sz'), ⟨by simp [hcl]; omega, fun e he => ?_, fun e he c' hc' => ?_, fun i j e c' he hc' => ?_⟩, .inr ⟨_, c, by rw [hcl], fun j v hv => ?_⟩⟩
        · obtain ⟨i, hi, rfl⟩ := List.getElem_of_mem he
          exact (chunk_cells hlen g3 hone (List.getElem?_eq_getElem hi)).2
        · obtain ⟨i, hi, rfl⟩ := List.getElem_of_mem he
          rw [(chunk_cells hlen g3 hone (List.getElem?_eq_getElem hi)).1] at hc'
          exact hone c' (List.mem_of_mem_drop (List.mem_of_mem_take hc'))
        · obtain ⟨q1, q2, q3⟩ := chunk_cells hlen g3 hone he
          have hi : i < len := by have := (List.getElem?_eq_some_iff.1 he).1; rwa [hcl] at this
          have hj : j < sz' := by have := (List.getElem?_eq_some_iff.1 hc').1; rwa [q2] at this
          rw [q1, getElem?_drop_take, if_pos hj, List.getElem?_drop] at hc'
          have hlt : i * sz' + j < len * sz' := Nat.lt_of_lt_of_le (by rw [Nat.succ_mul]; omega) (Nat.mul_le_mul_right sz' (show i + 1 ≤ len from hi))
          have hvl : off + (i * sz' + j) < vs.size := by omega
          have hsc := List.all_eq_true.1 hb.2.2 c' (List.mem_of_getElem? hc')
          obtain ⟨u, hu⟩ := Option.isSome_iff_exists.1 hsc
          have hv : vs[off + (i * sz' + j)]? = some (vs[off + (i * sz' + j)]) := Array.getElem?_eq_getElem hvl
          have := toScalar_rel hu (k6 _ _ _ hc' hv)
          refine ⟨u, ?_, toScalar_of hu⟩
          rw [List.getElem?_take, if_pos hlt, List.getElem?_drop, Array.getElem?_toList, hv, this]
        · rw [List.getElem?_take] at hv
          split at hv <;> first | (cases hv; done) | skip
          rw [List.getElem?_drop, Array.getElem?_toList] at hv
          rw [addr_add, cell_of_row w b _ vs ty _ k3]; exact hv
    split at hh <;> first | (cases hh; done) | skip
    · rename_i cs hid; exact key cs _ hid (by simp) hh
    · rename_i cs hid; exact key cs _ hid (by simp) hh

theorem zeroOk_spec {t : TypeId} (hh : zeroOk P t = true) : ∃ i z, P.info? t = some i ∧ i.zero = some z ∧ z.cells.size = i.size := by
  unfold zeroOk at hh
  split at hh <;> first | (cases hh; done) | skip
  rename_i i hi
  split at hh <;> first | (cases hh; done) | skip
  rename_i z hz
  exact ⟨i, z, hi, hz, by simpa using hh⟩

theorem run_append_nothing {t ty e : TypeId} {i : TypeInfo} (ht : P.underlying t = some (.slice e)) (hi : P.info? e = some i) (base bx : Option Addr) (n cap c : Nat) (hc : n ≤ cap) :
    (Builtin.append_ #[t, t] ty #[.slice base n cap, .slice bx 0 c]).run P w = .ok (.slice base n cap) w := by
  cases base <;> cases bx <;> simp [Builtin.append_, run_under ht, sizeOf, typeInfo, hi, Builtin.lenOf, Builtin.firstCells, loadCells, loadCellsFrom, hc, storeCells]

theorem run_append_room' {t ty e te : TypeId} {i : TypeInfo} (ht : P.underlying t = some (.slice e)) (hi : P.info? e = some i)
    (g o sLen sCap : Nat) (cur : Array Value) (hg : w.heap[g]? = some (.cells cur te (0, 0)))
    (a : Addr) (m c : Nat) (news : List Value) (hl : news.length = m * i.size) (hnews : ∀ (j : Nat) u, news[j]? = some u → w.cell? (a.add j) = some u) (h1 : ∀ u ∈ news, u.oneCell' = true)
    (hroom : sLen + m ≤ sCap) (hfit : o + sLen * i.size + news.length ≤ cur.size) :
    (Builtin.append_ #[t, t] ty #[.slice (some ⟨g, o, none⟩) sLen sCap, .slice (some a) m c]).run P w =
      .ok (.slice (some ⟨g, o, none⟩) (sLen + m) sCap) (w.setRow g (cur.toList.take (o + sLen * i.size) ++ news ++ cur.toList.drop (o + sLen * i.size + news.length)).toArray) := by
  have hf := run_firstCells_some (P := P) w i.size m a m c news hl hnews
  have hst := run_storeCells_at P g (o + sLen * i.size) te news 0 cur w hg (by simpa using hfit) h1
  simp only [Nat.add_zero] at hst
  simp [Builtin.append_, run_under ht, sizeOf, typeInfo, hi, Builtin.lenOf, hroom, hf, addr_add, hst]

/-- A row that the append has made. -/
theorem grown_row {A : Nat → Nat → Prop} {σ' : List (Option Nat)} {h' : H} {w' : World} {fl : List Value} {es : List AV} {e : TypeId} {sz b cap t : Nat} {vs : Array Value} (f : Flat A w' sz es fl) (h0 : 0 < sz) (hsz : sizeV P e = some sz)
    (hb : w'.heap[b]? = some (.cells vs e (0, 0))) (hv : ∀ (k : Nat) x, fl[k]? = some x → vs[k]? = some x) (hcap : vs.size = cap * sz) (hc : es.length ≤ cap) (hm : cap ≤ maxLen)
    (hA : ∀ o, o < es.length * sz → A b o) (ht : h'[t]? = some (.tok es.length e)) (hs : σ'[t]? = some (some b)) : Rel P A σ' h' w' (.isl es (.tok t)) (.slice (some ⟨b, 0, none⟩) es.length cap) := by
  refine .tok (of_flat f h0 hc hm (fun k x hx => ?_)) ⟨es.length, e, ht, Nat.le_refl _, fun _ => .inr ⟨b, cap, vs, sz, hs, rfl, ⟨_, hb⟩, hsz, hcap, hc, hm⟩⟩
  have hk : k < fl.length := (List.getElem?_eq_some_iff.1 hx).1
  rw [f.1] at hk
  rw [Nat.zero_add]
  exact ⟨hA k hk, by rw [cell_of_row w' b k vs e _ hb]; exact hv k x hx⟩

theorem zeroCells_size (z : Array Value) (n : Nat) : (Builtin.zeroCells z n).size = n * z.size := by simp [Builtin.zeroCells]

theorem bytes_fit {n by_ : Nat} (hb : n * (by_ + 1) ≤ 35184372088832) : n ≤ 35184372088832 ∧ n * by_ ≤ 140737488355328 := by
  rw [Nat.mul_add] at hb
  have : 0 ≤ n * by_ := Nat.zero_le _
  constructor <;> omega

/-- A row from nothing, or from one that is full: into a new block. -/
theorem append_new [DFlag] (_ : HRel P B A0 σ h w) {t ty e : TypeId} {i : TypeInfo} {z : Value} (ht : P.underlying t = some (.slice e)) (hi : P.info? e = some i) (hz : i.zero = some z) (hzs : z.cells.size = i.size) (_ : 0 < i.size)
    {xs ys : List AV} {ux : Value} {u : Value} {fx fy : List Value} (fX : Flat (Alw P B A0 σ h) w i.size xs fx) (fY : Flat (Alw P B A0 σ h) w i.size ys fy) (hy : 0 < ys.length)
    (hu : (xs = [] ∧ u = .slice none 0 0) ∨ ∃ a cap, u = .slice (some a) xs.length cap ∧ cap < xs.length + ys.length ∧ ∀ (j : Nat) x, fx[j]? = some x → w.cell? (a.add j) = some x)
    (hx : ∃ ad c, ux = .slice (some ad) ys.length c ∧ ∀ (j : Nat) v, fy[j]? = some v → w.cell? (ad.add j) = some v)
    (hfit : xs.length + ys.length ≤ 35184372088832 ∧ (xs.length + ys.length) * i.bytes ≤ 140737488355328) :
    ∃ cap vs w', (Builtin.append_ #[t, t] ty #[u, ux]).run P w = .ok (.slice (some ⟨w.heap.size, 0, none⟩) (xs.length + ys.length) cap) w' ∧ Grows w w' ∧ w'.heap[w.heap.size]? = some (.cells vs e (0, 0)) ∧
      vs.size = cap * i.size ∧ xs.length + ys.length ≤ cap ∧ cap ≤ maxLen ∧ ∀ (k : Nat) x, (fx ++ fy)[k]? = some x → vs[k]? = some x := by
  obtain ⟨b1, b2⟩ := hfit
  have hm63 : xs.length + ys.length ≤ maxLen := by simp only [maxLen]; omega
  obtain ⟨ad, c, rfl, hc⟩ := hx
  have fin : ∀ old, old < xs.length + ys.length → ∃ cap vs, cap = grownCap w (xs.length + ys.length) old e ∧ vs = fx.toArray ++ fy.toArray ++ Builtin.zeroCells z.cells (cap - (xs.length + ys.length)) ∧
      vs.size = cap * i.size ∧ xs.length + ys.length ≤ cap ∧ cap ≤ maxLen ∧ ∀ (k : Nat) x, (fx ++ fy)[k]? = some x → vs[k]? = some x := by
    intro old ho
    have hge := grownCap_ge w (xs.length + ys.length) old e
    refine ⟨_, _, rfl, rfl, ?_, hge, grownCap_le_maxLen w _ old e hm63, fun k x hx => ?_⟩
    · simp only [Array.size_append, List.size_toArray, zeroCells_size, hzs, fX.1, fY.1, ← Nat.add_mul]
      congr 1; omega
    · have hk := (List.getElem?_eq_some_iff.1 hx).1
      rw [Array.getElem?_append_left (by simpa using hk)]
      simpa using hx
  rcases hu with ⟨rfl, rfl⟩ | ⟨a, cap, rfl, hcap, hold⟩
  · have hfx : fx = [] := List.eq_nil_of_length_eq_zero (by simpa using fX.1)
    subst hfx
    obtain ⟨cap, vs, e1, e2, e3, e4, e5, e6⟩ := fin 0 (by simpa using hy)
    have hr' := run_append_nil (P := P) w t ty e i z ht hi hz ad ys.length c fy fY.1 hc hy (by simp only [maxLen] at hm63; omega) (by simp at b2; omega)
    simp only [List.length_nil, Nat.zero_add, Array.empty_append] at e1 e2
    refine ⟨cap, vs, w.drew.alloc (.cells vs e), ?_, (Grows.drew w).trans (Grows.alloc _ _), heap_alloc_new w.drew _, e3, e4, e5, e6⟩
    rw [e2, e1, hr']
    simp only [List.length_nil, Nat.zero_add]
  · obtain ⟨cap', vs, e1, e2, e3, e4, e5, e6⟩ := fin cap hcap
    have hr' := run_append_grow (P := P) w t ty e i z ht hi hz a xs.length cap fx fX.1 hold ad ys.length c fy fY.1 hc hcap (by simp only [maxLen] at hm63; omega) (growslice_fits hcap b2)
    refine ⟨cap', vs, w.drew.alloc (.cells vs e), ?_, (Grows.drew w).trans (Grows.alloc _ _), heap_alloc_new w.drew _, e3, e4, e5, e6⟩
    rw [e2, e1, hr']

theorem set_same {α : Type} {l : List α} {x : α} {i : Nat} (hi : l[i]? = some x) : l.set i x = l := by
  apply List.ext_getElem?
  intro j
  by_cases e : i = j
  · subst e; rw [List.getElem?_set_self (List.getElem?_eq_some_iff.1 hi).1, hi]
  · rw [List.getElem?_set_ne e]
theorem getElem?_mid {α : Type} (l m : List α) (off : Nat) (hoff : off + m.length ≤ l.length) (k : Nat) :
    (l.take off ++ m ++ l.drop (off + m.length))[k]? = if off ≤ k ∧ k < off + m.length then m[k - off]? else l[k]? := by
  by_cases c1 : k < off
  · rw [if_neg (by omega), List.append_assoc, List.getElem?_append_left (by simp; omega), List.getElem?_take, if_pos c1]
  · by_cases c2 : k < off + m.length
    · rw [if_pos ⟨by omega, c2⟩, List.getElem?_append_left (by simp; omega), List.getElem?_append_right (by simp; omega)]
      simp; congr 1; omega
    · rw [if_neg (by omega), List.getElem?_append_right (by simp; omega), List.getElem?_drop]
      congr 1; simp; omega

set_option maxHeartbeats 1000000 in
theorem appendV_sound [DFlag] (hr : HRel P B A0 σ h w) {t ty : TypeId} {s x r : AV} {h' : H} {u ux : Value} (hh : appendV P h t s x = some (r, h')) (rs : Rel P (Alw P B A0 σ h) σ h w s u) (rx : Rel P (Alw P B A0 σ h) σ h w x ux) :
    ∃ v w', (Builtin.append_ #[t, t] ty #[u, ux]).run P w = .ok v w' ∧ Leaves P B A0 σ h w r h' v w' := by
  unfold appendV at hh
  split at hh <;> first | (cases hh; done) | skip
  rename_i e ht
  split at hh <;> first | (cases hh; done) | skip
  rename_i sz by_ ys hsz hby hys
  split at hh <;> first | (cases hh; done) | skip
  rename_i hg
  simp only [Bool.or_eq_true, Bool.not_eq_true', beq_iff_eq, not_or, Bool.not_eq_false] at hg
  obtain ⟨⟨hzo, hsz0⟩, hzy⟩ := hg
  have h0 : 0 < sz := by omega
  obtain ⟨i, z, hi, hz, hzs⟩ := zeroOk_spec hzo
  have hisz : i.size = sz := by simpa [sizeV, hi] using hsz
  have hiby : i.bytes = by_ := by simpa [bytesV, hi] using hby
  subst hisz hiby
  obtain ⟨fy, fY, hY⟩ := elems_sound hr hys rx hzy h0
  have hux0 : ys = [] → ∃ bx c, ux = .slice bx 0 c := fun e => by
    rcases hY with ⟨_, rfl⟩ | ⟨ad, c, rfl, _⟩
    · exact ⟨_, _, rfl⟩
    · subst e; exact ⟨_, _, rfl⟩
  have huxp : 0 < ys.length → ∃ ad c, ux = .slice (some ad) ys.length c ∧ ∀ (j : Nat) v, fy[j]? = some v → w.cell? (ad.add j) = some v := fun hp => by
    rcases hY with ⟨rfl, _⟩ | h
    · simp at hp
    · exact h
  have nothing : ∀ base n cap, u = .slice base n cap → n ≤ cap → ys = [] → (Builtin.append_ #[t, t] ty #[u, ux]).run P w = .ok u w := fun base n cap e1 e2 e3 => by
    obtain ⟨bx, c, rfl⟩ := hux0 e3
    subst e1
    exact run_append_nothing ht hi base bx n cap c e2
  split at hh <;> first | (cases hh; done) | skip
  · rename_i xs ext
    split at hh <;> first | (cases hh; done) | skip
    rename_i hzx
    have hzx : szOk i.size xs = true := by simpa using hzx
    split at hh <;> first | (cases hh; done) | skip
    rename_i hfit
    have hfit : xs.length + ys.length ≤ 35184372088832 ∧ (xs.length + ys.length) * i.bytes ≤ 140737488355328 := by simpa using hfit
    obtain ⟨fx, fX, hX⟩ := flat_of (rel_isl rs) hzx h0
    have hshape : ∃ base cap, u = .slice base xs.length cap ∧ xs.length ≤ cap := by
      rcases hX with ⟨rfl, rfl⟩ | ⟨a, cap, rfl, h1, _⟩
      · exact ⟨_, _, rfl, Nat.le_refl _⟩
      · exact ⟨_, _, rfl, h1⟩
    obtain ⟨base, cap, hue, hcap⟩ := hshape
    split at hh
    · -- full
      split at hh
      · simp only [Option.some.injEq, Prod.mk.injEq] at hh; obtain ⟨rfl, rfl⟩ := hh
        exact ⟨u, w, nothing _ _ _ hue hcap rfl, σ, hr, .refl _ _ _, rs⟩
      · rename_i hne
        have hyp : 0 < ys.length := by cases ys with | nil => exact absurd rfl hne | cons => simp
        simp only [Option.some.injEq, Prod.mk.injEq] at hh; obtain ⟨rfl, rfl⟩ := hh
        have hu' : (xs = [] ∧ u = .slice none 0 0) ∨ ∃ a cap, u = .slice (some a) xs.length cap ∧ cap < xs.length + ys.length ∧ ∀ (j : Nat) x, fx[j]? = some x → w.cell? (a.add j) = some x := by
          rcases hX with h | ⟨a, cap', e1, h1, h2, h3⟩
          · exact .inl h
          · obtain ⟨b2, n2, e2, _⟩ := rel_full rs
            rw [e1] at e2; simp only [Value.slice.injEq] at e2
            exact .inr ⟨a, cap', e1, by omega, h3⟩
        obtain ⟨cap', vs, w', e1, g, e2, e3, e4, e5, e6⟩ := append_new (ty := ty) hr ht hi hz hzs h0 fX fY hyp hu' (huxp hyp) hfit
        have st := Step.push hr g (.tok (xs.length + ys.length) e) (some w.heap.size) (fun b hb => by simp at hb; omega)
        have hR := HRel.push hr g (.tok (xs.length + ys.length) e) (some w.heap.size) (fun b hb => by simp at hb; omega) (fun cs st e => by cases e)
          (fun u2 ty2 e => by simp only [VObj.tok.injEq] at e; obtain ⟨rfl, rfl⟩ := e; exact .inr ⟨_, vs, i.size, cap', rfl, e2, hsz, e3, e4, e5⟩)
        refine ⟨_, w', e1, _, hR, st, ?_⟩
        have hlen : (xs ++ ys).length = xs.length + ys.length := by simp
        have := grown_row (t := h.length) ((fX.append fY).mono st.kept) h0 hsz e2 e6 e3 (by omega) e5 (fun o ho => by
          have hB : B ≤ w.heap.size := hr.base
          unfold Alw
          rw [if_neg (by omega)]
          refine ⟨fun i cs hi hs => ?_, fun i u2 t2 hi hs => ?_⟩
          · rcases getElem?_push_cases hi with ⟨c, hi⟩ | ⟨_, e⟩
            · rw [getElem?_push_lt σ _ (by rw [hr.len]; exact c)] at hs
              have := hr.lt hi rfl hs; omega
            · cases e
          · rcases getElem?_push_cases hi with ⟨c, hi⟩ | ⟨_, e⟩
            · rw [getElem?_push_lt σ _ (by rw [hr.len]; exact c)] at hs
              have := hr.lt hi rfl hs; omega
            · simp only [VObj.tok.injEq] at e; obtain ⟨rfl, rfl⟩ := e
              exact ⟨_, hsz, by rw [← hlen]; exact ho⟩) (by rw [getElem?_push_eq, hlen]) (by rw [← hr.len, getElem?_push_eq])
        rw [hlen] at this
        exact this
    · -- a row with room
      rename_i tk
      split at hh <;> first | (cases hh; done) | skip
      rename_i used ty2 htk
      split at hh <;> first | (cases hh; done) | skip
      rename_i hcond
      obtain ⟨rfl, rfl⟩ := hcond
      simp only [Option.some.injEq, Prod.mk.injEq] at hh; obtain ⟨rfl, rfl⟩ := hh
      have hrs := rs
      cases rs with
      | data r => cases r
      | tok hd hk =>
        obtain ⟨u2, ty3, k1, k2, k3⟩ := hk
        rw [htk] at k1; simp only [Option.some.injEq, VObj.tok.injEq] at k1; obtain ⟨rfl, rfl⟩ := k1
        have k3 := k3 rfl
        by_cases hyp : ys = []
        · subst hyp
          have e1 : h.set tk (.tok (xs.length + ([] : List AV).length) ty2) = h := by
            simp only [List.length_nil, Nat.add_zero]
            exact set_same htk
          rw [e1]
          simp only [List.append_nil]
          exact ⟨u, w, nothing _ _ _ hue hcap rfl, σ, hr, .refl _ _ _, hrs⟩
        · have hyp : 0 < ys.length := by cases ys with | nil => exact absurd rfl hyp | cons => simp
          have hlen : (xs ++ ys).length = xs.length + ys.length := by simp
          have htl : tk < σ.length := by rw [hr.len]; exact (List.getElem?_eq_some_iff.1 htk).1
          have moved : ∀ (_ : (xs = [] ∧ u = .slice none 0 0) ∨ ∃ a cap, u = .slice (some a) xs.length cap ∧ cap < xs.length + ys.length ∧ ∀ (j : Nat) x, fx[j]? = some x → w.cell? (a.add j) = some x),
              ∃ v w', (Builtin.append_ #[t, t] ty #[u, ux]).run P w = .ok v w' ∧ Leaves P B A0 σ h w (.isl (xs ++ ys) (.tok tk)) (h.set tk (.tok (xs.length + ys.length) ty2)) v w' := by
            intro hu'
            obtain ⟨cap', vs, w', e1, g, e2, e3, e4, e5, e6⟩ := append_new (ty := ty) hr ht hi hz hzs h0 fX fY hyp hu' (huxp hyp) hfit
            have st := Step.tokMove (u' := xs.length + ys.length) hr g htk (Nat.le_refl _) (by omega)
            have hR := HRel.tokMove (u' := xs.length + ys.length) hr g htk (Nat.le_refl _) (by omega) e2 hsz e3 e4 e5
            refine ⟨_, w', e1, _, hR, st, ?_⟩
            have := grown_row (t := tk) ((fX.append fY).mono st.kept) h0 hsz e2 e6 e3 (by omega) e5 (fun o ho => by
              have hB : B ≤ w.heap.size := hr.base
              unfold Alw
              rw [if_neg (by omega)]
              refine ⟨fun i cs hi hs => ?_, fun i u2 t2 hi hs => ?_⟩
              · rcases getElem?_set_cases hi with ⟨_, e, _⟩ | ⟨c, hi⟩
                · cases e
                · rw [List.getElem?_set_ne (fun k => c k.symm)] at hs
                  have := hr.lt hi rfl hs; omega
              · rcases getElem?_set_cases hi with ⟨_, e, _⟩ | ⟨c, hi⟩
                · simp only [VObj.tok.injEq] at e; obtain ⟨rfl, rfl⟩ := e
                  exact ⟨_, hsz, by rw [← hlen]; exact ho⟩
                · rw [List.getElem?_set_ne (fun k => c k.symm)] at hs
                  have := hr.lt hi rfl hs; omega) (by rw [List.getElem?_set_self (List.getElem?_eq_some_iff.1 htk).1, hlen]) (by rw [List.getElem?_set_self htl])
            rw [hlen] at this
            exact this
          rcases k3 with ⟨q1, q2, q3⟩ | ⟨b, cap2, vs, sz2, q1, q2, q3z, q4, q5, q6, q7⟩
          · have : xs = [] := List.eq_nil_of_length_eq_zero q3
            exact moved (.inl ⟨this, q1⟩)
          · have q3 := hr.tok00 htk q1 q3z
            rw [hsz] at q4; simp only [Option.some.injEq] at q4; subst q4
            have hold : ∀ (j : Nat) x, fx[j]? = some x → w.cell? ((⟨b, 0, none⟩ : Addr).add j) = some x := by
              rcases hX with ⟨_, e⟩ | ⟨a, cap', e1, h1, h2, h3⟩
              · rw [e] at q2; cases q2
              · rw [e1] at q2; simp only [Value.slice.injEq, Option.some.injEq] at q2
                obtain ⟨rfl, _⟩ := q2; exact h3
            by_cases hroom : xs.length + ys.length ≤ cap2
            · obtain ⟨ad, c, rfl, hc⟩ := huxp hyp
              have hfyl := fY.1
              have hfit2 : 0 + xs.length * i.size + fy.length ≤ vs.size := by rw [hfyl, q5, Nat.zero_add, ← Nat.add_mul]; exact Nat.mul_le_mul_right _ hroom
              have hrun := run_append_room' (w := w) (ty := ty) ht hi b 0 xs.length cap2 vs q3 ad ys.length c fy hfyl hc (fY.one h0) hroom hfit2
              have hsz' : (vs.toList.take (0 + xs.length * i.size) ++ fy ++ vs.toList.drop (0 + xs.length * i.size + fy.length)).toArray.size = vs.size := by simp; omega
              have hkeep : ∀ o, o < xs.length * i.size → (vs.toList.take (0 + xs.length * i.size) ++ fy ++ vs.toList.drop (0 + xs.length * i.size + fy.length)).toArray[o]? = vs[o]? := fun o ho => by
                rw [List.getElem?_toArray, getElem?_mid _ _ _ (by simpa using hfit2), if_neg (by omega), Array.getElem?_toList]
              have st := Step.tokWrite (u' := xs.length + ys.length) hr htk q1 q3 hsz hsz' (by omega) hkeep
              have hR := HRel.tokWrite (u' := xs.length + ys.length) hr htk q1 q3 hsz hsz' (by omega) hkeep q5 hroom q7
              refine ⟨_, _, by rw [q2]; exact hrun, σ, hR, st, ?_⟩
              have := grown_row (t := tk) ((fX.append fY).mono st.kept) h0 hsz (setRow_heap w b vs _ _ _ q3) (fun k x hx => by
                  rw [List.getElem?_toArray, getElem?_mid _ _ _ (by simpa using hfit2)]
                  rw [Nat.zero_add]
                  by_cases hk : k < fx.length
                  · rw [List.getElem?_append_left hk] at hx
                    have := hold k x hx
                    rw [addr_add, Nat.zero_add, cell_of_row w b k vs ty2 _ q3] at this
                    rw [fX.1] at hk
                    rw [if_neg (by omega), Array.getElem?_toList]; exact this
                  · rw [List.getElem?_append_right (by omega)] at hx
                    have hk2 := (List.getElem?_eq_some_iff.1 hx).1
                    rw [fX.1] at hx hk hk2
                    rw [if_pos (by omega)]; exact hx) (by rw [hsz', q5]) (by omega) q7 (fun o ho => by
                have hB := (hr.lt htk rfl q1).2
                unfold Alw
                rw [if_neg (by omega)]
                refine ⟨fun i cs hi hs => ?_, fun i u2 t2 hi hs => ?_⟩
                · rcases getElem?_set_cases hi with ⟨_, e, _⟩ | ⟨c, hi⟩
                  · cases e
                  · exact c (hr.uniq i tk b _ _ hi htk hs q1 rfl rfl)
                · rcases getElem?_set_cases hi with ⟨_, e, _⟩ | ⟨c, hi⟩
                  · simp only [VObj.tok.injEq] at e; obtain ⟨rfl, rfl⟩ := e
                    exact ⟨_, hsz, by rw [← hlen]; exact ho⟩
                  · exact (c (hr.uniq i tk b _ _ hi htk hs q1 rfl rfl)).elim) (by rw [List.getElem?_set_self (List.getElem?_eq_some_iff.1 htk).1, hlen]) q1
              rw [hlen] at this
              exact this
            · exact moved (.inr ⟨_, cap2, q2, by omega, hold⟩)
    · split at hh <;> first | (cases hh; done) | skip
      simp only [Option.some.injEq, Prod.mk.injEq] at hh; obtain ⟨rfl, rfl⟩ := hh
      exact ⟨u, w, nothing _ _ _ hue hcap rfl, σ, hr, .refl _ _ _, rs⟩
  · rename_i id off sz' len c
    split at hh <;> first | (cases hh; done) | skip
    rename_i cs hid
    split at hh <;> first | (cases hh; done) | skip
    rename_i hcond
    obtain ⟨rfl, hc1, hc2⟩ := hcond
    simp only [Option.some.injEq, Prod.mk.injEq] at hh; obtain ⟨rfl, rfl⟩ := hh
    obtain ⟨b, c', rfl, g1, g2, g3, g4, g5, g6, vw, tw, fw, g7, g8⟩ := rel_msl rs
    have := g6 _ rfl; subst this
    obtain ⟨b', vs, tb, k1, k2, k3, k4, k5, k6⟩ := hr.cells id cs _ hid (by simp)
    rw [g1] at k1; simp only [Option.some.injEq] at k1; subst k1
    have hfyl := fY.1
    have hflat : (ys.flatMap AV.cells).length = ys.length * i.size := by
      have : ∀ (l : List AV), (∀ e ∈ l, e.cells.length = i.size) → (l.flatMap AV.cells).length = l.length * i.size := by
        intro l
        induction l with
        | nil => intro _; simp
        | cons e l ih => intro hl; simp only [List.flatMap_cons, List.length_append, List.length_cons]; rw [hl e (by simp), ih (fun e he => hl e (by simp [he])), Nat.succ_mul]; omega
      exact this ys (fun e he => (fY.2.1 e he).1)
    have hget : ∀ (k : Nat) c, (ys.flatMap AV.cells)[k]? = some c → c.one = true ∧ ∃ x, fy[k]? = some x ∧ IRel (Alw P B A0 σ h) w c x := by
      have : ∀ (l : List AV) (fl : List Value), Flat (Alw P B A0 σ h) w i.size l fl → ∀ (k : Nat) c, (l.flatMap AV.cells)[k]? = some c → c.one = true ∧ ∃ x, fl[k]? = some x ∧ IRel (Alw P B A0 σ h) w c x := by
        intro l
        induction l with
        | nil => intro fl _ k c hc; simp at hc
        | cons e l ih =>
          intro fl f k c hc
          obtain ⟨f1, f2, f3, f4⟩ := f
          have he := f2 e (by simp)
          simp only [List.flatMap_cons] at hc
          by_cases hk : k < e.cells.length
          · rw [List.getElem?_append_left hk] at hc
            refine ⟨f3 e (by simp) c (List.mem_of_getElem? hc), ?_⟩
            have := f4 0 k e c (by simp) hc
            simpa using this
          · rw [List.getElem?_append_right (by omega)] at hc
            have hf : Flat (Alw P B A0 σ h) w i.size l (fl.drop i.size) := ⟨by rw [List.length_drop, f1, List.length_cons, Nat.succ_mul]; omega, fun e he => f2 e (by simp [he]), fun e he => f3 e (by simp [he]), fun a j e c he hc => by
              obtain ⟨x, e1, e2⟩ := f4 (a + 1) j e c (by simpa using he) hc
              refine ⟨x, ?_, e2⟩
              rw [List.getElem?_drop, ← e1, Nat.succ_mul]; congr 1; omega⟩
            obtain ⟨q1, x, q2, q3⟩ := ih _ hf _ c hc
            refine ⟨q1, x, ?_, q3⟩
            rw [List.getElem?_drop, he.1] at q2
            rw [← q2]; congr 1; omega
      exact this ys fy fY
    by_cases hyp : ys = []
    · subst hyp
      have e1 : h.set id (.cells (cs.take (off + len * i.size) ++ ([] : List AV).flatMap AV.cells ++ cs.drop (off + (len + ([] : List AV).length) * i.size)) .live) = h := by
        simp only [List.flatMap_nil, List.append_nil, List.length_nil, Nat.add_zero, List.take_append_drop]
        exact set_same hid
      rw [e1]
      exact ⟨_, w, nothing _ _ _ rfl g4 rfl, σ, hr, .refl _ _ _, rs⟩
    · have hyp : 0 < ys.length := by cases ys with | nil => exact absurd rfl hyp | cons => simp
      obtain ⟨ad, cx, rfl, hc⟩ := huxp hyp
      have hmul : (len + ys.length) * i.size = len * i.size + ys.length * i.size := Nat.add_mul _ _ _
      have hfit2 : off + len * i.size + fy.length ≤ vs.size := by omega
      have hrun := run_append_room' (w := w) (ty := ty) ht hi b off len c' vs k3 ad ys.length cx fy hfyl hc (fY.one h0) hc1 hfit2
      have hsz' : (vs.toList.take (off + len * i.size) ++ fy ++ vs.toList.drop (off + len * i.size + fy.length)).toArray.size = vs.size := by simp; omega
      have hcsl : off + len * i.size + (ys.flatMap AV.cells).length ≤ cs.length := by omega
      have hcs' : cs.take (off + len * i.size) ++ ys.flatMap AV.cells ++ cs.drop (off + (len + ys.length) * i.size) = cs.take (off + len * i.size) ++ ys.flatMap AV.cells ++ cs.drop (off + len * i.size + (ys.flatMap AV.cells).length) := by
        rw [hflat, hmul, Nat.add_assoc]
      rw [hcs']
      have hR := HRel.write hr (cs' := cs.take (off + len * i.size) ++ ys.flatMap AV.cells ++ cs.drop (off + len * i.size + (ys.flatMap AV.cells).length)) hid g1 k3 hsz' (by simp only [List.length_append, List.length_take, List.length_drop]; omega) (fun c hc => by
          obtain ⟨k, hk, rfl⟩ := List.getElem_of_mem hc
          have hc := List.getElem?_eq_getElem hk
          rw [getElem?_mid _ _ _ hcsl] at hc
          split at hc
          · exact (hget _ _ hc).1
          · exact k5 _ (List.mem_of_getElem? hc))
        (fun k c v hc hv => by
          rw [getElem?_mid _ _ _ hcsl] at hc
          rw [List.getElem?_toArray, getElem?_mid _ _ _ (by simpa using hfit2)] at hv
          rw [hflat] at hc; rw [hfyl] at hv
          split at hc
          · rename_i hk
            rw [if_pos hk] at hv
            obtain ⟨_, x, q2, q3⟩ := hget _ _ hc
            rw [q2] at hv; simp only [Option.some.injEq] at hv; subst hv
            exact .data q3
          · rename_i hk
            rw [if_neg hk, Array.getElem?_toList] at hv
            exact k6 k c v hc hv)
      have st := Step.write (cs' := cs.take (off + len * i.size) ++ ys.flatMap AV.cells ++ cs.drop (off + len * i.size + (ys.flatMap AV.cells).length)) hr hid g1 k3 hsz'
      exact ⟨_, _, hrun, σ, hR, st, .msl g1 ⟨_, _, List.getElem?_set_self (List.getElem?_eq_some_iff.1 hid).1⟩ g3 hc1 g5 (fun n hn => by simpa using hn)
        ⟨_, _, _, setRow_heap w b vs _ _ _ k3, by rw [k3] at g7; simp only [Option.some.injEq, Obj.cells.injEq] at g7; rw [hsz', g7.1]; exact g8⟩⟩
theorem flat_get {A : Nat → Nat → Prop} {sz : Nat} : ∀ (l : List AV) (fl : List Value), Flat A w sz l fl → (l.flatMap AV.cells).length = l.length * sz ∧ ∀ (k : Nat) c, (l.flatMap AV.cells)[k]? = some c → c.one = true ∧ ∃ x, fl[k]? = some x ∧ IRel A w c x := by
  intro l
  induction l with
  | nil => intro fl _; exact ⟨by simp, fun k c hc => by simp at hc⟩
  | cons e l ih =>
    intro fl f
    obtain ⟨f1, f2, f3, f4⟩ := f
    have he := f2 e (by simp)
    have hf : Flat A w sz l (fl.drop sz) := ⟨by rw [List.length_drop, f1, List.length_cons, Nat.succ_mul]; omega, fun e he => f2 e (by simp [he]), fun e he => f3 e (by simp [he]), fun a j e c he hc => by
      obtain ⟨x, e1, e2⟩ := f4 (a + 1) j e c (by simpa using he) hc
      refine ⟨x, ?_, e2⟩
      rw [List.getElem?_drop, ← e1, Nat.succ_mul]; congr 1; omega⟩
    obtain ⟨i1, i2⟩ := ih _ hf
    refine ⟨by simp only [List.flatMap_cons, List.length_append, List.length_cons]; rw [he.1, i1, Nat.succ_mul]; omega, fun k c hc => ?_⟩
    simp only [List.flatMap_cons] at hc
    by_cases hk : k < e.cells.length
    · rw [List.getElem?_append_left hk] at hc
      refine ⟨f3 e (by simp) c (List.mem_of_getElem? hc), ?_⟩
      have := f4 0 k e c (by simp) hc
      simpa using this
    · rw [List.getElem?_append_right (by omega)] at hc
      obtain ⟨q1, x, q2, q3⟩ := i2 _ c hc
      refine ⟨q1, x, ?_, q3⟩
      rw [List.getElem?_drop, he.1] at q2
      rw [← q2]; congr 1; omega

theorem appendR_sound [DFlag] (hr : HRel P B A0 σ h w) {t ty : TypeId} {ys : List AV} {e' : Ext} {r : AV} {h' : H} {u ux : Value} (hh : appendR P h t ys = some (r, h')) (rs : Rel P (Alw P B A0 σ h) σ h w (.isl [] .full) u) (rx : Rel P (Alw P B A0 σ h) σ h w (.isl ys e') ux) :
    ∃ v w', (Builtin.append_ #[t, t] ty #[u, ux]).run P w = .ok v w' ∧ Leaves P B A0 σ h w r h' v w' := by
  unfold appendR at hh
  split at hh <;> first | (cases hh; done) | skip
  rename_i e ht
  split at hh <;> first | (cases hh; done) | skip
  rename_i sz by_ hsz hby
  split at hh <;> first | (cases hh; done) | skip
  rename_i hg
  simp only [Bool.and_eq_true, bne_iff_ne, ne_eq, Bool.not_eq_true', decide_eq_true_eq] at hg
  obtain ⟨⟨⟨⟨hzo, hsz0⟩, hzy⟩, hne⟩, hfit⟩ := hg
  simp only [Option.some.injEq, Prod.mk.injEq] at hh; obtain ⟨rfl, rfl⟩ := hh
  have h0 : 0 < sz := by omega
  obtain ⟨i, z, hi, hz, hzs⟩ := zeroOk_spec hzo
  have hisz : i.size = sz := by simpa [sizeV, hi] using hsz
  have hiby : i.bytes = by_ := by simpa [bytesV, hi] using hby
  subst hisz hiby
  have hyp : 0 < ys.length := by cases ys with | nil => simp at hne | cons => simp
  obtain ⟨fy, fY, hY⟩ := flat_of (rel_isl rx) hzy h0
  have hux : ∃ ad c, ux = .slice (some ad) ys.length c ∧ ∀ (j : Nat) v, fy[j]? = some v → w.cell? (ad.add j) = some v := by
    rcases hY with ⟨rfl, _⟩ | ⟨a, c, e1, _, _, e2⟩
    · simp at hyp
    · exact ⟨a, c, e1, e2⟩
  obtain ⟨base, n, e1, hd⟩ := rel_full rs
  have hn0 : n = 0 := by
    rcases irel_isl hd with ⟨_, b2, c2, e2, _, _⟩ | ⟨sz', b', o, c2, f, e2, _⟩ <;> (have e3 := e1.symm.trans e2; simp only [Value.slice.injEq] at e3; exact e3.2.1)
  have hu : (([] : List AV) = [] ∧ u = .slice none 0 0) ∨ ∃ a cap, u = .slice (some a) ([] : List AV).length cap ∧ cap < ([] : List AV).length + ys.length ∧ ∀ (j : Nat) x, ([] : List Value)[j]? = some x → w.cell? (a.add j) = some x := by
    cases base with
    | none => exact .inl ⟨rfl, by rw [e1, hn0]⟩
    | some a => exact .inr ⟨a, 0, by rw [e1, hn0]; rfl, by simp; exact hyp, by simp⟩
  have fX : Flat (Alw P B A0 σ h) w i.size ([] : List AV) [] := ⟨by simp, by simp, by simp, by simp⟩
  obtain ⟨cap', vs, w', q1, g, q2, q3, q4, q5, q6⟩ := append_new (ty := ty) hr ht hi hz hzs h0 fX fY hyp hu hux (by simpa using bytes_fit hfit)
  simp only [List.length_nil, Nat.zero_add, List.nil_append] at q1 q4 q6
  obtain ⟨k1, k2⟩ := flat_get ys fy fY
  have hy : ∀ b, some w.heap.size = some b → w.heap.size ≤ b := fun b hb => by simp only [Option.some.injEq] at hb; omega
  have hR := HRel.push hr g (.cells (ys.flatMap AV.cells) .live) (some w.heap.size) hy (fun cs st e => by
    simp only [VObj.cells.injEq] at e; obtain ⟨rfl, rfl⟩ := e
    refine ⟨_, vs, _, rfl, q2, by rw [k1, q3]; exact Nat.mul_le_mul_right _ q4, fun c hc => ?_, fun k c x hc hx => ?_⟩
    · obtain ⟨k, hk, rfl⟩ := List.getElem_of_mem hc
      exact (k2 k _ (List.getElem?_eq_getElem hk)).1
    · obtain ⟨_, y, y1, y2⟩ := k2 k c hc
      rw [q6 k y y1] at hx; simp only [Option.some.injEq] at hx; subst hx
      exact .data y2) (fun _ _ e => by cases e)
  refine ⟨_, w', q1, _, hR, Step.push hr g _ _ hy, ?_⟩
  exact .msl (by rw [← hr.len, getElem?_push_eq]) ⟨_, _, getElem?_push_eq h _⟩ h0 q4 q5 (fun n hn => by cases hn) ⟨_, _, _, q2, by rw [q3]; omega⟩
end
end Go.V
