/- Rows of one's own that are appended to and yet may be written: the new row takes the old one's place. Rows cleared, and copied to. -/
import Derived.Test.YtdoegkegjaadeaaGreatDoorQV11
namespace Go.V
open Go

section
variable {P : Program} {B : Nat} {A0 : Nat → Nat → Prop} {σ : List (Option Nat)} {h : H} {w : World}

/-- A row is given up. -/
theorem Step.kill [DFlag] (_ : HRel P B A0 σ h w) {id : Nat} {cs : List AV} {st : OSt} (hid : h[id]? = some (.cells cs st)) : Step P B A0 σ h w σ (h.set id (.cells cs .dead)) w where
  below := .refl _ _
  shapes := .refl _
  kept := fun b o x ha hc => ⟨by
    unfold Alw at *
    split
    · rename_i hB; simpa [hB] using ha
    · rename_i hB
      rw [if_neg hB] at ha
      refine ⟨fun i cs2 hi => ?_, fun i u2 t2 hi hs2 => ?_⟩
      · rcases getElem?_set_cases hi with ⟨_, e, _⟩ | ⟨_, hi⟩
        · cases e
        · exact ha.1 i cs2 hi
      · rcases getElem?_set_cases hi with ⟨_, e, _⟩ | ⟨_, hi⟩
        · cases e
        · exact ha.2 i u2 t2 hi hs2, hc⟩
  cells := fun i cs2 st2 hi => ⟨rfl, by
    by_cases e : i = id
    · subst e; exact ⟨cs, .dead, List.getElem?_set_self (List.getElem?_eq_some_iff.1 hid).1⟩
    · exact ⟨cs2, st2, by rw [List.getElem?_set_ne (fun k => e k.symm)]; exact hi⟩⟩
  toks := fun i u ty hi => ⟨u, by rw [List.getElem?_set_ne (fun k => by subst k; rw [hid] at hi; cases hi)]; exact hi, Nat.le_refl _, fun _ => rfl⟩
  loops := fun i L st2 hi => ⟨rfl, st2, by rw [List.getElem?_set_ne (fun k => by subst k; rw [hid] at hi; cases hi)]; exact hi⟩
  maps := fun i es hi => ⟨rfl, es, by rw [List.getElem?_set_ne (fun k => by subst k; rw [hid] at hi; cases hi)]; exact hi⟩
  marks := fun _ hk => hk
  drawn := fun _ => Nat.le_refl _
theorem HRel.kill (hr : HRel P B A0 σ h w) {id : Nat} {cs : List AV} {st : OSt} (hid : h[id]? = some (.cells cs st)) : HRel P B A0 σ (h.set id (.cells cs .dead)) w := by
  have hst := Step.kill hr hid
  refine ⟨hr.base, by simpa using hr.len, fun i c2 st2 hi hd => ?_, fun i u t hi => ?_, fun i L st2 hi hd => ?_, fun i es hi => ?_, fun i j k p q hi hj si sj di dj => ?_, hr.globBelow hst.below⟩
  · rcases getElem?_set_cases hi with ⟨_, e, _⟩ | ⟨_, hi⟩
    · simp only [VObj.cells.injEq] at e; exact absurd e.2 hd
    · obtain ⟨b, vs, ty, k1, k2, k3, k4, k5, k6⟩ := hr.cells i c2 st2 hi hd
      exact ⟨b, vs, ty, k1, k2, k3, k4, k5, fun k c v hc hv => (k6 k c v hc hv).step hst⟩
  · rcases getElem?_set_cases hi with ⟨_, e, _⟩ | ⟨_, hi⟩
    · cases e
    · exact hr.tok i u t hi
  · rcases getElem?_set_cases hi with ⟨_, e, _⟩ | ⟨_, hi⟩
    · cases e
    · obtain ⟨l, fn, tm, D, k1, k2, k3, k4, k5⟩ := hr.loop i L st2 hi hd
      exact ⟨l, fn, tm, D, k1, k2, k3, k4, fun t => (k5 t).step hst⟩
  · rcases getElem?_set_cases hi with ⟨_, e, _⟩ | ⟨_, hi⟩
    · cases e
    · obtain ⟨b2, mes, clock, k1, k2, k3, k4, k5⟩ := hr.map i es hi
      exact ⟨b2, mes, clock, k1, k2, k3, k4, fun k e m he hm => let q := k5 k e m he hm; ⟨q.1, q.2.1, q.2.2.step hst⟩⟩
  · have key : ∀ (i : Nat) p, (h.set id (.cells cs .dead))[i]? = some p → p.gone = false → h[i]? = some p := fun i p hi di => by
      rcases getElem?_set_cases hi with ⟨_, e, _⟩ | ⟨_, hi⟩
      · subst e; cases di
      · exact hi
    exact hr.uniq i j k p q (key i p hi di) (key j q hj dj) si sj di dj

/-- A row's block is written over, and belongs to a new object. -/
theorem Step.move [DFlag] (hr : HRel P B A0 σ h w) {id b : Nat} {cs cs' : List AV} {vs vs' : Array Value} {ty : TypeId} (hid : h[id]? = some (.cells cs .live)) (hs : σ[id]? = some (some b))
    (hb : w.heap[b]? = some (.cells vs ty (0, 0))) (hsz : vs'.size = vs.size) : Step P B A0 σ h w (σ ++ [some b]) (h.set id (.cells cs .dead) ++ [.cells cs' .live]) (w.setRow b vs') := by
  have hl := hr.lt hid rfl hs
  have hlen : (h.set id (.cells cs .dead)).length = h.length := by simp
  have up : ∀ {i : Nat} {x : VObj}, h[i]? = some x → i ≠ id → (h.set id (.cells cs .dead) ++ [.cells cs' .live])[i]? = some x := fun {i x} hi hne => by
    rw [List.getElem?_append_left (by rw [hlen]; exact (List.getElem?_eq_some_iff.1 hi).1), List.getElem?_set_ne (fun k => hne k.symm)]; exact hi
  have so : ∀ {i : Nat} {x : VObj}, h[i]? = some x → (σ ++ [some b])[i]? = σ[i]? := fun {i x} hi => getElem?_push_lt σ _ (by rw [hr.len]; exact (List.getElem?_eq_some_iff.1 hi).1)
  refine ⟨setRow_below hl.2, setRow_shapes hb hsz, fun k o x ha hc => ?_, fun i cs2 st hi => ⟨so hi, ?_⟩, fun i u ty hi => ⟨u, up hi (fun e => by subst e; rw [hid] at hi; cases hi), Nat.le_refl _, fun _ => so hi⟩,
    fun i L st hi => ⟨so hi, st, up hi (fun e => by subst e; rw [hid] at hi; cases hi)⟩, fun i es hi => ⟨so hi, es, up hi (fun e => by subst e; rw [hid] at hi; cases hi)⟩, fun k hk => setRow_mark hb hk (by simp), fun _ => Nat.le_refl _⟩
  · have hne : k ≠ b := by
      intro e; subst e
      unfold Alw at ha
      rw [if_neg (by omega)] at ha
      exact ha.1 id cs hid hs
    refine ⟨?_, by rw [setRow_cell hne]; exact hc⟩
    unfold Alw at *
    split
    · rename_i hB; simpa [hB] using ha
    · rename_i hB
      rw [if_neg hB] at ha
      refine ⟨fun i cs2 hi hs2 => ?_, fun i u t hi hs2 => ?_⟩
      · rcases getElem?_push_cases hi with ⟨c, hi⟩ | ⟨rfl, _⟩
        · rw [hlen] at c
          rw [getElem?_push_lt σ _ (by rw [hr.len]; exact c)] at hs2
          rcases getElem?_set_cases hi with ⟨_, e, _⟩ | ⟨_, hi⟩
          · cases e
          · exact ha.1 i cs2 hi hs2
        · rw [hlen, ← hr.len, getElem?_push_eq] at hs2
          simp only [Option.some.injEq] at hs2
          exact hne hs2.symm
      · rcases getElem?_push_cases hi with ⟨c, hi⟩ | ⟨_, e⟩
        · rw [hlen] at c
          rw [getElem?_push_lt σ _ (by rw [hr.len]; exact c)] at hs2
          rcases getElem?_set_cases hi with ⟨_, e, _⟩ | ⟨_, hi⟩
          · cases e
          · exact ha.2 i u t hi hs2
        · cases e
  · by_cases e : i = id
    · subst e
      exact ⟨cs, .dead, by rw [List.getElem?_append_left (by rw [hlen]; exact (List.getElem?_eq_some_iff.1 hid).1)]; exact List.getElem?_set_self (List.getElem?_eq_some_iff.1 hid).1⟩
    · exact ⟨cs2, st, up hi e⟩
theorem HRel.move (hr : HRel P B A0 σ h w) {id b : Nat} {cs cs' : List AV} {vs vs' : Array Value} {ty : TypeId} (hid : h[id]? = some (.cells cs .live)) (hs : σ[id]? = some (some b))
    (hb : w.heap[b]? = some (.cells vs ty (0, 0))) (hsz : vs'.size = vs.size) (hl' : cs'.length ≤ vs.size) (h1 : ∀ c ∈ cs', c.one = true)
    (hrel : ∀ (k : Nat) c v, cs'[k]? = some c → vs'[k]? = some v → Rel P (Alw P B A0 σ h) σ h w c v) : HRel P B A0 (σ ++ [some b]) (h.set id (.cells cs .dead) ++ [.cells cs' .live]) (w.setRow b vs') := by
  have hst := Step.move (cs' := cs') hr hid hs hb hsz
  have hlt := hr.lt hid rfl hs
  have hlen : (h.set id (.cells cs .dead)).length = h.length := by simp
  have dn : ∀ {i : Nat} {x : VObj}, (h.set id (.cells cs .dead) ++ [.cells cs' .live])[i]? = some x → x.gone = false → (i < h.length ∧ i ≠ id ∧ h[i]? = some x ∧ (σ ++ [some b])[i]? = σ[i]?) ∨ (i = h.length ∧ x = .cells cs' .live) := fun {i x} hi hg => by
    rcases getElem?_push_cases hi with ⟨c, hi⟩ | ⟨e, e2⟩
    · rw [hlen] at c
      rcases getElem?_set_cases hi with ⟨_, e, _⟩ | ⟨hne, hi⟩
      · subst e; cases hg
      · exact .inl ⟨c, hne, hi, getElem?_push_lt σ _ (by rw [hr.len]; exact c)⟩
    · exact .inr ⟨by rw [e, hlen], e2⟩
  refine ⟨by simpa using hr.base, by simp [hr.len], fun i c2 st hi hd => ?_, fun i u t hi => ?_, fun i L st hi hd => ?_, fun i es hi => ?_, fun i j k p q hi hj si sj di dj => ?_, hr.globBelow hst.below⟩
  · rcases dn hi (gone_cells hd) with ⟨_, hne, hi, es⟩ | ⟨rfl, e⟩
    · obtain ⟨b2, us, t2, k1, k2, k3, k4, k5, k6⟩ := hr.cells i c2 st hi hd
      have hbb : b2 ≠ b := fun e => hne (hr.uniq i id b _ _ hi hid (by rw [k1, e]) hs (gone_cells hd) rfl)
      exact ⟨b2, us, t2, by rw [es]; exact k1, k2, by rw [setRow_other w b b2 vs' hbb]; exact k3, k4, k5, fun k c v hc hv => (k6 k c v hc hv).step hst⟩
    · simp only [VObj.cells.injEq] at e
      obtain ⟨rfl, rfl⟩ := e
      exact ⟨b, vs', ty, by rw [← hr.len, getElem?_push_eq], hlt.2, setRow_heap w b vs vs' _ _ hb, by omega, h1, fun k c v hc hv => (hrel k c v hc hv).step hst⟩
  · rcases dn hi rfl with ⟨_, hne, hi, es⟩ | ⟨_, e⟩
    · rcases hr.tok i u t hi with k | ⟨b2, us, sz, cap, k1, k2, k3, k4⟩
      · exact .inl (by rw [es]; exact k)
      · have hbb : b2 ≠ b := fun e => hne (hr.uniq i id b _ _ hi hid (by rw [k1, e]) hs rfl rfl)
        exact .inr ⟨b2, us, sz, cap, by rw [es]; exact k1, k2, by rw [setRow_other w b b2 vs' hbb]; exact k3, k4⟩
    · cases e
  · rcases dn hi (gone_loop hd) with ⟨_, hne, hi, es⟩ | ⟨_, e⟩
    · obtain ⟨l, fn, tm, D, k1, k2, k3, k4, k5⟩ := hr.loop i L st hi hd
      exact ⟨l, fn, tm, D, by rw [es]; exact k1, k2, setRow_mark hb k3 (by simp), k4, fun t => (k5 t).step hst⟩
    · cases e
  · rcases dn hi rfl with ⟨_, hne, hi, es'⟩ | ⟨_, e⟩
    · obtain ⟨b2, mes, clock, k1, k2, k3, k4, k5⟩ := hr.map i es hi
      exact ⟨b2, mes, clock, by rw [es']; exact k1, k2, setRow_mark hb k3 (by simp), k4, fun k e m he hm => let q := k5 k e m he hm; ⟨q.1, q.2.1, q.2.2.step hst⟩⟩
    · cases e
  · rcases dn hi di with ⟨_, ni, hi, ei⟩ | ⟨rfl, ei⟩ <;> rcases dn hj dj with ⟨_, nj, hj, ej⟩ | ⟨rfl, ej⟩
    · rw [ei] at si; rw [ej] at sj
      exact hr.uniq i j k p q hi hj si sj di dj
    · rw [← hr.len, getElem?_push_eq] at sj
      simp only [Option.some.injEq] at sj
      rw [ei] at si
      exact absurd (hr.uniq i id k _ _ hi hid si (by rw [hs, sj]) di rfl) ni
    · rw [← hr.len, getElem?_push_eq] at si
      simp only [Option.some.injEq] at si
      rw [ej] at sj
      exact absurd (hr.uniq j id k _ _ hj hid sj (by rw [hs, si]) dj rfl) nj
    · rfl

/-- What is appended or copied, as the model reads it. -/
structure SrcRun (P : Program) (w : World) (sz m : Nat) (u : TypeId) (ux : Value) (fy : List Value) : Prop where
  type : (∃ e, P.underlying u = some (.slice e)) ∨ P.underlying u = some .string
  len : Builtin.lenOf ux = pure m
  cells : ∀ w', (∀ a v, w.cell? a = some v → w'.cell? a = some v) → (Builtin.firstCells sz m ux).run P w' = .ok fy.toArray w'
  short : ∀ n, n ≤ m → ∀ w', (∀ a v, w.cell? a = some v → w'.cell? a = some v) → (Builtin.firstCells sz n ux).run P w' = .ok (fy.take (n * sz)).toArray w'
  size : fy.length = m * sz

theorem src_sound (hr : HRel P B A0 σ h w) {sz m : Nat} {x : AV} {ys : List AV} {ux : Value} {u : TypeId} (hh : srcV h sz x = some (ys, m)) (rx : Rel P (Alw P B A0 σ h) σ h w x ux) (h0 : 0 < sz)
    (hu : (∃ e, P.underlying u = some (.slice e)) ∨ P.underlying u = some .string) :
    ys.length = m * sz ∧ (∀ c ∈ ys, c.one = true) ∧ ∃ fy : List Value, SrcRun P w sz m u ux fy ∧ ∀ (k : Nat) c v, ys[k]? = some c → fy[k]? = some v → Rel P (Alw P B A0 σ h) σ h w c v := by
  have slice : ∀ (ad : Addr) (n c : Nat) (fy : List Value), fy.length = n * sz → (∀ (j : Nat) v, fy[j]? = some v → w.cell? (ad.add j) = some v) → SrcRun P w sz n u (.slice (some ad) n c) fy := fun ad n c fy hl hc =>
    ⟨hu, rfl, fun w' hw => run_firstCells_some (P := P) w' sz n ad n c fy hl (fun j v hv => hw _ _ (hc j v hv)), fun k hk w' hw => by
      have := run_firstCells_some (P := P) w' sz k ad n c (fy.take (k * sz)) (by rw [List.length_take, hl, Nat.min_eq_left (Nat.mul_le_mul_right _ hk)]) (fun j v hv => by
        rw [List.getElem?_take] at hv
        split at hv <;> first | (cases hv; done) | skip
        exact hw _ _ (hc j v hv))
      exact this, hl⟩
  unfold srcV at hh
  split at hh <;> first | (cases hh; done) | skip
  · rename_i es e
    split at hh <;> first | (cases hh; done) | skip
    rename_i hz
    simp only [Option.some.injEq, Prod.mk.injEq] at hh; obtain ⟨rfl, rfl⟩ := hh
    obtain ⟨fl, h1, h2⟩ := flat_of (rel_isl rx) hz h0
    obtain ⟨k1, k2⟩ := flat_get es fl h1
    refine ⟨k1, fun c hc => ?_, fl, ?_, fun k c v hc hv => ?_⟩
    · obtain ⟨k, hk, rfl⟩ := List.getElem_of_mem hc
      exact (k2 k _ (List.getElem?_eq_getElem hk)).1
    · rcases h2 with ⟨rfl, rfl⟩ | ⟨a, cap, rfl, _, _, e2⟩
      · have hfl : fl = [] := List.eq_nil_of_length_eq_zero (by simpa using h1.1)
        subst hfl
        exact ⟨hu, rfl, fun w' _ => by simp [Builtin.firstCells], fun n hn w' _ => by simp [Builtin.firstCells], by simp⟩
      · exact slice a _ cap fl h1.1 e2
    · obtain ⟨_, y, y1, y2⟩ := k2 k c hc
      rw [hv] at y1; simp only [Option.some.injEq] at y1; subst y1
      exact .data y2
  · rename_i id off sz' n cap
    obtain ⟨b, c, rfl, g1, g2, g3, g4, g5, g6, g7⟩ := rel_msl rx
    have key : ∀ cs st, h[id]? = some (.cells cs st) → st ≠ .dead → (if sz' = sz ∧ off + n * sz ≤ cs.length then some ((cs.drop off).take (n * sz), n) else none) = some (ys, m) →
        ys.length = m * sz ∧ (∀ c ∈ ys, c.one = true) ∧ ∃ fy : List Value, SrcRun P w sz m u (.slice (some ⟨b, off, none⟩) n c) fy ∧ ∀ (k : Nat) c v, ys[k]? = some c → fy[k]? = some v → Rel P (Alw P B A0 σ h) σ h w c v := by
      intro cs st hid hst hh
      split at hh <;> first | (cases hh; done) | skip
      rename_i hb
      obtain ⟨rfl, hb⟩ := hb
      simp only [Option.some.injEq, Prod.mk.injEq] at hh; obtain ⟨rfl, rfl⟩ := hh
      obtain ⟨b', vs, ty, k1, k2, k3, k4, k5, k6⟩ := hr.cells id cs st hid hst
      rw [g1] at k1; simp only [Option.some.injEq] at k1; subst k1
      have hfl : ((vs.toList.drop off).take (n * sz')).length = n * sz' := by simp; omega
      refine ⟨by simp; omega, fun c hc => k5 c (List.mem_of_mem_drop (List.mem_of_mem_take hc)), (vs.toList.drop off).take (n * sz'), slice _ n c _ hfl (fun j v hv => ?_), fun k c v hc hv => ?_⟩
      · rw [List.getElem?_take] at hv
        split at hv <;> first | (cases hv; done) | skip
        rw [List.getElem?_drop, Array.getElem?_toList] at hv
        rw [addr_add, cell_of_row w b _ vs ty _ k3]; exact hv
      · rw [List.getElem?_take] at hc hv
        split at hc <;> first | (cases hc; done) | skip
        rename_i hk
        rw [if_pos hk] at hv
        rw [List.getElem?_drop] at hc hv
        rw [Array.getElem?_toList] at hv
        exact k6 _ c v hc hv
    split at hh <;> first | (cases hh; done) | skip
    · rename_i cs hid; exact key cs _ hid (by simp) hh
    · rename_i cs hid; exact key cs _ hid (by simp) hh
  · rename_i s
    split at hh <;> first | (cases hh; done) | skip
    rename_i hs1
    subst hs1
    simp only [Option.some.injEq, Prod.mk.injEq] at hh; obtain ⟨rfl, rfl⟩ := hh
    rw [rel_str rx]
    have hsz : s.data.toList.length = s.size := Array.length_toList
    have hsv : (s.data.toList.map fun b => Value.int .u8 b.toNat).length = s.size := by rw [List.length_map, hsz]
    have hsa : (s.data.toList.map fun b => AV.int .u8 b.toNat).length = s.size := by rw [List.length_map, hsz]
    have short : ∀ n, n ≤ s.size → ((s.extract 0 n).data.map fun b => Value.int .u8 b.toNat) = ((s.data.toList.map fun b => Value.int .u8 b.toNat).take n).toArray := fun n hn => by
      apply Array.ext'
      have hn' : n ≤ s.data.size := hn
      simp [ByteArray.data_extract, List.extract_eq_take_drop]
    refine ⟨by rw [hsa, Nat.mul_one], fun c hc => ?_, s.data.toList.map (fun b => Value.int .u8 b.toNat), ⟨hu, rfl, fun w' _ => ?_, fun n hn w' _ => ?_, by rw [hsv, Nat.mul_one]⟩, fun k c v hc hv => ?_⟩
    · obtain ⟨b, _, rfl⟩ := List.mem_map.1 hc; rfl
    · have := short s.size (Nat.le_refl _)
      rw [List.take_of_length_le (by rw [hsv]; exact Nat.le_refl _)] at this
      simp only [Builtin.firstCells, Sem.run_pure, this]
    · have := short n hn
      simp only [Builtin.firstCells, Sem.run_pure, this, Nat.mul_one]
    · rw [List.getElem?_map] at hc hv
      obtain ⟨b, hb, rfl⟩ := Option.map_eq_some_iff.1 hc
      rw [hb] at hv
      simp only [Option.map_some, Option.some.injEq] at hv; subst hv
      exact .data (.int _ _)

theorem src_le {m _n : Nat} {ux : Value} {u : TypeId} {fy : List Value} {sz : Nat} (S : SrcRun P w sz m u ux fy) : (Builtin.lenOf ux).run P w = .ok m w := by rw [S.len]; rfl

theorem run_app_room {t u ty e te : TypeId} {i : TypeInfo} (ht : P.underlying t = some (.slice e)) (hi : P.info? e = some i) {m : Nat} {ux : Value} {fy : List Value} (S : SrcRun P w i.size m u ux fy)
    (g o sLen sCap : Nat) (cur : Array Value) (hg : w.heap[g]? = some (.cells cur te (0, 0))) (h1 : ∀ u ∈ fy, u.oneCell' = true)
    (hroom : sLen + m ≤ sCap) (hfit : o + sLen * i.size + fy.length ≤ cur.size) :
    (Builtin.append_ #[t, u] ty #[.slice (some ⟨g, o, none⟩) sLen sCap, ux]).run P w =
      .ok (.slice (some ⟨g, o, none⟩) (sLen + m) sCap) (w.setRow g (cur.toList.take (o + sLen * i.size) ++ fy ++ cur.toList.drop (o + sLen * i.size + fy.length)).toArray) := by
  have hf := S.cells w (fun _ _ h => h)
  have hst := run_storeCells_at P g (o + sLen * i.size) te fy 0 cur w hg (by simpa using hfit) h1
  simp only [Nat.add_zero] at hst
  rcases S.type with ⟨e2, hu⟩ | hu <;> simp [Builtin.append_, run_under ht, run_under hu, sizeOf, typeInfo, hi, S.len, hroom, hf, addr_add, hst]
theorem run_app_nothing {t u ty e : TypeId} {i : TypeInfo} (ht : P.underlying t = some (.slice e)) (hi : P.info? e = some i) {ux : Value} {fy : List Value} (S : SrcRun P w i.size 0 u ux fy)
    (base : Option Addr) (n cap : Nat) (hc : n ≤ cap) : (Builtin.append_ #[t, u] ty #[.slice base n cap, ux]).run P w = .ok (.slice base n cap) w := by
  have hf := S.cells w (fun _ _ h => h)
  have hfy : fy = [] := List.eq_nil_of_length_eq_zero (by rw [S.size]; simp)
  subst hfy
  rcases S.type with ⟨e2, hu⟩ | hu <;> cases base <;> simp [Builtin.append_, run_under ht, run_under hu, sizeOf, typeInfo, hi, S.len, hc, hf, storeCells]
/-- Into a new block. -/
theorem run_app_fresh [DFlag] {t u ty e : TypeId} {i : TypeInfo} {z : Value} (ht : P.underlying t = some (.slice e)) (hi : P.info? e = some i) (hz : i.zero = some z) (hzs : z.cells.size = i.size)
    {m n cap : Nat} {base : Option Addr} {ux : Value} {fx fy : List Value} (S : SrcRun P w i.size m u ux fy) (hfx : fx.length = n * i.size)
    (hb : ∀ a, base = some a → ∀ (j : Nat) x, fx[j]? = some x → w.cell? (a.add j) = some x) (hb0 : base = none → n = 0) (hroom : cap < n + m) (hfit : (n + m) * (i.bytes + 1) ≤ 35184372088832) :
    ∃ cap' vs w', (Builtin.append_ #[t, u] ty #[.slice base n cap, ux]).run P w = .ok (.slice (some ⟨w.heap.size, 0, none⟩) (n + m) cap') w' ∧ Grows w w' ∧ w'.heap[w.heap.size]? = some (.cells vs e (0, 0)) ∧
      vs.size = cap' * i.size ∧ n + m ≤ cap' ∧ cap' ≤ maxLen ∧ ∀ (k : Nat) x, (fx ++ fy)[k]? = some x → vs[k]? = some x := by
  obtain ⟨b1, b2⟩ := bytes_fit hfit
  have hm63 : n + m ≤ maxLen := by simp only [maxLen]; omega
  have hge := grownCap_ge w (n + m) cap e
  have hdr : ∀ a v, w.cell? a = some v → w.drew.cell? a = some v := fun _ _ h => h
  have hf := S.cells w.drew hdr
  have hfo : (Builtin.firstCells i.size n (.slice base n cap)).run P w.drew = .ok fx.toArray w.drew := by
    cases base with
    | none =>
      have : fx = [] := List.eq_nil_of_length_eq_zero (by rw [hfx, hb0 rfl]; simp)
      subst this
      simp [Builtin.firstCells]
    | some a => exact run_firstCells_some (P := P) w.drew i.size n a n cap fx hfx (fun j x hx => hdr _ _ (hb a rfl j x hx))
  have hn : ¬ (n + m ≤ cap) := by omega
  have h63' : ¬ (9223372036854775807 < ((n : Int) + (m : Int))) := by simp only [maxLen] at hm63; omega
  have hg := growslice_fits hroom b2
  have h48' : ¬ (281474976710656 < Builtin.nextslicecap (n + m) cap * i.bytes) := by omega
  refine ⟨grownCap w (n + m) cap e, fx.toArray ++ fy.toArray ++ Builtin.zeroCells z.cells (grownCap w (n + m) cap e - (n + m)), w.drew.alloc (.cells (fx.toArray ++ fy.toArray ++ Builtin.zeroCells z.cells (grownCap w (n + m) cap e - (n + m))) e), ?_,
    (Grows.drew w).trans (Grows.alloc _ _), heap_alloc_new w.drew _, ?_, hge, grownCap_le_maxLen w _ cap e hm63, fun k x hx => ?_⟩
  · rcases S.type with ⟨e2, hu⟩ | hu <;> simp [Builtin.append_, run_under ht, run_under hu, sizeOf, typeInfo, zeroValue, hi, hz, S.len, hn, h63', h48', Question.forced, hf, hfo, newRow, grownCap] <;> (congr 2; apply Array.ext'; simp)
  · simp only [Array.size_append, List.size_toArray, zeroCells_size, hzs, hfx, S.size, ← Nat.add_mul]
    congr 1; omega
  · have hk := (List.getElem?_eq_some_iff.1 hx).1
    rw [Array.getElem?_append_left (by simpa using hk)]
    simpa using hx

theorem appendN_sound [DFlag] (hr : HRel P B A0 σ h w) {t u ty : TypeId} {s x r : AV} {h' : H} {us ux : Value} (hu : u = t ∨ isStrT P u = true) (hh : appendN P h t s x = some (r, h')) (rs : Rel P (Alw P B A0 σ h) σ h w s us) (rx : Rel P (Alw P B A0 σ h) σ h w x ux) :
    ∃ v w', (Builtin.append_ #[t, u] ty #[us, ux]).run P w = .ok v w' ∧ Leaves P B A0 σ h w r h' v w' := by
  unfold appendN at hh
  split at hh <;> first | (cases hh; done) | skip
  rename_i e ht
  split at hh <;> first | (cases hh; done) | skip
  rename_i sz by_ hsz hby
  split at hh <;> first | (cases hh; done) | skip
  rename_i hg
  simp only [Bool.or_eq_true, Bool.not_eq_true', beq_iff_eq, not_or, Bool.not_eq_false] at hg
  obtain ⟨hzo, hsz0⟩ := hg
  have h0 : 0 < sz := by omega
  obtain ⟨i, z, hi, hz, hzs⟩ := zeroOk_spec hzo
  have hisz : i.size = sz := by simpa [sizeV, hi] using hsz
  have hiby : i.bytes = by_ := by simpa [bytesV, hi] using hby
  subst hisz hiby
  have hut : (∃ e, P.underlying u = some (.slice e)) ∨ P.underlying u = some .string := by
    rcases hu with rfl | hu
    · exact .inl ⟨e, ht⟩
    · right
      unfold isStrT at hu
      split at hu
      · assumption
      · cases hu
  split at hh <;> first | (cases hh; done) | skip
  rename_i ys m hsrc
  obtain ⟨q1, q2, fy, S, q3⟩ := src_sound (u := u) hr hsrc rx h0 hut
  have hfyl := S.size
  have hone : ∀ y ∈ fy, y.oneCell' = true := fun y hy => by
    obtain ⟨k, hk, rfl⟩ := List.getElem_of_mem hy
    have hc : ys[k]? = some (ys[k]'(by omega)) := List.getElem?_eq_getElem _
    exact rel_one (q3 k _ _ hc (List.getElem?_eq_getElem hk)) (q2 _ (List.getElem_mem _))
  split at hh <;> first | (cases hh; done) | skip
  · rename_i xs
    obtain ⟨base, n, rfl, hd⟩ := rel_full rs
    split at hh
    · rename_i hm0
      subst hm0
      simp only [Option.some.injEq, Prod.mk.injEq] at hh; obtain ⟨rfl, rfl⟩ := hh
      exact ⟨_, w, run_app_nothing ht hi S base n n (Nat.le_refl _), σ, hr, .refl _ _ _, rs⟩
    · rename_i hm0
      split at hh <;> first | (cases hh; done) | skip
      rename_i hc
      obtain ⟨hzx, hfit⟩ := hc
      simp only [Option.some.injEq, Prod.mk.injEq] at hh; obtain ⟨rfl, rfl⟩ := hh
      obtain ⟨fx, fX, hX⟩ := flat_of hd hzx h0
      obtain ⟨k1, k2⟩ := flat_get xs fx fX
      obtain ⟨hn, hbase, hb0⟩ : n = xs.length ∧ (∀ a, base = some a → ∀ (j : Nat) x, fx[j]? = some x → w.cell? (a.add j) = some x) ∧ (base = none → n = 0) := by
        rcases hX with ⟨rfl, e2⟩ | ⟨a, cap, e2, _, _, e3⟩
        · simp only [Value.slice.injEq] at e2
          exact ⟨e2.2.1, (fun a ha => by rw [e2.1] at ha; cases ha), fun _ => e2.2.1⟩
        · simp only [Value.slice.injEq] at e2
          exact ⟨e2.2.1, fun a' ha => by rw [e2.1] at ha; simp only [Option.some.injEq] at ha; subst ha; exact e3, fun e => by rw [e2.1] at e; cases e⟩
      subst hn
      obtain ⟨cap', vs, w', p1, p2, p3, p4, p5, p6, p7⟩ := run_app_fresh (ty := ty) (cap := xs.length) ht hi hz hzs S fX.1 hbase hb0 (by omega) hfit
      have hy : ∀ b, some w.heap.size = some b → w.heap.size ≤ b := fun b hb => by simp only [Option.some.injEq] at hb; omega
      have hlen : (xs.flatMap AV.cells ++ ys).length ≤ vs.size := by
        rw [List.length_append, k1, q1, p4, ← Nat.add_mul]; exact Nat.mul_le_mul_right _ p5
      have hR := HRel.push hr p2 (.cells (xs.flatMap AV.cells ++ ys) .live) (some w.heap.size) hy (fun cs st e => by
        simp only [VObj.cells.injEq] at e; obtain ⟨rfl, rfl⟩ := e
        refine ⟨_, vs, _, rfl, p3, hlen, fun c hc => ?_, fun k c x hc hx => ?_⟩
        · rcases List.mem_append.1 hc with hc | hc
          · obtain ⟨k, hk, rfl⟩ := List.getElem_of_mem hc
            exact (k2 k _ (List.getElem?_eq_getElem hk)).1
          · exact q2 c hc
        · by_cases hk : k < (xs.flatMap AV.cells).length
          · rw [List.getElem?_append_left hk] at hc
            obtain ⟨_, y, y1, y2⟩ := k2 k c hc
            have := p7 k y (by rw [List.getElem?_append_left (by rw [fX.1, ← k1]; exact hk)]; exact y1)
            rw [this] at hx; simp only [Option.some.injEq] at hx; subst hx
            exact .data y2
          · rw [List.getElem?_append_right (by omega)] at hc
            have hky : k - (xs.flatMap AV.cells).length < fy.length := by rw [hfyl, ← q1]; exact (List.getElem?_eq_some_iff.1 hc).1
            have hy2 : fy[k - (xs.flatMap AV.cells).length]? = some (fy[k - (xs.flatMap AV.cells).length]'hky) := List.getElem?_eq_getElem _
            have := p7 k _ (by rw [List.getElem?_append_right (by rw [fX.1, ← k1]; omega), fX.1, ← k1]; exact hy2)
            rw [this] at hx; simp only [Option.some.injEq] at hx; subst hx
            exact q3 _ c _ hc hy2) (fun _ _ e => by cases e)
      refine ⟨_, w', p1, _, hR, Step.push hr p2 _ _ hy, ?_⟩
      exact .msl (by rw [← hr.len, getElem?_push_eq]) ⟨_, _, getElem?_push_eq h _⟩ h0 p5 p6 (fun n hn => by cases hn) ⟨vs, e, _, p3, by rw [p4]; omega⟩
  · rename_i id off sz' n cap
    obtain ⟨b, c, rfl, g1, g2, g3, g4, g5, g6, vw, tw, fw, g7, g8⟩ := rel_msl rs
    split at hh
    · rename_i hm0
      subst hm0
      simp only [Option.some.injEq, Prod.mk.injEq] at hh; obtain ⟨rfl, rfl⟩ := hh
      exact ⟨_, w, run_app_nothing ht hi S _ n c g4, σ, hr, .refl _ _ _, rs⟩
    · rename_i hm0
      split at hh <;> first | (cases hh; done) | skip
      rename_i cs hid
      split at hh <;> first | (cases hh; done) | skip
      rename_i hc
      obtain ⟨rfl, rfl, hc1, hfit⟩ := hc
      simp only [Option.some.injEq, Prod.mk.injEq] at hh; obtain ⟨rfl, rfl⟩ := hh
      obtain ⟨b', vs, tb, k1, k2, k3, k4, k5, k6⟩ := hr.cells id cs _ hid (by simp)
      rw [g1] at k1; simp only [Option.some.injEq] at k1; subst k1
      rw [k3] at g7; simp only [Option.some.injEq, Obj.cells.injEq] at g7
      obtain ⟨rfl, rfl, rfl⟩ := g7
      have hnew : (cs.take (n * i.size) ++ ys).length = n * i.size + m * i.size := by rw [List.length_append, List.length_take, q1]; omega
      have hcell : ∀ c ∈ cs.take (n * i.size) ++ ys, c.one = true := fun c hc => by
        rcases List.mem_append.1 hc with hc | hc
        · exact k5 c (List.mem_of_mem_take hc)
        · exact q2 c hc
      by_cases hroom : n + m ≤ c
      · have hcm : n * i.size + m * i.size ≤ c * i.size := by rw [← Nat.add_mul]; exact Nat.mul_le_mul_right _ hroom
        have hfit2 : 0 + n * i.size + fy.length ≤ vs.size := by omega
        have hrun := run_app_room (ty := ty) ht hi S b 0 n c vs k3 hone hroom hfit2
        have hsz' : (vs.toList.take (0 + n * i.size) ++ fy ++ vs.toList.drop (0 + n * i.size + fy.length)).toArray.size = vs.size := by simp; omega
        have hR := HRel.move (cs' := cs.take (n * i.size) ++ ys) hr hid g1 k3 hsz' (by omega) hcell (fun k x v hx hv => by
          rw [List.getElem?_toArray, getElem?_mid _ _ _ (by simpa using hfit2)] at hv
          rw [Nat.zero_add] at hv
          by_cases hk : k < n * i.size
          · rw [List.getElem?_append_left (by rw [List.length_take]; omega), List.getElem?_take, if_pos hk] at hx
            rw [if_neg (by omega), Array.getElem?_toList] at hv
            exact k6 k x v hx hv
          · rw [List.getElem?_append_right (by rw [List.length_take]; omega), List.length_take, Nat.min_eq_left hc1] at hx
            have := (List.getElem?_eq_some_iff.1 hx).1
            rw [if_pos ⟨by omega, by omega⟩] at hv
            exact q3 _ x v hx hv)
        have st := Step.move (cs' := cs.take (n * i.size) ++ ys) hr hid g1 k3 hsz'
        refine ⟨_, _, hrun, _, hR, st, ?_⟩
        have hnw := getElem?_push_eq (h.set id (.cells cs .dead)) (VObj.cells (cs.take (n * i.size) ++ ys) .live)
        rw [List.length_set] at hnw
        exact .msl (by rw [← hr.len, getElem?_push_eq]) ⟨_, _, hnw⟩ h0 hroom g5 (fun n hn => by cases hn) ⟨_, _, _, setRow_heap w b vs _ _ _ k3, by rw [hsz']; exact g8⟩
      · obtain ⟨cap', vs2, w', p1, p2, p3, p4, p5, p6, p7⟩ := run_app_fresh (ty := ty) (cap := c) (fx := vs.toList.take (n * i.size)) (base := some ⟨b, 0, none⟩) ht hi hz hzs S (by simp; omega) (fun a ha j x hx => by
          simp only [Option.some.injEq] at ha; subst ha
          rw [List.getElem?_take] at hx
          split at hx <;> first | (cases hx; done) | skip
          rw [addr_add, Nat.zero_add, cell_of_row w b j vs tb _ k3, ← Array.getElem?_toList]; exact hx) (fun e => by cases e) (by omega) hfit
        have hkl := Step.kill hr hid
        have hrk := HRel.kill hr hid
        have hy : ∀ b, some w.heap.size = some b → w.heap.size ≤ b := fun b hb => by simp only [Option.some.injEq] at hb; omega
        have hR := HRel.push hrk p2 (.cells (cs.take (n * i.size) ++ ys) .live) (some w.heap.size) hy (fun cs2 st e => by
          simp only [VObj.cells.injEq] at e; obtain ⟨rfl, rfl⟩ := e
          refine ⟨_, vs2, _, rfl, p3, by rw [hnew, p4, ← Nat.add_mul]; exact Nat.mul_le_mul_right _ p5, hcell, fun k x v hx hv => ?_⟩
          by_cases hk : k < n * i.size
          · rw [List.getElem?_append_left (by rw [List.length_take]; omega), List.getElem?_take, if_pos hk] at hx
            have hkv : k < vs.size := by omega
            have hv2 : vs[k]? = some vs[k] := Array.getElem?_eq_getElem hkv
            have := p7 k vs[k] (by rw [List.getElem?_append_left (by simp; omega), List.getElem?_take, if_pos hk, Array.getElem?_toList]; exact hv2)
            rw [this] at hv; simp only [Option.some.injEq] at hv; subst hv
            exact (k6 k x _ hx hv2).step hkl
          · rw [List.getElem?_append_right (by rw [List.length_take]; omega), List.length_take, Nat.min_eq_left hc1] at hx
            have hky : k - n * i.size < fy.length := by rw [hfyl, ← q1]; exact (List.getElem?_eq_some_iff.1 hx).1
            have hy2 : fy[k - n * i.size]? = some (fy[k - n * i.size]'hky) := List.getElem?_eq_getElem _
            have hlt : (vs.toList.take (n * i.size)).length = n * i.size := by simp; omega
            have := p7 k _ (by rw [List.getElem?_append_right (by omega), hlt]; exact hy2)
            rw [this] at hv; simp only [Option.some.injEq] at hv; subst hv
            exact (q3 _ x _ hx hy2).step hkl) (fun _ _ e => by cases e)
        refine ⟨_, w', p1, _, hR, hkl.trans (Step.push hrk p2 _ _ hy), ?_⟩
        have hnw := getElem?_push_eq (h.set id (.cells cs .dead)) (VObj.cells (cs.take (n * i.size) ++ ys) .live)
        rw [List.length_set] at hnw
        exact .msl (by rw [← hr.len, getElem?_push_eq]) ⟨_, _, hnw⟩ h0 p5 p6 (fun n hn => by cases hn) ⟨vs2, e, _, p3, by rw [p4]; omega⟩

/-- Zeros that are appended. -/
theorem appendZ_sound [DFlag] (hr : HRel P B A0 σ h w) {t u ty : TypeId} {s r : AV} {h' : H} {us : Value} {nn : Int} (hu : P.underlying u = some (.int .i64)) (hh : appendZ P h t s nn = some (r, h')) (rs : Rel P (Alw P B A0 σ h) σ h w s us) :
    ∃ v w', (Builtin.append_ #[t, u] ty #[us, .int .i64 nn]).run P w = .ok v w' ∧ Leaves P B A0 σ h w r h' v w' := by
  unfold appendZ at hh
  split at hh <;> first | (cases hh; done) | skip
  rename_i e xs ht
  split at hh <;> first | (cases hh; done) | skip
  rename_i sz by_ z hsz hby hz
  split at hh <;> first | (cases hh; done) | skip
  rename_i hc
  obtain ⟨hzo, h0, hzx, hn0, hfit⟩ := hc
  obtain ⟨i, z0, hi, hz0, hzs⟩ := zeroOk_spec hzo
  have hisz : i.size = sz := by simpa [sizeV, hi] using hsz
  have hiby : i.bytes = by_ := by simpa [bytesV, hi] using hby
  subst hisz hiby
  obtain ⟨v, e1, e2, i2, e3, e4⟩ := zeroV_spec (A := Alw P B A0 σ h) (σ := σ) (h := h) (w := w) hz
  rw [hi] at e3; simp only [Option.some.injEq] at e3; subst e3
  obtain ⟨y1, y2, y3⟩ := one_cells e2 (zeroV_notTuple hz)
  have hvl : v.cells.size = i.size := by omega
  have e1' : (zeroValue e).run P w.drew = .ok v w.drew := by
    simp only [zeroValue, Sem.run_bind, typeInfo, run_program, hi, Result.andThen_ok, hz0, Sem.run_pure] at e1 ⊢
    simpa using e1
  obtain ⟨base, n, rfl, hd⟩ := rel_full rs
  obtain ⟨b1, b2⟩ := bytes_fit hfit
  obtain ⟨m, rfl⟩ : ∃ m : Nat, nn = m := ⟨nn.toNat, by omega⟩
  simp only [Int.toNat_natCast] at *
  obtain ⟨fx, fX, hX⟩ := flat_of hd hzx h0
  obtain ⟨k1, k2⟩ := flat_get xs fx fX
  obtain ⟨hn, hbase, hb0⟩ : n = xs.length ∧ (∀ a, base = some a → ∀ (j : Nat) x, fx[j]? = some x → w.cell? (a.add j) = some x) ∧ (base = none → n = 0) := by
    rcases hX with ⟨rfl, e2⟩ | ⟨a, cap, e2, _, _, e3⟩
    · simp only [Value.slice.injEq] at e2
      exact ⟨e2.2.1, (fun a ha => by rw [e2.1] at ha; cases ha), fun _ => e2.2.1⟩
    · simp only [Value.slice.injEq] at e2
      exact ⟨e2.2.1, fun a' ha => by rw [e2.1] at ha; simp only [Option.some.injEq] at ha; subst ha; exact e3, fun e => by rw [e2.1] at e; cases e⟩
  subst hn
  have hw : IntKind.i64.wrap (m : Int) = m := IntWalk.i64_in _ (by omega)
  have hmb : m * i.bytes ≤ 140737488355328 := by
    have := Nat.mul_le_mul_right i.bytes (show m ≤ xs.length + m by omega); omega
  have hbig : ¬ ((m : Int) * i.bytes > 2 ^ 48) := by
    have : ((m * i.bytes : Nat) : Int) = (m : Int) * i.bytes := by simp
    omega
  split at hh
  · rename_i hm0
    have hm0 : m = 0 := by omega
    subst hm0
    simp only [Option.some.injEq, Prod.mk.injEq] at hh; obtain ⟨rfl, rfl⟩ := hh
    refine ⟨_, w, ?_, σ, hr, .refl _ _ _, rs⟩
    have hw0 : IntKind.i64.wrap 0 = 0 := by simpa using hw
    cases base <;> simp [Builtin.append_, run_under ht, run_under hu, sizeOf, typeInfo, hi, asInt, asIntOf, hw0, storeCells]
  · rename_i hm0
    have hm0 : m ≠ 0 := by omega
    simp only [Option.some.injEq, Prod.mk.injEq] at hh; obtain ⟨rfl, rfl⟩ := hh
    have hm63 : xs.length + m ≤ maxLen := by simp only [maxLen]; omega
    have hge := grownCap_ge w (xs.length + m) xs.length e
    have hfo : (Builtin.firstCells i.size xs.length (.slice base xs.length xs.length)).run P w.drew = .ok fx.toArray w.drew := by
      cases base with
      | none =>
        have hz : xs.length = 0 := hb0 rfl
        have : fx = [] := List.eq_nil_of_length_eq_zero (by rw [fX.1, hz]; simp)
        subst this
        simp [Builtin.firstCells]
      | some a => exact run_firstCells_some (P := P) w.drew i.size xs.length a xs.length xs.length fx fX.1 (fun j x hx => hbase a rfl j x hx)
    have hnl : ¬ (xs.length + m ≤ xs.length) := by omega
    have h63' : ¬ (9223372036854775807 < ((xs.length : Int) + (m : Int))) := by simp only [maxLen] at hm63; omega
    have hg := growslice_fits (show xs.length < xs.length + m by omega) b2
    have h48' : ¬ (281474976710656 < Builtin.nextslicecap (xs.length + m) xs.length * i.bytes) := by omega
    have hms : m * i.size ≠ 0 := Nat.mul_ne_zero hm0 (by omega)
    have hZ : (Builtin.zeroCells v.cells m).size = m * i.size := by rw [zeroCells_size, hvl]
    have hzget : ∀ k, k < m * i.size → (Builtin.zeroCells v.cells m)[k]? = v.cells[k % v.cells.size]? := fun k hk => zipped_get v.cells m (by omega) k (by rw [hvl]; exact hk)
    have hRl : ((List.replicate m z.cells).flatten).length = m * i.size := by simp [List.length_flatten, List.map_replicate, List.sum_replicate_nat, e4]
    generalize hcap : grownCap w (xs.length + m) xs.length e = cap' at hge
    have hcm : cap' ≤ maxLen := by rw [← hcap]; exact grownCap_le_maxLen w _ xs.length e hm63
    let vs := fx.toArray ++ Builtin.zeroCells v.cells m ++ Builtin.zeroCells v.cells (cap' - (xs.length + m))
    have hvs : vs.size = cap' * i.size := by
      simp only [vs, Array.size_append, List.size_toArray, zeroCells_size, hvl, fX.1, ← Nat.add_mul]
      congr 1; omega
    have hrun : (Builtin.append_ #[t, u] ty #[.slice base xs.length xs.length, .int .i64 m]).run P w = .ok (.slice (some ⟨w.heap.size, 0, none⟩) (xs.length + m) cap') (w.drew.alloc (.cells vs e)) := by
      have hcap' : (Question.appendCap (xs.length + m) xs.length e).cut (w.tape w.drawn (Question.appendCap (xs.length + m) xs.length e)) = cap' := by rw [← hcap]; rfl
      have hneg : ¬ ((m : Int) < 0) := by omega
      have hbig' : ¬ (281474976710656 < (m : Int) * i.bytes) := by omega
      simp [Builtin.append_, run_under ht, run_under hu, sizeOf, typeInfo, hi, asInt, asIntOf, hw, hneg, hnl, h63', h48', hbig', hms, Question.forced, hfo, e1', newRow, hcap', vs]
    have hp2 : Grows w (w.drew.alloc (.cells vs e)) := (Grows.drew w).trans (Grows.alloc _ _)
    have hp3 : (w.drew.alloc (.cells vs e)).heap[w.heap.size]? = some (.cells vs e (0, 0)) := heap_alloc_new w.drew _
    have hy : ∀ b, some w.heap.size = some b → w.heap.size ≤ b := fun b hb => by simp only [Option.some.injEq] at hb; omega
    have hlen : (xs.flatMap AV.cells ++ (List.replicate m z.cells).flatten).length ≤ vs.size := by
      rw [List.length_append, k1, hRl, hvs, ← Nat.add_mul]; exact Nat.mul_le_mul_right _ hge
    have hR := HRel.push hr hp2 (.cells (xs.flatMap AV.cells ++ (List.replicate m z.cells).flatten) .live) (some w.heap.size) hy (fun cs st e => by
      simp only [VObj.cells.injEq] at e; obtain ⟨rfl, rfl⟩ := e
      refine ⟨_, vs, _, rfl, hp3, hlen, fun c hc => ?_, fun k c x hc hx => ?_⟩
      · rcases List.mem_append.1 hc with hc | hc
        · obtain ⟨k, hk, rfl⟩ := List.getElem_of_mem hc
          exact (k2 k _ (List.getElem?_eq_getElem hk)).1
        · obtain ⟨l, hl, hc⟩ := List.mem_flatten.1 hc
          rw [(List.mem_replicate.1 hl).2] at hc; exact y2 c hc
      · by_cases hk : k < (xs.flatMap AV.cells).length
        · rw [List.getElem?_append_left hk] at hc
          obtain ⟨_, y, q1, q2⟩ := k2 k c hc
          have hkx : k < fx.length := by rw [fX.1, ← k1]; exact hk
          simp only [vs] at hx
          rw [Array.append_assoc, Array.getElem?_append_left (by simpa using hkx)] at hx
          rw [List.getElem?_toArray, q1] at hx
          simp only [Option.some.injEq] at hx; subst hx
          exact .data q2
        · rw [List.getElem?_append_right (by omega)] at hc
          have hk2 := (List.getElem?_eq_some_iff.1 hc).1
          rw [hRl] at hk2
          rw [flatten_replicate_get z.cells m _ (by rw [e4]; exact hk2)] at hc
          simp only [vs] at hx
          have hfl : fx.length = (xs.flatMap AV.cells).length := by rw [fX.1, k1]
          rw [Array.append_assoc, Array.getElem?_append_right (by rw [List.size_toArray, hfl]; omega), Array.getElem?_append_left (by rw [List.size_toArray, hfl, hZ]; omega)] at hx
          simp only [List.size_toArray, hfl] at hx
          rw [hzget _ hk2, hvl] at hx
          rw [e4] at hc
          exact y3 _ c x hc hx) (fun _ _ e => by cases e)
    refine ⟨_, _, hrun, _, hR, Step.push hr hp2 _ _ hy, ?_⟩
    exact .msl (by rw [← hr.len, getElem?_push_eq]) ⟨_, _, getElem?_push_eq h _⟩ h0 hge hcm (fun n hn => by cases hn) ⟨vs, e, _, hp3, by rw [hvs]; omega⟩
theorem clearV_sound [DFlag] (hr : HRel P B A0 σ h w) {t ty : TypeId} {x : AV} {h' : H} {ux : Value} (hh : clearV P h t x = some h') (rx : Rel P (Alw P B A0 σ h) σ h w x ux) :
    ∃ w', (Builtin.clear_ #[t] ty #[ux]).run P w = .ok (.tuple #[]) w' ∧ HRel P B A0 σ h' w' ∧ Step P B A0 σ h w σ h' w' := by
  unfold clearV at hh
  split at hh <;> first | (cases hh; done) | skip
  · rename_i e ext ht
    simp only [Option.some.injEq] at hh; subst hh
    refine ⟨w, ?_, hr, .refl _ _ _⟩
    rcases irel_isl (rel_isl rx) with ⟨_, base, cap, rfl, _⟩ | ⟨sz', b, o, cap, f, rfl, _⟩
    · cases base <;> simp [Builtin.clear_, run_under ht]
    · simp [Builtin.clear_, run_under ht]
  · rename_i elem id off sz len cap ht
    split at hh <;> first | (cases hh; done) | skip
    rename_i cs z hid hz
    split at hh <;> first | (cases hh; done) | skip
    rename_i hc
    obtain ⟨hsz, hc⟩ := hc
    simp only [Option.some.injEq] at hh; subst hh
    obtain ⟨b, c, rfl, g1, g2, g3, g4, g5, g6, vw, tw, fw, g7, g8⟩ := rel_msl rx
    obtain ⟨b', vs, tb, k1, k2, k3, k4, k5, k6⟩ := hr.cells id cs _ hid (by simp)
    rw [g1] at k1; simp only [Option.some.injEq] at k1; subst k1
    obtain ⟨v, e1, e2, i2, e3, e4⟩ := zeroV_spec (A := Alw P B A0 σ h) (σ := σ) (h := h) (w := w) hz
    obtain ⟨y1, y2, y3⟩ := one_cells e2 (zeroV_notTuple hz)
    have hi2 : i2.size = sz := by have := hsz; simp only [sizeV, e3, Option.map_some, Option.some.injEq] at this; exact this
    have hzl : z.cells.length = sz := by omega
    have hvl : v.cells.size = sz := by omega
    have hZ : (Builtin.zeroCells v.cells len).toList.length = len * sz := by rw [Array.length_toList, zeroCells_size, hvl]
    have hRl : ((List.replicate len z.cells).flatten).length = len * sz := by simp [List.length_flatten, List.map_replicate, List.sum_replicate_nat, hzl]
    have hzget : ∀ k, k < len * sz → (Builtin.zeroCells v.cells len).toList[k]? = v.cells[k % v.cells.size]? := fun k hk => by
      have := zipped_get v.cells len (by omega) k (by rw [hvl]; exact hk)
      rw [Array.getElem?_toList]
      exact this
    by_cases h0 : len = 0
    · subst h0
      refine ⟨w, by simp [Builtin.clear_, run_under ht], ?_⟩
      have e5 : h.set id (.cells (cs.take off ++ (List.replicate 0 z.cells).flatten ++ cs.drop (off + 0 * sz)) .live) = h := by
        simp only [List.replicate_zero, List.flatten_nil, List.append_nil, Nat.zero_mul, Nat.add_zero, List.take_append_drop]
        exact set_same hid
      rw [e5]
      exact ⟨hr, .refl _ _ _⟩
    · have hone : ∀ y ∈ (Builtin.zeroCells v.cells len).toList, y.oneCell' = true := fun y hy => by
        obtain ⟨k, hk, rfl⟩ := List.getElem_of_mem hy
        rw [hZ] at hk
        have hm : k % v.cells.size < v.cells.size := Nat.mod_lt _ (by omega)
        have a1 := hzget k hk
        rw [List.getElem?_eq_getElem (by rw [hZ]; exact hk), Array.getElem?_eq_getElem hm] at a1
        simp only [Option.some.injEq] at a1
        rw [a1]
        exact rel_one (y3 (k % v.cells.size) _ _ (List.getElem?_eq_getElem (by omega)) (Array.getElem?_eq_getElem hm)) (y2 _ (List.getElem_mem (by omega)))
      have hfit : off + 0 + (Builtin.zeroCells v.cells len).toList.length ≤ vs.size := by omega
      have hst := run_storeCells_at P b off tb (Builtin.zeroCells v.cells len).toList 0 vs w k3 hfit hone
      simp only [Nat.add_zero] at hst
      have hsz' : (vs.toList.take off ++ (Builtin.zeroCells v.cells len).toList ++ vs.toList.drop (off + (Builtin.zeroCells v.cells len).toList.length)).toArray.size = vs.size := by
        simp only [List.size_toArray, List.length_append, List.length_take, List.length_drop, Array.length_toList] at hfit ⊢; omega
      have hcs' : cs.take off ++ (List.replicate len z.cells).flatten ++ cs.drop (off + len * sz) = cs.take off ++ (List.replicate len z.cells).flatten ++ cs.drop (off + ((List.replicate len z.cells).flatten).length) := by rw [hRl]
      have hcl : off + ((List.replicate len z.cells).flatten).length ≤ cs.length := by omega
      rw [hcs']
      refine ⟨w.setRow b (vs.toList.take off ++ (Builtin.zeroCells v.cells len).toList ++ vs.toList.drop (off + (Builtin.zeroCells v.cells len).toList.length)).toArray, ?_,
        HRel.write hr hid g1 k3 hsz' (by simp only [List.length_append, List.length_take, List.length_drop]; omega) (fun c hc => ?_) (fun k c y hc hy => ?_), Step.write hr hid g1 k3 hsz'⟩
      · have : ∃ m, len = m + 1 := ⟨len - 1, by omega⟩
        obtain ⟨m, rfl⟩ := this
        simp only [Builtin.clear_, List.getElem?_toArray, List.getElem?_cons_zero, Sem.run_bind, run_under ht, Result.andThen_ok, e1, Sem.run_pure]
        rw [hst]
        rfl
      · obtain ⟨k, hk, rfl⟩ := List.getElem_of_mem hc
        have hc := List.getElem?_eq_getElem hk
        rw [getElem?_mid _ _ _ hcl] at hc
        split at hc
        · rename_i hk2
          rw [flatten_replicate_get z.cells len _ (by rw [hzl]; omega)] at hc
          exact y2 _ (List.mem_of_getElem? hc)
        · exact k5 _ (List.mem_of_getElem? hc)
      · rw [getElem?_mid _ _ _ hcl] at hc
        rw [List.getElem?_toArray, getElem?_mid _ _ _ (by simpa using hfit)] at hy
        rw [hRl] at hc; rw [hZ] at hy
        split at hc
        · rename_i hk
          rw [if_pos hk] at hy
          rw [flatten_replicate_get z.cells len _ (by rw [hzl]; omega)] at hc
          rw [hzget _ (by omega)] at hy
          rw [hvl] at hy; rw [hzl] at hc
          exact y3 _ c y hc hy
        · rename_i hk
          rw [if_neg hk, Array.getElem?_toList] at hy
          exact k6 k c y hc hy

theorem copyV_sound [DFlag] (hr : HRel P B A0 σ h w) {t u ty : TypeId} {d x r : AV} {h' : H} {ud ux : Value} (hu : (∃ e, P.underlying u = some (.slice e)) ∨ P.underlying u = some .string) (hh : copyV P h t d x = some (r, h'))
    (rd : Rel P (Alw P B A0 σ h) σ h w d ud) (rx : Rel P (Alw P B A0 σ h) σ h w x ux) :
    ∃ v w', (Builtin.copy_ #[t, u] ty #[ud, ux]).run P w = .ok v w' ∧ Leaves P B A0 σ h w r h' v w' := by
  unfold copyV at hh
  split at hh <;> first | (cases hh; done) | skip
  rename_i elem id off sz len cap ht
  split at hh <;> first | (cases hh; done) | skip
  rename_i cs ys m hid hsrc
  split at hh <;> first | (cases hh; done) | skip
  rename_i hc
  obtain ⟨hsz, hc⟩ := hc
  simp only [Option.some.injEq, Prod.mk.injEq] at hh; obtain ⟨rfl, rfl⟩ := hh
  obtain ⟨b, c, rfl, g1, g2, g3, g4, g5, g6, vw, tw, fw, g7, g8⟩ := rel_msl rd
  obtain ⟨b', vs, tb, k1, k2, k3, k4, k5, k6⟩ := hr.cells id cs _ hid (by simp)
  rw [g1] at k1; simp only [Option.some.injEq] at k1; subst k1
  obtain ⟨q1, q2, fy, S, q3⟩ := src_sound (u := u) hr hsrc rx g3 hu
  have hmin : Nat.min m len ≤ m := Nat.min_le_left _ _
  have hmin2 : Nat.min m len ≤ len := Nat.min_le_right _ _
  generalize hmn : Nat.min m len = n at *
  have hns : n * sz ≤ len * sz := Nat.mul_le_mul_right _ hmin2
  have hnm : n * sz ≤ m * sz := Nat.mul_le_mul_right _ hmin
  have hfl : (fy.take (n * sz)).length = n * sz := by rw [List.length_take, S.size]; omega
  have hyl : (ys.take (n * sz)).length = n * sz := by rw [List.length_take, q1]; omega
  have hone : ∀ y ∈ fy.take (n * sz), y.oneCell' = true := fun y hy => by
    obtain ⟨k, hk, rfl⟩ := List.getElem_of_mem (List.mem_of_mem_take hy)
    have hsl := S.size
    have hc : ys[k]? = some (ys[k]'(by omega)) := List.getElem?_eq_getElem _
    exact rel_one (q3 k _ _ hc (List.getElem?_eq_getElem hk)) (q2 _ (List.getElem_mem _))
  have hfit : off + 0 + (fy.take (n * sz)).length ≤ vs.size := by omega
  have hst := run_storeCells_at P b off tb (fy.take (n * sz)) 0 vs w k3 hfit hone
  simp only [Nat.add_zero] at hst
  have hsz' : (vs.toList.take off ++ fy.take (n * sz) ++ vs.toList.drop (off + (fy.take (n * sz)).length)).toArray.size = vs.size := by
    simp only [List.size_toArray, List.length_append, List.length_take, List.length_drop, Array.length_toList] at hfl ⊢; omega
  have hcs' : cs.take off ++ ys.take (n * sz) ++ cs.drop (off + n * sz) = cs.take off ++ ys.take (n * sz) ++ cs.drop (off + (ys.take (n * sz)).length) := by rw [hyl]
  have hcl : off + (ys.take (n * sz)).length ≤ cs.length := by omega
  rw [hcs']
  refine ⟨.int .i64 n, w.setRow b (vs.toList.take off ++ fy.take (n * sz) ++ vs.toList.drop (off + (fy.take (n * sz)).length)).toArray, ?_, σ,
    HRel.write hr hid g1 k3 hsz' (by simp only [List.length_append, List.length_take, List.length_drop] at hcl ⊢; omega) (fun c hc => ?_) (fun k c y hc hy => ?_), Step.write hr hid g1 k3 hsz', .data (.int _ _)⟩
  · have hcells := S.short n hmin w (fun _ _ h => h)
    simp only [Builtin.copy_, List.getElem?_toArray, List.getElem?_cons_zero, List.getElem?_cons_succ, Sem.run_bind, run_under ht, Result.andThen_ok, S.len, Sem.run_pure, run_sizeOf hsz, hmn, hcells]
    rw [hst]
    rfl
  · obtain ⟨k, hk, rfl⟩ := List.getElem_of_mem hc
    have hc := List.getElem?_eq_getElem hk
    rw [getElem?_mid _ _ _ hcl] at hc
    split at hc
    · exact q2 _ (List.mem_of_mem_take (List.mem_of_getElem? hc))
    · exact k5 _ (List.mem_of_getElem? hc)
  · rw [getElem?_mid _ _ _ hcl] at hc
    rw [List.getElem?_toArray, getElem?_mid _ _ _ (by simpa using hfit)] at hy
    rw [hyl] at hc; rw [hfl] at hy
    split at hc
    · rename_i hk
      rw [if_pos hk] at hy
      rw [List.getElem?_take] at hc hy
      split at hc <;> first | (cases hc; done) | skip
      rename_i hk2
      rw [if_pos hk2] at hy
      exact q3 _ c y hc hy
    · rename_i hk
      rw [if_neg hk, Array.getElem?_toList] at hy
      exact k6 k c y hc hy
end
end Go.V
