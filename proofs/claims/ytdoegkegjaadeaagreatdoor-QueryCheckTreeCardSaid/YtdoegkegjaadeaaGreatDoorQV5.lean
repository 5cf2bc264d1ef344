/- Slices' slices, len, min and max, composite values; and all operations that look at their operands alone. -/
import Derived.Test.YtdoegkegjaadeaaGreatDoorQV4
namespace Go.V
open Go

section
variable {P : Program} {A : Nat → Nat → Prop} {σ : List (Option Nat)} {h : H} {w : World}

def ORel (P : Program) (A : Nat → Nat → Prop) (σ : List (Option Nat)) (h : H) (w : World) : Option AV → Option Value → Prop
  | none, none => True
  | some a, some v => Rel P A σ h w a v
  | _, _ => False

theorem bndV_sound {limit y m : Nat} {x : AV} {u : Value} {code : BoundsCode} (hh : bndV limit x = some m) (r : Rel P A σ h w x u) (hy : limit ≤ y) :
    (Instr.sliceBound u y code).run P w = .ok m w ∧ m ≤ limit := by
  unfold bndV at hh
  split at hh <;> first | (cases hh; done) | skip
  split at hh <;> first | (cases hh; done) | skip
  rename_i k n hb
  simp only [Option.some.injEq] at hh; subst hh
  rw [rel_int r]
  exact ⟨run_sliceBound w k n y code hb.1 (by omega), by omega⟩

theorem run_bounds {isS : Bool} {len cap hh l : Nat} {lo hi : Option AV} {lv hv : Option Value} (h1 : bndO len len hi = some hh) (h2 : bndO hh 0 lo = some l)
    (r1 : ORel P A σ h w lo lv) (r2 : ORel P A σ h w hi hv) (hc : len ≤ cap) :
    (Instr.sliceBounds isS len cap lv hv none).run P w = .ok (l, hh, cap) w ∧ l ≤ hh ∧ hh ≤ len := by
  have e2 : (∀ c : BoundsCode, (match hv with | some v => Instr.sliceBound v cap c | none => pure len : Sem Nat).run P w = .ok hh w) ∧ hh ≤ len := by
    cases hi <;> cases hv <;> simp only [ORel] at r2
    · simp only [bndO, Option.some.injEq] at h1; subst h1; exact ⟨fun _ => rfl, Nat.le_refl _⟩
    · simp only [bndO] at h1
      exact ⟨fun c => (bndV_sound h1 r2 hc).1, (bndV_sound (code := .sliceB) h1 r2 hc).2⟩
  have e3 : (∀ c : BoundsCode, (match lv with | some v => Instr.sliceBound v hh c | none => pure 0 : Sem Nat).run P w = .ok l w) ∧ l ≤ hh := by
    cases lo <;> cases lv <;> simp only [ORel] at r1
    · simp only [bndO, Option.some.injEq] at h2; subst h2; exact ⟨fun _ => rfl, Nat.zero_le _⟩
    · simp only [bndO] at h2
      exact ⟨fun c => (bndV_sound h2 r1 (Nat.le_refl _)).1, (bndV_sound (code := .sliceB) h2 r1 (Nat.le_refl _)).2⟩
  refine ⟨?_, e3.2, e2.2⟩
  cases hv <;> cases lv <;> simp_all [Instr.sliceBounds]

theorem run_bounds3 {isS : Bool} {len cap m hh l : Nat} {lo : Option AV} {ha ma : AV} {lv : Option Value} {hv mv : Value} (h0 : bndV len ma = some m) (h1 : bndV m ha = some hh) (h2 : bndO hh 0 lo = some l)
    (r1 : ORel P A σ h w lo lv) (r2 : Rel P A σ h w ha hv) (r3 : Rel P A σ h w ma mv) (hc : len ≤ cap) :
    (Instr.sliceBounds isS len cap lv (some hv) (some mv)).run P w = .ok (l, hh, m) w ∧ l ≤ hh ∧ hh ≤ m ∧ m ≤ len := by
  have e1 := fun c => bndV_sound (code := c) h0 r3 hc
  have e2 := fun c => bndV_sound (code := c) h1 r2 (Nat.le_refl _)
  have e3 : (∀ c : BoundsCode, (match lv with | some v => Instr.sliceBound v hh c | none => pure 0 : Sem Nat).run P w = .ok l w) ∧ l ≤ hh := by
    cases lo <;> cases lv <;> simp only [ORel] at r1
    · simp only [bndO, Option.some.injEq] at h2; subst h2; exact ⟨fun _ => rfl, Nat.zero_le _⟩
    · simp only [bndO] at h2
      exact ⟨fun c => (bndV_sound h2 r1 (Nat.le_refl _)).1, (bndV_sound (code := .sliceB) h2 r1 (Nat.le_refl _)).2⟩
  refine ⟨?_, e3.2, (e2 .sliceB).2, (e1 .sliceB).2⟩
  cases lv <;> simp_all [Instr.sliceBounds]

theorem run_slice_of {t elem : TypeId} {a : Option Addr} {len cap l hh m sz : Nat} {lv hv mv : Option Value} (hu : P.underlying t = some (.slice elem)) (hs : sizeV P elem = some sz)
    (hb : (Instr.sliceBounds true len cap lv hv mv).run P w = .ok (l, hh, m) w) :
    (Instr.sliceAt t (.slice a len cap) lv hv mv).run P w = .ok (.slice (if m = l then a else a.map (·.add (l * sz))) (hh - l) (m - l)) w := by
  simp only [Instr.sliceAt, Sem.run_bind, run_under hu, Result.andThen_ok, Instr.slice, hb, run_sizeOf hs, Sem.run_pure]

/-- A part of a row of values. -/
theorem irel_sub {es : List AV} {v : Value} {l hh m sz : Nat} (r : IRel A w (.isl es .unk) v) (hl : l ≤ hh) (hh' : hh ≤ es.length) (hz : szOk sz es = true) :
    ∃ a len cap, v = .slice a len cap ∧ len = es.length ∧ len ≤ cap ∧ cap ≤ maxLen ∧ (hh ≤ m → m ≤ cap → IRel A w (.isl ((es.take hh).drop l) .unk) (.slice (if m = l then a else a.map (·.add (l * sz))) (hh - l) (m - l))) := by
  rcases irel_isl r with ⟨rfl, base, cap, rfl, hm, hn⟩ | ⟨sz', b, o, cap, f, rfl, g1, g2, g3, g4, g5, g6, g7⟩
  · refine ⟨base, 0, cap, rfl, rfl, Nat.zero_le _, hm, fun h1 h2 => ?_⟩
    have : l = 0 := by simp at hh'; omega
    have : hh = 0 := by simpa using hh'
    subst_vars
    simp only [List.take_nil, List.drop_nil, Nat.sub_zero]
    cases base with
    | none =>
      have := hn rfl
      have : m = 0 := by omega
      subst this
      exact .islNil
    | some a =>
      split
      · exact .islEmpty a m (by omega)
      · exact .islEmpty _ m (by omega)
  · refine ⟨_, _, _, rfl, rfl, g2, g3, fun h1 h2 => ?_⟩
    have hlen : ((es.take hh).drop l).length = hh - l := by simp; omega
    have hget : ∀ i : Nat, ((es.take hh).drop l)[i]? = if i < hh - l then es[l + i]? else none := fun i => by
      rw [List.getElem?_drop, List.getElem?_take]
      by_cases hi : i < hh - l
      · rw [if_pos hi, if_pos (by omega)]
      · rw [if_neg hi, if_neg (by omega)]
    have hmem : ∀ e ∈ (es.take hh).drop l, e ∈ es := fun e he => List.mem_of_mem_take (List.mem_of_mem_drop he)
    have hsz : es ≠ [] → sz' = sz := fun hne => by
      cases es with
      | nil => exact absurd rfl hne
      | cons e es => simp only [szOk, beq_iff_eq] at hz; rw [← hz]; exact (g4 e (by simp)).1.symm
    by_cases hml : m = l
    · have he : (es.take hh).drop l = [] := List.eq_nil_of_length_eq_zero (by omega)
      rw [if_pos hml, he]
      have := IRel.isl (A := A) (w := w) (es := []) (sz := 1) (b := b) (o := o) (cap := m - l) (fun _ _ => undef) (by omega) (by simp) (by omega) (by simp) (by simp) (by simp) (by simp)
      simpa [show hh - l = 0 by omega] using this
    · rw [if_neg hml]
      simp only [Option.map_some, addr_add]
      by_cases hne : es = []
      · subst hne
        have : hh - l = 0 := by simp at hh'; omega
        rw [this]
        have := IRel.isl (A := A) (w := w) (es := []) (sz := 1) (b := b) (o := o + l * sz) (cap := m - l) (fun _ _ => undef) (by omega) (by simp) (by omega) (by simp) (by simp) (by simp) (by simp)
        simpa using this
      · have hs := hsz hne
        subst hs
        rw [← hlen]
        refine IRel.isl (fun i j => f (l + i) j) g1 (by omega) (by omega) (fun e he => g4 e (hmem e he)) (fun e he => g5 e (hmem e he)) (fun i j e c he hc => ?_) (fun i j e c he hc => ?_)
        · rw [hget] at he
          split at he <;> first | (cases he; done) | skip
          have := g6 (l + i) j e c he hc
          rw [Nat.add_mul, ← Nat.add_assoc] at this
          exact this
        · rw [hget] at he
          split at he <;> first | (cases he; done) | skip
          exact g7 (l + i) j e c he hc

theorem rel_full {es : List AV} {v : Value} (r : Rel P A σ h w (.isl es .full) v) : ∃ base n, v = .slice base n n ∧ IRel A w (.isl es .unk) v := by
  cases r with
  | data r => cases r
  | full hd => exact ⟨_, _, rfl, hd⟩

theorem run_str_slice {t : TypeId} {s : ByteArray} {l hh m : Nat} {lv hv : Option Value} (hu : P.underlying t = some .string)
    (hb : (Instr.sliceBounds false s.size s.size lv hv none).run P w = .ok (l, hh, m) w) :
    (Instr.sliceAt t (.string s) lv hv none).run P w = .ok (.string (s.extract l hh)) w := by
  simp only [Instr.sliceAt, Sem.run_bind, run_under hu, Result.andThen_ok, Instr.slice, Option.isSome_none, Bool.false_eq_true, if_false, Sem.run_pure, hb]

theorem sliceV_sound {t : TypeId} {x r : AV} {lo hi mx : Option AV} {u : Value} {lv hv mv : Option Value} (hh : sliceV P t x lo hi mx = some r) (ra : Rel P A σ h w x u)
    (r1 : ORel P A σ h w lo lv) (r2 : ORel P A σ h w hi hv) (r3 : ORel P A σ h w mx mv) :
    ∃ z, (Instr.sliceAt t u lv hv mv).run P w = .ok z w ∧ Rel P A σ h w r z := by
  unfold sliceV at hh
  split at hh <;> first | (cases hh; done) | skip
  · -- a row of values, no third bound
    rename_i elem es e hu
    cases mv <;> simp only [ORel] at r3
    split at hh <;> first | (cases hh; done) | skip
    rename_i sz hb hsz h1
    split at hh <;> first | (cases hh; done) | skip
    rename_i l h2
    split at hh <;> first | (cases hh; done) | skip
    rename_i hz
    simp only [Bool.not_eq_true, Bool.not_eq_false'] at hz
    have hz' : szOk sz es = true := by simpa using hz
    have b0 : l ≤ hb ∧ hb ≤ es.length := (run_bounds (isS := true) (cap := es.length) h1 h2 r1 r2 (Nat.le_refl _)).2
    obtain ⟨a, len, cap, rfl, rfl, g1, g2, g3⟩ := irel_sub (l := l) (hh := hb) (m := (match u with | .slice _ _ c => c | _ => 0)) (rel_isl ra) b0.1 b0.2 hz'
    have hbn := run_bounds (isS := true) (cap := cap) h1 h2 r1 r2 g1
    refine ⟨_, run_slice_of hu hsz hbn.1, ?_⟩
    split at hh
    · rename_i hc
      obtain ⟨rfl, rfl⟩ := hc
      simp only [Option.some.injEq] at hh; subst hh
      have e1 : (if cap = 0 then a else a.map (·.add (0 * sz))) = a := by
        split
        · rfl
        · cases a <;> simp [Addr.add]
      rw [e1]
      simpa using ra
    · simp only [Option.some.injEq] at hh; subst hh
      have g := g3 (by dsimp; omega) (by dsimp; omega)
      dsimp at g
      split
      · rename_i hc
        obtain ⟨rfl, rfl⟩ := hc
        obtain ⟨base, n, e1, _⟩ := rel_full ra
        cases e1
        exact .full g
      · exact .data g
  · rename_i elem es e m hu
    cases mv <;> simp only [ORel] at r3
    split at hh <;> first | (cases hh; done) | skip
    rename_i sz mm hsz h0
    split at hh <;> first | (cases hh; done) | skip
    rename_i ha
    cases hv <;> simp only [ORel] at r2
    split at hh <;> first | (cases hh; done) | skip
    rename_i hb h1
    split at hh <;> first | (cases hh; done) | skip
    rename_i l h2
    split at hh <;> first | (cases hh; done) | skip
    rename_i hz
    have hz' : szOk sz es = true := by simpa using hz
    simp only [Option.some.injEq] at hh; subst hh
    have b0 := (run_bounds3 (isS := true) (cap := es.length) h0 h1 h2 r1 r2 r3 (Nat.le_refl _)).2
    obtain ⟨a, len, cap, rfl, rfl, g1, g2, g3⟩ := irel_sub (l := l) (hh := hb) (m := mm) (rel_isl ra) b0.1 (by omega) hz'
    have hbn := run_bounds3 (isS := true) (cap := cap) h0 h1 h2 r1 r2 r3 g1
    refine ⟨_, run_slice_of hu hsz hbn.1, ?_⟩
    have g := g3 (by omega) (by omega)
    split
    · rename_i hc; subst hc; exact .full g
    · exact .data g
  · rename_i elem id off sz len cap hu
    cases mv <;> simp only [ORel] at r3
    split at hh <;> first | (cases hh; done) | skip
    rename_i hsz
    split at hh <;> first | (cases hh; done) | skip
    rename_i hb h1
    split at hh <;> first | (cases hh; done) | skip
    rename_i l h2
    obtain ⟨b, c, rfl, g1, g2, g3, g4, g5, g6, vw, tw, fw, g7, g8⟩ := rel_msl ra
    have hbn := run_bounds (isS := true) (cap := c) h1 h2 r1 r2 g4
    have hlh : l ≤ hb := by have := hbn.2; omega
    have hhl : hb ≤ len := by have := hbn.2; omega
    have hlc : l * sz + (c - l) * sz = c * sz := by rw [← Nat.add_mul]; congr 1; omega
    have hwl : off + l * sz + (c - l) * sz ≤ vw.size := by omega
    refine ⟨_, run_slice_of hu hsz hbn.1, ?_⟩
    split at hh
    · rename_i c'
      have := g6 _ rfl
      subst this
      simp only [Option.some.injEq] at hh; subst hh
      by_cases hc : c = l
      · rw [if_pos hc, if_pos hc]
        exact .msl g1 g2 g3 (by omega) (by omega) (fun n hn => by simpa using hn) ⟨vw, tw, fw, g7, by omega⟩
      · rw [if_neg hc, if_neg hc]
        simp only [Option.map_some, addr_add]
        exact .msl g1 g2 g3 (by omega) (by omega) (fun n hn => by simpa using hn) ⟨vw, tw, fw, g7, by omega⟩
    · split at hh
      · rename_i hl0
        subst hl0
        simp only [Option.some.injEq] at hh; subst hh
        have e1 : (if c = 0 then some (⟨b, off, none⟩ : Addr) else (some (⟨b, off, none⟩ : Addr)).map (·.add (0 * sz))) = some ⟨b, off, none⟩ := by
          split
          · rfl
          · simp [Addr.add]
        rw [e1]
        exact .msl g1 g2 g3 (by omega) (by omega) (fun n hn => by cases hn) ⟨vw, tw, fw, g7, by simpa using hwl⟩
      · split at hh
        · rename_i hll
          simp only [Option.some.injEq] at hh; subst hh
          rw [if_neg (show ¬ c = l by omega)]
          simp only [Option.map_some, addr_add]
          exact .msl g1 g2 g3 (by omega) (by omega) (fun n hn => by cases hn) ⟨vw, tw, fw, g7, by omega⟩
        · simp only [Option.some.injEq] at hh; subst hh
          have e1 : hb - l = 0 := by omega
          rw [e1]
          refine .data ?_
          by_cases hc : c = l
          · rw [if_pos hc]; exact .islEmpty _ _ (by omega)
          · rw [if_neg hc]; exact .islEmpty _ _ (by omega)
  · rename_i elem id off sz len cap m hu
    cases mv <;> simp only [ORel] at r3
    split at hh <;> first | (cases hh; done) | skip
    rename_i hsz
    split at hh <;> first | (cases hh; done) | skip
    rename_i mm h0
    split at hh <;> first | (cases hh; done) | skip
    rename_i ha
    cases hv <;> simp only [ORel] at r2
    split at hh <;> first | (cases hh; done) | skip
    rename_i hb h1
    split at hh <;> first | (cases hh; done) | skip
    rename_i l h2
    obtain ⟨b, c, rfl, g1, g2, g3, g4, g5, g6, vw, tw, fw, g7, g8⟩ := rel_msl ra
    have b0 := (run_bounds3 (isS := true) (cap := len) h0 h1 h2 r1 r2 r3 (Nat.le_refl _)).2
    have hbn := run_bounds3 (isS := true) (cap := c) h0 h1 h2 r1 r2 r3 g4
    refine ⟨_, run_slice_of hu hsz hbn.1, ?_⟩
    split at hh
    · rename_i hc
      simp only [Option.some.injEq] at hh; subst hh
      subst hc
      have e1 : hb - mm = 0 := by omega
      rw [e1, Nat.sub_self, if_pos rfl]
      exact .full (.islEmpty _ _ (by simp [maxLen]))
    · rename_i hc
      simp only [Option.some.injEq] at hh; subst hh
      rw [if_neg (show ¬ mm = l from hc)]
      simp only [Option.map_some, addr_add]
      have hle : (mm - l) * sz ≤ (c - l) * sz := Nat.mul_le_mul_right _ (by omega)
      have hlc : l * sz + (c - l) * sz = c * sz := by rw [← Nat.add_mul]; congr 1; omega
      exact .msl g1 g2 g3 (by omega) (by omega) (fun n hn => by simpa using hn) ⟨vw, tw, fw, g7, by omega⟩
  · rename_i b hu
    cases mv <;> simp only [ORel] at r3
    split at hh <;> first | (cases hh; done) | skip
    rename_i hb h1
    split at hh <;> first | (cases hh; done) | skip
    rename_i l h2
    simp only [Option.some.injEq] at hh; subst hh
    rw [rel_str ra]
    exact ⟨_, run_str_slice hu (run_bounds (isS := false) h1 h2 r1 r2 (Nat.le_refl _)).1, .data (.str _)⟩

theorem capV_sound {t ty : TypeId} {x r : AV} {u : Value} (hh : capV P t x = some r) (ra : Rel P A σ h w x u) : ∃ z, (Builtin.cap_ #[t] ty #[u]).run P w = .ok z w ∧ Rel P A σ h w r z := by
  unfold capV at hh
  split at hh <;> first | (cases hh; done) | skip
  · rename_i elem es hu
    simp only [Option.some.injEq] at hh; subst hh
    obtain ⟨base, n, rfl, hd⟩ := rel_full ra
    have hn : n = es.length := by
      rcases irel_isl hd with ⟨h1, _, _, e2, _⟩ | ⟨sz', b, o, cap, f, e2, _⟩
      · simp only [Value.slice.injEq] at e2
        rw [h1]; exact e2.2.1
      · simp only [Value.slice.injEq] at e2
        exact e2.2.1
    subst hn
    exact ⟨_, by simp [Builtin.cap_, run_under hu, goInt], .data (.int _ _)⟩
  · rename_i elem id off sz len c hu
    simp only [Option.some.injEq] at hh; subst hh
    obtain ⟨b, c, rfl, g1, g2, g3, g4, g5, g6, _⟩ := rel_msl ra
    have := g6 _ rfl; subst this
    exact ⟨_, by simp [Builtin.cap_, run_under hu, goInt], .data (.int _ _)⟩
theorem lenV_sound {t ty : TypeId} {x r : AV} {u : Value} (hh : lenV P t x = some r) (ra : Rel P A σ h w x u) : ∃ z, (Builtin.len_ #[t] ty #[u]).run P w = .ok z w ∧ Rel P A σ h w r z := by
  unfold lenV at hh
  split at hh <;> first | (cases hh; done) | skip
  all_goals (rename_i hu; simp only [Option.some.injEq] at hh; subst hh)
  · rcases irel_isl (rel_isl ra) with ⟨rfl, _, _, rfl, _⟩ | ⟨sz', b, o, cap, f, rfl, _⟩
    · exact ⟨_, by simp [Builtin.len_, run_under hu, goInt], .data (.int _ _)⟩
    · exact ⟨_, by simp [Builtin.len_, run_under hu, goInt], .data (.int _ _)⟩
  · obtain ⟨b, c, rfl, _⟩ := rel_msl ra
    exact ⟨_, by simp [Builtin.len_, run_under hu, goInt], .data (.int _ _)⟩
  · rw [rel_str ra]
    exact ⟨_, by simp [Builtin.len_, run_under hu, goInt], .data (.int _ _)⟩
  · exact ⟨_, by simp [Builtin.len_, run_under hu, goInt], .data (.int _ _)⟩
end
end Go.V
