/- Inject, of the program: walked. -/
import Derived.Test.YtdoegkegjaadeaaGreatDoorEScd
namespace Go.VZ
open Go Go.V Go.Proofs TL
@[go_sem] theorem nt_msl (a b c d : Nat) (e : Option Nat) : notTuple (.msl a b c d e) = true := (rfl)
@[go_sem] theorem nt_mo (l : List Mo) : notTuple (moments l) = true := (rfl)
@[go_sem] theorem nt_ints (l : List Int) : notTuple (ints l) = true := (rfl)
theorem bld136 (l : List Mo) (cl : List Int) (o n : Nat) (c : Option Nat) : buildV C.P 136 [(0, moments l), (1, ints cl), (2, .msl o 0 1 n c)] = some (.agg [moments l, ints cl, .msl o 0 1 n c]) := by kernel_rfl
theorem box136 (l : List Mo) (cl : List Int) (o n : Nat) (c : Option Nat) (h : H) : boxV C.P h 136 (.agg [moments l, ints cl, .msl o 0 1 n c]) = some (.ptr h.length 0, h ++ [.cells [moments l, ints cl, .msl o 0 1 n c] .live]) := by
  have : sizeV C.P 136 = some 3 := by kernel_rfl
  simp [boxV, cells_agg, this, notTuple]
@[go_sem] theorem is47 : isSliceT C.P 47 = some 3 := by kernel_rfl
def stc (l : List Mo) (cl : List Int) : VObj := .cells [moments l, ints cl, .msl 1 0 1 l.length (some l.length)] .live
/-- A row of numbers, or the row of none. -/
def ResRow (h : H) (v : AV) (n : Nat) : Prop := (n = 0 ∧ ∃ x, v = .isl [] x) ∨ ∃ id res, 1 < id ∧ res.length = n ∧ v = .msl id 0 1 n (some n) ∧ h[id]? = some (.cells (intC res) .live)
theorem snap_res {h : H} {v : AV} {n : Nat} (r : ResRow h v n) (hn : n ≤ 80000) (b : Bool) : ∃ x, snap (freezeAll h) deep (.tuple [v, .bool b]) = some (.tuple [x, .bool b]) := by
  rcases r with ⟨_, x, rfl⟩ | ⟨id, res, _, hl, rfl, hid⟩
  · exact ⟨_, snap_tuple rfl rfl (by simp)⟩
  · have e1 := freezeAll_cells hid
    have hd : dats (intC res) = some (intC res) := by
      clear hid e1 hl
      induction res with
      | nil => rfl
      | cons a l ih => simp only [intC, List.map_cons] at ih ⊢; simp only [dats, dat, dat1, ih]
    have hsh : (intC res).all short = true := by simp [intC, short]
    have hil : (intC res).length = n := by simp [intC, hl]
    have e2 := (dats_snap (h := freezeAll h) hd hsh 999990 (by omega)).1
    have key : ∀ m, snaps (freezeAll h) m (intC res) = some (intC res) → snap (freezeAll h) (m + 3) (.tuple [.msl id 0 1 n (some n), .bool b]) = some (.tuple [.isl (chunk 1 n (intC res)) .unk, .bool b]) := by
      intro m hm
      have k1 : snap (freezeAll h) (m + 1) (.msl id 0 1 n (some n)) = some (.isl (chunk 1 n (intC res)) .unk) := by
        simp only [snap, e1, hm]
        rw [if_pos (by omega), List.drop_zero]
      have k2 : ∀ j, snap (freezeAll h) (j + 1) (.bool b) = some (.bool b) := fun _ => rfl
      have k4 : snap (freezeAll h) (m + 3) (.tuple [.msl id 0 1 n (some n), .bool b]) = (match snaps (freezeAll h) (m + 2) [.msl id 0 1 n (some n), .bool b] with
        | some l => some (.tuple l)
        | none => none) := rfl
      rw [k4]
      cases m with
      | zero => simp [snaps] at hm
      | succ m => simp only [snaps, k1, k2]
    refine ⟨_, key 999997 ?_⟩
    exact (dats_snap (h := freezeAll h) hd hsh 999997 (by omega)).1
def NI45 (l : List Mo) (cl : List Int) (m : Nat) (st : PT) (h : H) : Prop := ∃ k : Nat, m = l.length - k ∧ k ≤ l.length ∧ h = [.tok 0 3, .cells (intC (List.replicate k (-1) ++ List.replicate (l.length - k) 0)) .live, stc l cl] ∧ st.get 0 = moments l ∧ st.get 1 = ints cl ∧ st.get 6 = .ptr 2 0 ∧ st.get 24 = .int .i64 l.length ∧ st.get 25 = .int .i64 k
def NJ45 (l : List Mo) (cl : List Int) (T : Bool × List Int) (m : Nat) (st : PT) (h : H) : Prop := ∃ (i : Nat) (ow : List Int), m = cl.length - i ∧ i ≤ cl.length ∧ h[1]? = some (.cells (intC ow) .live) ∧ h[2]? = some (stc l cl) ∧ ow.length = l.length ∧ (∀ x ∈ ow, x < cl.length) ∧ st.get 0 = moments l ∧ st.get 1 = ints cl ∧ st.get 6 = .ptr 2 0 ∧ st.get 35 = ints cl ∧ st.get 36 = .int .i64 cl.length ∧ st.get 37 = .int .i64 i ∧ poss l cl (cl.length - i) i ow = T
def NK45 (l : List Mo) (cl : List Int) (v : AV) (m : Nat) (st : PT) (h : H) : Prop := ∃ (k : Nat) (ow : List Int), m = l.length - k ∧ k ≤ l.length ∧ h[1]? = some (.cells (intC ow) .live) ∧ ow.length = l.length ∧ (∀ x ∈ ow, x < cl.length) ∧ st.get 10 = v ∧ st.get 62 = .msl 1 0 1 l.length (some l.length) ∧ st.get 63 = .int .i64 l.length ∧ st.get 64 = .int .i64 k ∧ ResRow h v cl.length
set_option maxRecDepth 8000 in
set_option maxHeartbeats 4000000 in
theorem inject45 (l : List Mo) (cl : List Int) (hs : smallM l) (hl : l.length < 1000000) (hc : cl.length ≤ 80000) (h0 : 0 < l.length) : ∃ r h', Go.V.Call C 45 [moments l, ints cl] [] = some (r, h') ∧ ∃ x, snap (freezeAll h') deep r = some (.tuple [x, .bool (possible l cl).1]) := by
  refine Call_WQ (Q := fun r h' => ∃ x, snap (freezeAll h') deep r = some (.tuple [x, .bool (possible l cl).1])) rfl Tryz.func45 rfl (by kernel_rfl) (by simp [Tryz.f45]) fun R hR => ?_
  have fin : ∀ (st : PT) (h : H) (v : AV) (b : Bool), st.get 4 = v → st.get 5 = .bool b → b = (possible l cl).1 → (∃ x, snap (freezeAll h) deep (.tuple [v, .bool b]) = some (.tuple [x, .bool b])) → R .ret st h := fun st h v b h4 h5 hb hx => hR _ _ _ (.inr rfl) ⟨.tuple [v, .bool b], by simp [resultV, resV, resVs, Tryz.f45, h4, h5], by rw [← hb]; exact hx⟩
  have k1 := mk47 [.tok 0 3] l.length h0 (by omega)
  have b1 := bld136 l cl
  have b2 := box136 l cl
  simp [go_sem, initS, len50', k1, b1, b2]
  have q1 : ∀ (x y : VObj), loadV C.P [x, y, .cells [moments l, ints cl, .msl 1 0 1 l.length (some l.length)] .live] 47 (.ptr 2 2) = some (.msl 1 0 1 l.length (some l.length)) := fun x y => (ldP (h := [x, y, .cells [moments l, ints cl, .msl 1 0 1 l.length (some l.length)] .live]) (p := 2) rfl).2.2
  simp [go_sem, q1, lenO]
  refine W_loop (NI45 l cl) l.length ⟨0, rfl, Nat.zero_le _, by simp [stc], by simp [go_sem, initS], by simp [go_sem, initS], by simp [go_sem], by simp [go_sem], by simp [go_sem]⟩ ?_
  rintro m st h ⟨k, rfl, hk, rfl, g0, g1, g6, g24, g25⟩
  by_cases hlt : k < l.length
  · have hlt' : (k : Int) < l.length := by omega
    have w2 : IntKind.i64.wrap ((k : Int) + 1) = ((k + 1 : Nat) : Int) := by rw [wrap_in (by omega)]; omega
    have e1 := idxO (o := 1) (c := some l.length) hlt
    obtain ⟨hh, ehh⟩ : ∃ g : H, g = [.tok 0 3, .cells (intC (List.replicate k (-1) ++ List.replicate (l.length - k) 0)) .live, stc l cl] := ⟨_, rfl⟩
    have e2 := stO (h := hh) (o := 1) (k := k) (l := List.replicate k (-1) ++ List.replicate (l.length - k) 0) (-1) (by rw [ehh]; rfl) (by simp; omega)
    rw [rep_set hlt] at e2
    have e3 : hh.set 1 (.cells (intC (List.replicate (k + 1) (-1) ++ List.replicate (l.length - (k + 1)) 0)) .live) = [.tok 0 3, .cells (intC (List.replicate (k + 1) (-1) ++ List.replicate (l.length - (k + 1)) 0)) .live, stc l cl] := by rw [ehh]; rfl
    rw [e3] at e2
    have e4 := (ldP (h := hh) (p := 2) (l := l) (cl := cl) (o := 1) (n := l.length) (cq := some l.length) (by rw [ehh]; rfl)).2.2
    rw [← ehh]
    simp [go_sem, g0, g1, g6, g24, g25, hlt', e1, e2, e4, -Int.natCast_add, w2]
    exact ⟨l.length - (k + 1), by omega, k + 1, rfl, hlt, rfl, by simp [go_sem, g0], by simp [go_sem, g1], by simp [go_sem, g6], by simp [go_sem, g24], by simp [go_sem]⟩
  have : k = l.length := by omega
  subst this
  have len47' : lenV C.P 47 (ints cl) = some (.int .i64 cl.length) := by rw [ints, len47]
  simp [go_sem, g0, g1, g6, g24, g25, len47']
  refine W_loop (NJ45 l cl (possible l cl)) cl.length ⟨0, List.replicate l.length (-1), rfl, Nat.zero_le _, by simp, by simp, by simp, fun x hx => by rw [List.eq_of_mem_replicate hx]; omega, by simp [go_sem, g0], by simp [go_sem, g1], by simp [go_sem, g6], by simp [go_sem], by simp [go_sem], by simp [go_sem], rfl⟩ ?_
  clear g0 g1 g6 g24 g25
  rintro m st h ⟨i, ow, rfl, hi, hat, hst, hol, hlo, g0, g1, g6, g35, g36, g37, hT⟩
  by_cases hlt : i < cl.length
  · have hlt' : (i : Int) < cl.length := by omega
    have w2 : IntKind.i64.wrap ((i : Int) + 1) = ((i + 1 : Nat) : Int) := by rw [wrap_in (by omega)]; omega
    have e4 := idx47' cl i hlt
    have c1 := call84 l cl[i] 5
    have eln : cl.length - i = (cl.length - (i + 1)) + 1 := by omega
    rw [eln, poss, getD_of hlt] at hT
    by_cases hkb : kindB l cl[i] 5 = false
    · rw [if_pos hkb] at hT
      simp +contextual [go_sem, g0, g1, g6, g35, g36, g37, hlt', e4, ld3i, c1, hkb]
      exact fin _ _ _ false (by simp [go_sem]; rfl) (by simp [go_sem]) (by rw [← hT]) ⟨_, snap_tuple rfl rfl (by simp)⟩
    · have hkb' : kindB l cl[i] 5 = true := by simpa using hkb
      rw [if_neg hkb] at hT
      have k2 := mk100 h l.length h0 (by omega)
      have h0l := (List.getElem?_eq_some_iff.1 hst).1
      obtain ⟨hz, ehz⟩ : ∃ g, g = h ++ [.cells (boolC (List.replicate l.length false)) .live] := ⟨_, rfl⟩
      have hat2 : At hz 1 h.length ow (List.replicate l.length false) := by
        rw [ehz]; exact ⟨by rw [List.getElem?_append_left (by omega)]; exact hat, by simp⟩
      have hst2 : hz[2]? = some (.cells [moments l, ints cl, .msl 1 0 1 l.length (some l.length)] .live) := by rw [ehz, List.getElem?_append_left h0l]; exact hst
      rw [← ehz] at k2
      have g : Good l.length cl.length ow (List.replicate l.length false) := ⟨hol, by simp, hlo⟩
      have hcn : cnt (List.replicate l.length false) < l.length + 1 := by simp [cnt]
      obtain ⟨r, h3, cc, rfl, hat3, hel3⟩ := srcp_all l cl (some l.length) (some l.length) hs (by omega) (l.length + 1) i ow (List.replicate l.length false) hz 2 1 h.length (by omega) (by omega) (by omega) hst2 hlt g hcn hat2
      have hst3 := (hel3.2 2 (by omega) (by omega)).trans hst2
      have hlaw := asg_law (n := l.length) (c := cl.length) (fitK l cl) (l.length + 1) i ow (List.replicate l.length false) hlt g hcn
      have cv := (callV_open (f := 85) (by kernel_rfl) rfl).trans cc
      generalize asg (fitK l cl) l.length (l.length + 1) i ow (List.replicate l.length false) = rr at hT cv hlaw hat3
      obtain ⟨b, ow2, se2⟩ := rr
      cases b with
      | false =>
        simp only [if_true] at hT
        simp +contextual [go_sem, g0, g1, g6, g35, g36, g37, len50', hlt', e4, ld3i, c1, hkb', k2, cv]
        exact fin _ _ _ false (by simp [go_sem]; rfl) (by simp [go_sem]) (by rw [← hT]) ⟨_, snap_tuple rfl rfl (by simp)⟩
      | true =>
        simp only [Bool.true_eq_false, if_false] at hT
        simp +contextual [go_sem, g0, g1, g6, g35, g36, g37, len50', hlt', e4, ld3i, c1, hkb', k2, cv, -Int.natCast_add, w2]
        exact ⟨cl.length - (i + 1), by omega, i + 1, ow2, rfl, hlt, hat3.1, hst3, hlaw.1.ol, hlaw.1.lo, by simp [go_sem, g0], by simp [go_sem, g1], by simp [go_sem, g6], by simp [go_sem, g35], by simp [go_sem, g36], by simp [go_sem], hT⟩
  have : i = cl.length := by omega
  subst this
  rw [Nat.sub_self, poss] at hT
  have done : true = (possible l cl).1 := by rw [← hT]
  obtain ⟨v, h2, hmk, hrr, hkp⟩ : ∃ v h2, makeSliceV C.P false h 47 (.int .i64 cl.length) (.int .i64 cl.length) = some (v, h2) ∧ ResRow h2 v cl.length ∧ Keep h h2 none := by
    by_cases hcz : cl.length = 0
    · refine ⟨.isl [] (.tok h.length), h ++ [.tok 0 3], ?_, .inl ⟨hcz, _, rfl⟩, .append _ _ _⟩
      rw [hcz]
      simp [makeSliceV, u47, s3, b3, zv3, z3]
    · refine ⟨_, _, mk47 h cl.length (by omega) (by omega), .inr ⟨h.length, List.replicate cl.length 0, ?_, by simp, rfl, by simp⟩, .append _ _ _⟩
      have := (List.getElem?_eq_some_iff.1 hst).1; omega
  have hat2 := hkp.get hat (by simp)
  have hst2 := hkp.get hst (by simp)
  have e5 := (ldP (l := l) (cl := cl) (o := 1) (n := l.length) (cq := some l.length) hst2).2.2
  simp [go_sem, g0, g1, g6, g35, g36, g37, len47', hmk, e5, lenO]
  refine W_loop (NK45 l cl v) l.length ⟨0, ow, rfl, Nat.zero_le _, hat2, hol, hlo, by simp [go_sem], by simp [go_sem], by simp [go_sem], by simp [go_sem], hrr⟩ ?_
  clear g0 g1 g6 g35 g36 g37 hat hst hol hlo hT hmk hrr hkp hat2 hst2 e5
  rintro m st h ⟨k, ow, rfl, hk, hat, hol, hlo, g10, g62, g63, g64, hrr⟩
  by_cases hlt : k < l.length
  · have hlt' : (k : Int) < l.length := by omega
    have w2 : IntKind.i64.wrap ((k : Int) + 1) = ((k + 1 : Nat) : Int) := by rw [wrap_in (by omega)]; omega
    have e1 := idxO (o := 1) (c := some l.length) hlt
    have e6 := ldO hat (k := k) (by omega)
    have hlk := hlo _ (List.getElem_mem (by omega : k < ow.length))
    by_cases hneg : 0 ≤ ow[k]
    · obtain ⟨id, res, hid, hrl, rfl, hre⟩ : ∃ id res, 1 < id ∧ res.length = cl.length ∧ v = .msl id 0 1 cl.length (some cl.length) ∧ h[id]? = some (.cells (intC res) .live) := by
        rcases hrr with ⟨h1, _⟩ | h1
        · omega
        · exact h1
      have hnat : ow[k] = ((ow[k].toNat : Nat) : Int) := by omega
      have e7 := idxO (o := id) (n := cl.length) (k := ow[k].toNat) (c := some cl.length) (by omega)
      have e8 := stO (k : Int) hre (k := ow[k].toNat) (by omega)
      rw [← hnat] at e7
      have hidl := (List.getElem?_eq_some_iff.1 hre).1
      simp [go_sem, g10, g62, g63, g64, hlt', e1, e6, e7, e8, hneg, -Int.natCast_add, w2]
      exact ⟨l.length - (k + 1), by omega, k + 1, ow, rfl, hlt, by rw [List.getElem?_set_ne (by omega)]; exact hat, hol, hlo, by simp [go_sem, g10], by simp [go_sem, g62], by simp [go_sem, g63], by simp [go_sem], .inr ⟨id, res.set ow[k].toNat k, hid, by simp [hrl], rfl, List.getElem?_set_self hidl⟩⟩
    · simp [go_sem, g10, g62, g63, g64, hlt', e1, e6, hneg, -Int.natCast_add, w2]
      exact ⟨l.length - (k + 1), by omega, k + 1, ow, rfl, hlt, hat, hol, hlo, by simp [go_sem, g10], by simp [go_sem, g62], by simp [go_sem, g63], by simp [go_sem], hrr⟩
  · have : k = l.length := by omega
    subst this
    simp [go_sem, g10, g62, g63, g64]
    exact fin _ _ v true (by simp [go_sem]) (by simp [go_sem]) done (snap_res hrr hc true)
end Go.VZ

/- Inject and Possible of no moments; both as calls. -/
namespace Go.VZ
open Go Go.V Go.Proofs TL
theorem kindB_nil (a g : Int) : kindB [] a g = false := dif_neg (by simp)
theorem poss_nil (cl : List Int) : possible [] cl = (decide (cl = []), []) := by
  cases cl with
  | nil => rfl
  | cons a l => simp [possible, poss, kindB_nil]
theorem mk47z (h : H) : makeSliceV C.P false h 47 (.int .i64 0) (.int .i64 0) = some (.isl [] (.tok h.length), h ++ [.tok 0 3]) := by
  simp [makeSliceV, u47, s3, b3, zv3, z3]
theorem lenZ (x : Ext) : lenV C.P 47 (.isl [] x) = some (.int .i64 0) := by simp [lenV, u47]
theorem len50z : lenV C.P 50 (moments []) = some (.int .i64 0) := by rw [len50']; rfl
theorem len47q (cl : List Int) : lenV C.P 47 (ints cl) = some (.int .i64 cl.length) := by rw [ints, len47]
def NZ47 (cl : List Int) (st : PT) (h : H) : Prop := st.get 0 = moments [] ∧ st.get 1 = ints cl ∧ (∃ x, st.get 5 = .isl [] x) ∧ st.get 6 = .int .i64 0
def NY47 (cl : List Int) (st : PT) (h : H) : Prop := st.get 0 = moments [] ∧ st.get 1 = ints cl ∧ st.get 7 = .int .i64 0
set_option maxRecDepth 8000 in
set_option maxHeartbeats 4000000 in
theorem possible47z (cl : List Int) (hc : cl.length < 1000000) : CallP C 47 [moments [], ints cl] = some (.bool (possible [] cl).1) := by
  refine CallP_W rfl Tryz.func47 rfl (by kernel_rfl) (by simp [Tryz.f47]) fun R hR => ?_
  have fin : ∀ (st : PT) (h : H) (b : Bool), st.get 4 = .bool b → b = (possible [] cl).1 → R .ret st h := fun st h b h4 hb => hR _ _ _ (.inr rfl) ⟨.bool b, by simp [resultV, resV, Tryz.f47, h4], by rw [hb]; exact snap_dat rfl rfl⟩
  simp [go_sem, initS, len50z, mk47z]
  refine W_loop (fun n st h => n = 0 ∧ NZ47 cl st h) 0 ⟨rfl, by simp [NZ47, go_sem]⟩ ?_
  rintro m st h ⟨rfl, g0, g1, ⟨x, g5⟩, g6⟩
  simp [go_sem, g0, g1, g5, g6, lenZ]
  refine W_loop (fun n st h => n = 0 ∧ NY47 cl st h) 0 ⟨rfl, by simp [NY47, go_sem, g0, g1]⟩ ?_
  clear g0 g1 g5 g6
  rintro m st h ⟨rfl, g0, g1, g7⟩
  cases cl with
  | nil =>
    have e : lenV C.P 47 (ints []) = some (.int .i64 0) := len47q []
    simp [go_sem, g0, g1, g7, e]
    exact fin _ _ true (by simp [go_sem]) (by rw [poss_nil]; rfl)
  | cons a l =>
    have e1 := len47q (a :: l)
    have e2 : (0 : Int) < (a :: l).length := by simp
    have e3 : indexAddrV C.P 47 (ints (a :: l)) (.int .i64 0) = some (.iptr (.int .i64 a) 0) := idx47' (a :: l) 0 (by simp)
    have c1 := call88 [] a 5
    have k0 : kindB [] a 5 = false := kindB_nil a 5
    rw [k0] at c1
    generalize (a :: l).length = z at e1 e2
    have e2' : 0 < z := by omega
    simp +contextual [go_sem, g0, g1, g7, e1, e2, e2', e3, ld3i, c1]
    exact fin _ _ false (by simp [go_sem]) (by rw [poss_nil]; simp)
theorem call47 (l : List Mo) (cl : List Int) (hs : smallM l) (hl : l.length < 1000000) (hc : cl.length < 1000000) (h : H) : callV C h (.func 47 []) (some [moments l, ints cl]) = some (.bool (possible l cl).1, h) := by
  have e : CallP C 47 [moments l, ints cl] = some (.bool (possible l cl).1) := by
    cases l with
    | nil => exact possible47z cl hc
    | cons a l => exact possible47 (a :: l) cl hs hl hc (by simp)
  exact callV_strip (by kernel_rfl) rfl rfl (by simp [short_mo]; rfl) (by simp) e
end Go.VZ

/- Inject of no moments; as a call. -/
namespace Go.VZ
open Go Go.V Go.Proofs TL
theorem bld136z (cl : List Int) (x : Ext) : buildV C.P 136 [(0, moments []), (1, ints cl), (2, .isl [] x)] = some (.agg [moments [], ints cl, .isl [] x]) := by kernel_rfl
theorem box136z (cl : List Int) (x : Ext) (h : H) : boxV C.P h 136 (.agg [moments [], ints cl, .isl [] x]) = some (.ptr h.length 0, h ++ [.cells [moments [], ints cl, .isl [] x] .live]) := by
  have : sizeV C.P 136 = some 3 := by kernel_rfl
  simp [boxV, cells_agg, this, notTuple]
@[go_sem] theorem nt_isl (l : List AV) (x : Ext) : notTuple (.isl l x) = true := (rfl)
theorem ldPz {h : H} {p : Nat} {a b : AV} {x : Ext} (hp : h[p]? = some (.cells [a, b, .isl [] x] .live)) : loadV C.P h 47 (.ptr p 2) = some (.isl [] x) := by
  simp [loadV, hp, cellsAt, a47, s47, notTuple]
def NZ45 (cl : List Int) (n : Nat) (st : PT) (h : H) : Prop := n = 0 ∧ h[2]? = some (.cells [moments [], ints cl, .isl [] (.tok 1)] .live) ∧ st.get 0 = moments [] ∧ st.get 1 = ints cl ∧ st.get 6 = .ptr 2 0 ∧ st.get 24 = .int .i64 0 ∧ st.get 25 = .int .i64 0
def NY45 (cl : List Int) (n : Nat) (st : PT) (h : H) : Prop := n = 0 ∧ h[2]? = some (.cells [moments [], ints cl, .isl [] (.tok 1)] .live) ∧ st.get 0 = moments [] ∧ st.get 1 = ints cl ∧ st.get 6 = .ptr 2 0 ∧ st.get 35 = ints cl ∧ st.get 36 = .int .i64 cl.length ∧ st.get 37 = .int .i64 0
def NX45 (n : Nat) (st : PT) (h : H) : Prop := n = 0 ∧ (∃ x, st.get 10 = .isl [] x) ∧ st.get 63 = .int .i64 0 ∧ st.get 64 = .int .i64 0
set_option maxRecDepth 8000 in
set_option maxHeartbeats 4000000 in
theorem inject45z (cl : List Int) (hc : cl.length ≤ 80000) : ∃ r h', Go.V.Call C 45 [moments [], ints cl] [] = some (r, h') ∧ ∃ x, snap (freezeAll h') deep r = some (.tuple [x, .bool (possible [] cl).1]) := by
  refine Call_WQ (Q := fun r h' => ∃ x, snap (freezeAll h') deep r = some (.tuple [x, .bool (possible [] cl).1])) rfl Tryz.func45 rfl (by kernel_rfl) (by simp [Tryz.f45]) fun R hR => ?_
  have fin : ∀ (st : PT) (h : H) (x : Ext) (b : Bool), st.get 4 = .isl [] x → st.get 5 = .bool b → b = (possible [] cl).1 → R .ret st h := fun st h x b h4 h5 hb => hR _ _ _ (.inr rfl) ⟨.tuple [.isl [] x, .bool b], by simp [resultV, resV, resVs, Tryz.f45, h4, h5], by rw [← hb]; exact ⟨_, snap_tuple rfl rfl (by simp)⟩⟩
  have b1 := bld136z cl
  have b2 := box136z cl
  have q1 : ∀ (x y : VObj), loadV C.P [x, y, .cells [moments [], ints cl, .isl [] (.tok 1)] .live] 47 (.ptr 2 2) = some (.isl [] (.tok 1)) := fun x y => ldPz rfl
  simp [go_sem, initS, len50z, mk47z, b1, b2, q1, lenZ]
  refine W_loop (NZ45 cl) 0 ⟨rfl, by simp, by simp [go_sem], by simp [go_sem], by simp [go_sem], by simp [go_sem], by simp [go_sem]⟩ ?_
  rintro m st h ⟨rfl, hst, g0, g1, g6, g24, g25⟩
  have e0 := len47q cl
  simp [go_sem, g0, g1, g6, g24, g25, e0]
  refine W_loop (NY45 cl) 0 ⟨rfl, hst, by simp [go_sem, g0], by simp [go_sem, g1], by simp [go_sem, g6], by simp [go_sem], by simp [go_sem], by simp [go_sem]⟩ ?_
  clear g0 g1 g6 g24 g25 hst
  rintro m st h ⟨rfl, hst, g0, g1, g6, g35, g36, g37⟩
  cases cl with
  | nil =>
    have e1 := mk47z h
    have e5 : loadV C.P (h ++ [.tok 0 3]) 47 (.ptr 2 2) = some (.isl [] (.tok 1)) := ldPz (by rw [List.getElem?_append_left (List.getElem?_eq_some_iff.1 hst).1]; exact hst)
    simp only [List.length_nil] at g36 e0
    simp [go_sem, g0, g1, g6, g35, g36, g37, e0, e1, e5, lenZ]
    refine W_loop NX45 0 ⟨rfl, ⟨_, by simp [go_sem]; rfl⟩, by simp [go_sem], by simp [go_sem]⟩ ?_
    clear g0 g1 g6 g35 g36 g37 hst e1 e5
    rintro m st h ⟨rfl, ⟨x, g10⟩, g63, g64⟩
    simp [go_sem, g10, g63, g64]
    exact fin _ _ x true (by simp [go_sem]) (by simp [go_sem]) (by rw [poss_nil]; rfl)
  | cons a l =>
    have e2 : (0 : Int) < (a :: l).length := by simp
    have e3 : indexAddrV C.P 47 (ints (a :: l)) (.int .i64 0) = some (.iptr (.int .i64 a) 0) := idx47' (a :: l) 0 (by simp)
    have c1 := call84 [] a 5
    have k0 : kindB [] a 5 = false := kindB_nil a 5
    rw [k0] at c1
    generalize (a :: l).length = z at g36 e2
    have e2' : 0 < z := by omega
    simp +contextual [go_sem, g0, g1, g6, g35, g36, g37, e2, e2', e3, ld3i, c1]
    exact fin _ _ _ false (by simp [go_sem]; rfl) (by simp [go_sem]) (by rw [poss_nil]; simp)
theorem call45 (l : List Mo) (cl : List Int) (hs : smallM l) (hl : l.length < 1000000) (hc : cl.length ≤ 80000) : ∃ x, ∀ h, callV C h (.func 45 []) (some [moments l, ints cl]) = some (.tuple [x, .bool (possible l cl).1], h) := by
  have e : ∃ r h', Go.V.Call C 45 [moments l, ints cl] [] = some (r, h') ∧ ∃ x, snap (freezeAll h') deep r = some (.tuple [x, .bool (possible l cl).1]) := by
    cases l with
    | nil => exact inject45z cl hc
    | cons a l => exact inject45 (a :: l) cl hs hl hc (by simp)
  obtain ⟨r, h', e1, x, e2⟩ := e
  refine ⟨x, fun h => callV_strip (by kernel_rfl) rfl rfl (by simp [short_mo]; rfl) (by simp) (args' := [moments l, ints cl]) ?_⟩
  unfold CallP
  rw [e1]
  exact e2
end Go.VZ
