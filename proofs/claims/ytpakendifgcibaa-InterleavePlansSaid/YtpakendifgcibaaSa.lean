/- The value machine at the program of this seat: its ways of calling, and facts on its types. -/
import Derived.Test.YtpakendifgcibaaV21
import Derived.Test.YtpakendifgcibaaProg
import Derived.Test.YtpakendifgcibaaV22
namespace Go.V37
open Go Go.V Go.Proofs
/-- A copy of an empty slice: nil or not, what comes back is empty. -/
def prim : FuncId → List AV → H → Option (AV × H) := fun f args h => if f = 19 then (match args with | [.isl [] _] => some (.isl [] .full, h) | _ => none) else none
def md : FuncId → Go.V.Mode := fun f => if f = 33 ∨ f = 36 ∨ f = 37 then .openH else if f = 19 then .ownM else if f = 29 then .ownT else .strip
def wrt : FuncId → Tmp → Bool := fun f t => (f == 8 && t == 15) || (f == 36 && t == 12) || (f == 12 && t == 22) || (f == 15 && t == 25) || (f == 27 && t == 11) || (f == 29 && t == 8)
noncomputable def C : Cfg := { P := Try.prog, mode := md, wr := wrt, prim := prim }
theorem u22 : C.P.underlying 22 = some (.slice 3) := Try.underlying22
theorem u24 : C.P.underlying 24 = some (.slice 22) := Try.underlying24
theorem s3 : sizeV C.P 3 = some 1 := by kernel_rfl
theorem s22 : sizeV C.P 22 = some 1 := by kernel_rfl
theorem a3 : isAggB C.P 3 = some false := by kernel_rfl
theorem a22 : isAggB C.P 22 = some false := by kernel_rfl
theorem z3 : zeroOk C.P 3 = true := by kernel_rfl
theorem z22 : zeroOk C.P 22 = true := by kernel_rfl
theorem b3 : bytesV C.P 3 = some 8 := by kernel_rfl
theorem b22 : bytesV C.P 22 = some 24 := by kernel_rfl
theorem zv3 : zeroV C.P 3 = some (.int .i64 0) := by kernel_rfl
theorem zv24 : zeroV C.P 24 = some (.isl [] .full) := by kernel_rfl
theorem zv22 : zeroV C.P 22 = some (.isl [] .full) := by kernel_rfl
theorem is22 : isSliceT C.P 22 = some 3 := by kernel_rfl
theorem is24 : isSliceT C.P 24 = some 22 := by kernel_rfl
attribute [go_sem] u22 u24 s3 s22 a3 a22 z3 z22 b3 b22 zv3 zv24 zv22 is22 is24
/-- A row of numbers. -/
def ints (l : List Int) : AV := .isl (l.map (AV.int .i64)) .unk
def rows (l : List (List Int)) : AV := .isl (l.map ints) .unk
theorem cells_int (k : IntKind) (n : Int) : (AV.int k n).cells = [.int k n] := rfl
theorem cells_isl (l : List AV) (x : Ext) : (AV.isl l x).cells = [.isl l x] := rfl
theorem len22 (es : List AV) (x : Ext) : lenV C.P 22 (.isl es x) = some (.int .i64 es.length) := by simp [lenV, u22]
theorem len24 (es : List AV) (x : Ext) : lenV C.P 24 (.isl es x) = some (.int .i64 es.length) := by simp [lenV, u24]
theorem len22m (i o z n : Nat) (c : Option Nat) : lenV C.P 22 (.msl i o z n c) = some (.int .i64 n) := by simp [lenV, u22]
attribute [go_sem] len22 len24 len22m
theorem idx (l : List Int) (k : Nat) (hk : k < l.length) (x : Ext) : indexAddrV C.P 22 (.isl (l.map (AV.int .i64)) x) (.int .i64 k) = some (.iptr (.int .i64 l[k]) 0) := by
  simp [indexAddrV, u22, s3, cells_int, hk]
theorem idxr (l : List (List Int)) (k : Nat) (hk : k < l.length) (x : Ext) : indexAddrV C.P 24 (.isl (l.map ints) x) (.int .i64 k) = some (.iptr (ints l[k]) 0) := by
  simp [indexAddrV, u24, s22, ints, cells_isl, hk]
theorem ldi (n : Int) (h : H) : loadV C.P h 3 (.iptr (.int .i64 n) 0) = some (.int .i64 n) := by
  simp [loadV, cellsAt, a3, s3, AV.cells]
theorem ldr (l : List Int) (h : H) : loadV C.P h 22 (.iptr (ints l) 0) = some (ints l) := by
  simp [loadV, cellsAt, a22, s22, AV.cells, ints]
def isYes : Option (AV × H) → Bool
  | some (.bool true, _) => true
  | _ => false
theorem isYes_CallP {f : FuncId} {args : List AV} (h : isYes (callR C 1000 f args []) = true) : CallP C f args = some (.bool true) := by
  cases hx : callR C 1000 f args [] with
  | none => rw [hx] at h; cases h
  | some x =>
    obtain ⟨r, h1⟩ := x
    rw [hx] at h
    unfold isYes at h
    split at h <;> first | (cases h; done) | skip
    rename_i e
    simp only [Option.some.injEq, Prod.mk.injEq] at e
    obtain ⟨rfl, rfl⟩ := e
    unfold CallP
    rw [Call_of 1000 hx]
    exact snap_dat rfl rfl
theorem awake_call : CallP C 7 [] = some (.bool true) := isYes_CallP (by kernel_rfl)
end Go.V37

/- Which vectors are let in: the program's check and the document's. -/
namespace Go.V37
open Go Go.V Go.Proofs
def chk : List Int → Int → Int
  | [], t => if t > 12 then 3 else 0
  | x :: r, t => if x < 0 ∨ x > 12 then 7 else chk r (t + x)
def check (l : List Int) : Int := if l.length > 4 then 3 else chk l 0
theorem chk_drop (l : List Int) (k : Nat) (hk : k < l.length) (t : Int) : chk (l.drop k) t = if l[k] < 0 ∨ l[k] > 12 then 7 else chk (l.drop (k + 1)) (t + l[k]) := by
  rw [List.drop_eq_getElem_cons hk]; rfl
set_option maxHeartbeats 1000000 in
theorem check_call (l : List Int) : CallP C 23 [ints l] = some (.int .i64 (check l)) := by
  refine CallP_W rfl Try.func23 rfl (by kernel_rfl) (by simp [Try.f23]) fun R hR => ?_
  by_cases h4 : l.length > 4
  · have h4' : 4 < (l.length : Int) := by omega
    simp [go_sem, initS, ints, h4']
    refine hR _ _ _ (.inr rfl) ⟨_, rfl, ?_⟩
    simp [go_sem, check, h4]
    exact snap_dat rfl rfl
  · have h4' : ¬ 4 < (l.length : Int) := by omega
    simp [go_sem, initS, ints, h4']
    refine W_loop (fun n s h => ∃ k : Nat, ∃ t : Int, n = l.length - k ∧ k ≤ l.length ∧ 0 ≤ t ∧ t ≤ 12 * k ∧ h = [] ∧ s.get 9 = .isl (l.map (AV.int .i64)) .unk ∧ s.get 10 = .int .i64 l.length ∧ s.get 11 = .int .i64 k ∧ s.get 3 = .int .i64 t ∧ chk (l.drop k) t = check l) l.length
      ⟨0, 0, by simp [go_sem, check, h4, ints]⟩ ?_
    rintro n s h ⟨k, t, rfl, hk, ht0, ht1, rfl, g9, g10, g11, g3, hc⟩
    by_cases hlt : k < l.length
    · have hlt' : (k : Int) < l.length := by omega
      have hd := chk_drop l k hlt t
      by_cases c1 : l[k] < 0
      · simp [go_sem, g9, g10, g11, g3, hlt', idx l k hlt, ldi, c1]
        refine hR _ _ _ (.inr rfl) ⟨_, rfl, ?_⟩
        simp only [go_sem, reduceIte, ← hc, hd, c1, true_or]
        exact snap_dat rfl rfl
      · by_cases c2 : 12 < l[k]
        · simp [go_sem, g9, g10, g11, g3, hlt', idx l k hlt, ldi, c1, c2]
          refine hR _ _ _ (.inr rfl) ⟨_, rfl, ?_⟩
          simp only [go_sem, reduceIte, ← hc, hd, c2, or_true]
          exact snap_dat rfl rfl
        · have w1 : IntKind.i64.wrap (t + l[k]) = t + l[k] := wrap_in (by omega)
          have w2 : IntKind.i64.wrap ((k : Int) + 1) = k + 1 := wrap_in (by omega)
          simp [go_sem, g9, g10, g11, g3, hlt', idx l k hlt, ldi, c1, c2, w1, w2]
          refine ⟨l.length - (k + 1), by omega, k + 1, rfl, hlt, t + l[k], by omega, by omega, by omega, rfl, ?_⟩
          rw [← hc, hd, if_neg (by omega)]
    · have hk' : k = l.length := by omega
      subst hk'
      have hc' : check l = if t > 12 then 3 else 0 := by rw [← hc]; simp [chk]
      by_cases c3 : 12 < t
      · simp [go_sem, g9, g10, g11, g3, c3]
        refine hR _ _ _ (.inr rfl) ⟨_, rfl, ?_⟩
        simp [go_sem, hc', c3]
        exact snap_dat rfl rfl
      · simp [go_sem, g9, g10, g11, g3, c3]
        refine hR _ _ _ (.inr rfl) ⟨_, rfl, ?_⟩
        simp [go_sem, hc', c3]
        exact snap_dat rfl rfl
set_option maxHeartbeats 1000000 in
theorem error_call (l : List Int) : CallP C 24 [ints l] = some (.int .i64 (check l)) := by
  refine CallP_W rfl Try.func24 rfl (by kernel_rfl) (by simp [Try.f24]) fun R hR => ?_
  by_cases h4 : l.length > 4
  · have h4' : 4 < (l.length : Int) := by omega
    simp [go_sem, initS, ints, h4']
    refine hR _ _ _ (.inr rfl) ⟨_, rfl, ?_⟩
    simp [go_sem, check, h4]
    exact snap_dat rfl rfl
  · have h4' : ¬ 4 < (l.length : Int) := by omega
    simp [go_sem, initS, ints, h4']
    refine W_loop (fun n s h => ∃ k : Nat, ∃ t : Int, n = l.length - k ∧ k ≤ l.length ∧ 0 ≤ t ∧ t ≤ 12 * k ∧ h = [] ∧ s.get 0 = .isl (l.map (AV.int .i64)) .unk ∧ s.get 4 = .int .i64 k ∧ s.get 3 = .int .i64 t ∧ chk (l.drop k) t = check l) l.length
      ⟨0, 0, by simp [go_sem, check, h4, ints]⟩ ?_
    rintro n s h ⟨k, t, rfl, hk, ht0, ht1, rfl, g9, g11, g3, hc⟩
    by_cases hlt : k < l.length
    · have hlt' : (k : Int) < l.length := by omega
      have hd := chk_drop l k hlt t
      by_cases c1 : l[k] < 0
      · simp [go_sem, g9, g11, g3, hlt', idx l k hlt, ldi, c1]
        refine hR _ _ _ (.inr rfl) ⟨_, rfl, ?_⟩
        simp only [go_sem, reduceIte, ← hc, hd, c1, true_or]
        exact snap_dat rfl rfl
      · by_cases c2 : 12 < l[k]
        · simp [go_sem, g9, g11, g3, hlt', idx l k hlt, ldi, c1, c2]
          refine hR _ _ _ (.inr rfl) ⟨_, rfl, ?_⟩
          simp only [go_sem, reduceIte, ← hc, hd, c2, or_true]
          exact snap_dat rfl rfl
        · have w1 : IntKind.i64.wrap (t + l[k]) = t + l[k] := wrap_in (by omega)
          have w2 : IntKind.i64.wrap ((k : Int) + 1) = k + 1 := wrap_in (by omega)
          simp [go_sem, g9, g11, g3, hlt', idx l k hlt, ldi, c1, c2, w1, w2]
          refine ⟨l.length - (k + 1), by omega, k + 1, rfl, hlt, t + l[k], by omega, by omega, by omega, rfl, ?_⟩
          rw [← hc, hd, if_neg (by omega)]
    · have hk' : k = l.length := by omega
      subst hk'
      have hc' : check l = if t > 12 then 3 else 0 := by rw [← hc]; simp [chk]
      by_cases c3 : 12 < t
      · simp [go_sem, g9, g11, g3, c3]
        refine hR _ _ _ (.inr rfl) ⟨_, rfl, ?_⟩
        simp [go_sem, hc', c3]
        exact snap_dat rfl rfl
      · simp [go_sem, g9, g11, g3, c3]
        refine hR _ _ _ (.inr rfl) ⟨_, rfl, ?_⟩
        simp [go_sem, hc', c3]
        exact snap_dat rfl rfl
end Go.V37

/- Rows compared. -/
namespace Go.V37
open Go Go.V Go.Proofs
theorem eq_of_take {α : Type} {a b : List α} (hl : a.length = b.length) (h : ∀ k (h1 : k < a.length) (h2 : k < b.length), a[k] = b[k]) : a = b := List.ext_getElem hl h
set_option maxHeartbeats 1000000 in
theorem equal_call (a b : List Int) (ha : a.length ≤ 9223372036854775807) : CallP C 14 [ints a, ints b] = some (.bool (decide (a = b))) := by
  refine CallP_W rfl Try.func14 rfl (by kernel_rfl) (by simp [Try.f14]) fun R hR => ?_
  by_cases hl : a.length = b.length
  · have hl' : (a.length : Int) = b.length := by omega
    simp [go_sem, initS, ints, hl']
    refine W_loop (fun n s h => ∃ k : Nat, n = a.length - k ∧ k ≤ a.length ∧ h = [] ∧ s.get 0 = .isl (a.map (AV.int .i64)) .unk ∧ s.get 1 = .isl (b.map (AV.int .i64)) .unk ∧ s.get 12 = .int .i64 a.length ∧ s.get 13 = .int .i64 k ∧
        ∀ j (h1 : j < a.length) (h2 : j < b.length), j < k → a[j] = b[j]) a.length
      ⟨0, by simp [go_sem, ints, rows, hl']⟩ ?_
    rintro n s h ⟨k, rfl, hk, rfl, g0, g1, g12, g13, hc⟩
    by_cases hlt : k < a.length
    · have hlt' : (k : Int) < a.length := by omega
      have hlb : k < b.length := by omega
      simp [go_sem, g0, g1, g12, g13, hlt', idx a k hlt, idx b k hlb, ldi]
      by_cases he : a[k] = b[k]
      · have w2 : IntKind.i64.wrap ((k : Int) + 1) = k + 1 := wrap_in (by omega)
        simp [go_sem, g0, g1, g12, g13, he, w2]
        refine ⟨a.length - (k + 1), by omega, k + 1, rfl, hlt, by omega, fun j h1 h2 hj => ?_⟩
        by_cases e : j = k
        · subst e; exact he
        · exact hc j h1 h2 (by omega)
      · simp [go_sem, g0, g1, g12, g13, he]
        refine hR _ _ _ (.inr rfl) ⟨_, rfl, ?_⟩
        have hne : a ≠ b := fun e => by subst e; exact he rfl
        simp [go_sem, hne]
        exact snap_dat rfl rfl
    · have hk' : k = a.length := by omega
      subst hk'
      simp [go_sem, g0, g1, g12, g13]
      refine hR _ _ _ (.inr rfl) ⟨_, rfl, ?_⟩
      have heq : a = b := eq_of_take hl fun j h1 h2 => hc j h1 h2 h1
      simp [go_sem, heq]
      exact snap_dat rfl rfl
  · have hl' : ¬ (a.length : Int) = b.length := by omega
    simp [go_sem, initS, ints, hl']
    refine hR _ _ _ (.inr rfl) ⟨_, rfl, ?_⟩
    have hne : a ≠ b := fun e => hl (by rw [e])
    simp [go_sem, hne]
    exact snap_dat rfl rfl
theorem callV_strip {f : FuncId} {args args' : List AV} {v : AV} {h : H} (hb : hasBody C.P f = true) (hm : C.mode f = .strip) (hd : dats args = some args') (hs : args.all short = true) (hl : args.length < 90000)
    (hc : CallP C f args' = some v) : callV C h (.func f []) (some args) = some (v, h) := by
  simp only [callV, hb, if_true, List.append_nil]
  rw [applyCall_strip hm hd hs hl, hc]
theorem call14 (a b : List Int) (h : H) (ha : a.length ≤ 9223372036854775807) : callV C h (.func 14 []) (some [ints a, ints b]) = some (.bool (decide (a = b)), h) :=
  callV_strip (by kernel_rfl) rfl rfl rfl (by simp) (equal_call a b ha)
set_option maxHeartbeats 1000000 in
theorem equalFunc_call (a b : List (List Int)) (ha : a.length ≤ 9223372036854775807) (hx : ∀ x ∈ a, x.length ≤ 9223372036854775807) : CallP C 25 [rows a, rows b, .func 14 []] = some (.bool (decide (a = b))) := by
  refine CallP_W rfl Try.func25 rfl (by kernel_rfl) (by simp [Try.f25]) fun R hR => ?_
  by_cases hl : a.length = b.length
  · have hl' : (a.length : Int) = b.length := by omega
    simp [go_sem, initS, rows, hl']
    refine W_loop (fun n s h => ∃ k : Nat, n = a.length - k ∧ k ≤ a.length ∧ h = [] ∧ s.get 15 = .isl (a.map ints) .unk ∧ s.get 1 = .isl (b.map ints) .unk ∧ s.get 2 = .func 14 [] ∧ s.get 16 = .int .i64 a.length ∧ s.get 17 = .int .i64 k ∧
        ∀ j (h1 : j < a.length) (h2 : j < b.length), j < k → a[j] = b[j]) a.length
      ⟨0, by simp [go_sem, ints, rows, hl']⟩ ?_
    rintro n s h ⟨k, rfl, hk, rfl, g0, g1, g2, g12, g13, hc⟩
    by_cases hlt : k < a.length
    · have hlt' : (k : Int) < a.length := by omega
      have hlb : k < b.length := by omega
      have c14 := fun h => call14 a[k] b[k] h (hx _ (List.getElem_mem hlt))
      simp [go_sem, g0, g1, g2, g12, g13, hlt', idxr a k hlt, idxr b k hlb, ldr, c14]
      by_cases he : a[k] = b[k]
      · have w2 : IntKind.i64.wrap ((k : Int) + 1) = k + 1 := wrap_in (by omega)
        simp [go_sem, g0, g1, g2, g12, g13, he, w2]
        refine ⟨a.length - (k + 1), by omega, k + 1, rfl, hlt, by omega, fun j h1 h2 hj => ?_⟩
        by_cases e : j = k
        · subst e; exact he
        · exact hc j h1 h2 (by omega)
      · simp [go_sem, he]
        refine hR _ _ _ (.inr rfl) ⟨_, rfl, ?_⟩
        have hne : a ≠ b := fun e => by subst e; exact he rfl
        simp [go_sem, hne]
        exact snap_dat rfl rfl
    · have hk' : k = a.length := by omega
      subst hk'
      simp [go_sem, g12, g13]
      refine hR _ _ _ (.inr rfl) ⟨_, rfl, ?_⟩
      have heq : a = b := eq_of_take hl fun j h1 h2 => hc j h1 h2 h1
      simp [go_sem, heq]
      exact snap_dat rfl rfl
  · have hl' : ¬ (a.length : Int) = b.length := by omega
    simp [go_sem, initS, rows, hl']
    refine hR _ _ _ (.inr rfl) ⟨_, rfl, ?_⟩
    have hne : a ≠ b := fun e => hl (by rw [e])
    simp [go_sem, hne]
    exact snap_dat rfl rfl
theorem call25 (a b : List (List Int)) (h : H) (ha : a.length ≤ 9223372036854775807) (hx : ∀ x ∈ a, x.length ≤ 9223372036854775807) : callV C h (.func 25 []) (some [rows a, rows b, .func 14 []]) = some (.bool (decide (a = b)), h) :=
  callV_strip (by kernel_rfl) rfl rfl rfl (by simp) (equalFunc_call a b ha hx)
set_option maxHeartbeats 1000000 in
theorem same_call (a b : List (List Int)) (ha : a.length ≤ 9223372036854775807) (hx : ∀ x ∈ a, x.length ≤ 9223372036854775807) : CallP C 10 [rows a, rows b] = some (.bool (decide (a = b))) := by
  refine CallP_W rfl Try.func10 rfl (by kernel_rfl) (by simp [Try.f10]) fun R hR => ?_
  have c25 := fun h => call25 a b h ha hx
  simp [go_sem, initS, c25]
  refine hR _ _ _ (.inr rfl) ⟨_, rfl, ?_⟩
  simp [go_sem]
  exact snap_dat rfl rfl
theorem call10 (a b : List (List Int)) (h : H) (ha : a.length ≤ 9223372036854775807) (hx : ∀ x ∈ a, x.length ≤ 9223372036854775807) : callV C h (.func 10 []) (some [rows a, rows b]) = some (.bool (decide (a = b)), h) :=
  callV_strip (by kernel_rfl) rfl rfl rfl (by simp) (same_call a b ha hx)
end Go.V37

/- A copy of a row of one's own. -/
namespace Go.V37
open Go Go.V Go.Proofs
theorem nil_cmp (es : List AV) (e : Ext) (x : Operand) (h : es ≠ []) : binV C.P .eql 22 x (.const (.slice none 0 0)) (.isl es e) (.isl [] .full) = some (.bool false) := by
  have : es.isEmpty = false := by cases es <;> simp_all
  simp [binV, toVal, toScalar, nilCmpV, isNil, sureV, isSl, u22, eqSign, this]
theorem append_full (wr : Bool) (hw : wr = false) (es : List AV) (e : Ext) (h : H) (hne : es ≠ []) (hz : szOk 1 es = true) (hl : es.length ≤ 1000000) : appendW C.P wr h 22 (.isl [] .full) (.isl es e) = some (.isl es (.tok h.length), h ++ [.tok es.length 3]) := by
  subst hw
  have hb : es.length * 9 ≤ 35184372088832 := by omega
  cases es with
  | nil => exact absurd rfl hne
  | cons a es =>
    simp only [List.length_cons] at hb
    simp [appendW, appendV, u22, s3, b3, elemsV, z3, szOk, hb] at hz ⊢
    exact hz
theorem build_nil (h : H) : buildSliceV C.P h 22 0 [] = some (.isl [] .full, h) := buildSlice_dats u22 s3 z3 rfl (by omega) rfl rfl rfl (by simp) rfl
theorem szOk_ints (l : List Int) : szOk 1 (l.map (AV.int .i64)) = true := by cases l <;> simp [szOk, AV.cells]
set_option maxHeartbeats 1000000 in
theorem clone_call (l : List Int) (h : H) (hl : l ≠ []) (hs : l.length ≤ 1000000) : Go.V.Call C 19 [ints l] h = some (.isl (l.map (AV.int .i64)) (.tok (h.length + 1)), h ++ [.tok 0 3, .tok l.length 3]) := by
  have hm : l.map (AV.int .i64) ≠ [] := by simpa using hl
  refine Call_W (by cases l <;> first | rfl | exact absurd rfl hl) Try.func19 rfl (by kernel_rfl) (by simp [Try.f19]) fun R hR => ?_
  have ha := fun e h => append_full (C.wr 19 7) rfl (l.map (AV.int .i64)) e h hm (szOk_ints l) (by simpa using hs)
  simp [go_sem, initS, ints, nil_cmp _ _ _ hm, build_nil, ha]
  refine hR _ _ _ (.inr rfl) ⟨_, rfl, ?_⟩
  simp [go_sem]
theorem dats1_ints (l : List Int) : dats1 (l.map (AV.int .i64)) = some (l.map (AV.int .i64)) := by
  induction l with
  | nil => rfl
  | cons a l ih => simp only [List.map_cons, dats1, dat1, ih]
theorem scalars_ints (l : List Int) : scalars (l.map (AV.int .i64)) = true := by
  simp [scalars, toScalar]
theorem clone_row (l : List Int) (id : Nat) (cap : Option Nat) (h : H) (hid : h[id]? = some (.cells (l.map (AV.int .i64)) .live)) (hl : l ≠ []) (hs : l.length ≤ 100000) :
    callV C h (.func 19 []) (some [.msl id 0 1 l.length cap]) = some (.msl h.length 0 1 l.length none, h ++ [.cells (l.map (AV.int .i64)) .live]) := by
  obtain ⟨e1, e2⟩ := snap_msl (len := l.length) (cap := cap) hid (by simp) (dats1_ints l) (by simp; omega)
  have e3 : chunk 1 l.length (l.map (AV.int .i64)) = l.map (AV.int .i64) := by
    have := chunk1 (l.map (AV.int .i64)); rwa [List.length_map] at this
  rw [e3] at e2
  have hb : hasBody C.P 19 = true := by kernel_rfl
  have hm : l.map (AV.int .i64) ≠ [] := by simpa using hl
  have hcall := clone_call l [] hl (by omega)
  simp only [callV, hb, if_true, List.append_nil]
  unfold applyCall
  rw [show C.mode 19 = .ownM from rfl]
  dsimp only
  rw [e1, e2]
  dsimp only
  rw [show Go.V.Call C 19 [AV.isl (l.map (AV.int .i64)) .unk] [] = _ from hcall]
  dsimp only
  unfold finishV adoptR adopt
  dsimp only
  simp only [List.nil_append, List.length_nil, Nat.zero_add, List.getElem?_cons_succ, List.getElem?_cons_zero, List.length_map, scalars_ints, s3, and_self, if_true]
end Go.V37

/- All vectors up to a vector, ascending: the plain law. -/
namespace Go.V37
/-- All vectors up to c, ascending. -/
def prod : List Int → List (List Int)
  | [] => [[]]
  | c :: r => (List.range (c.toNat + 1)).flatMap fun (j : Nat) => (prod r).map ((j : Int) :: ·)
/-- The next one. -/
def succ : List Int → List Int → Option (List Int)
  | c :: r, v :: w => match succ r w with
    | some w' => some (v :: w')
    | none => if v = c then none else some ((v + 1) :: w.map fun _ => 0)
  | _, _ => none
/-- Those from v on. -/
def rest : List Int → List Int → List (List Int)
  | c :: r, v :: w => (rest r w).map (v :: ·) ++ (List.range' (v.toNat + 1) (c.toNat - v.toNat)).flatMap fun (j : Nat) => (prod r).map ((j : Int) :: ·)
  | _, _ => [[]]
/-- Within bounds. -/
def within : List Int → List Int → Prop
  | [], [] => True
  | c :: r, v :: w => 0 ≤ v ∧ v ≤ c ∧ within r w
  | _, _ => False
def zeros (w : List Int) : List Int := w.map fun _ => 0
theorem rest_zeros : ∀ c : List Int, (∀ x ∈ c, 0 ≤ x) → rest c (zeros c) = prod c := by
  intro c
  induction c with
  | nil => intro _; rfl
  | cons c r ih =>
    intro h
    have ihr := ih fun x hx => h x (by simp [hx])
    simp only [zeros] at ihr
    simp only [zeros, List.map_cons, rest, prod, ihr]
    have : List.range (c.toNat + 1) = 0 :: List.range' 1 c.toNat := by
      rw [List.range_eq_range', List.range'_succ]
    rw [this, List.flatMap_cons]
    simp
theorem within_length : ∀ c v : List Int, within c v → v.length = c.length := by
  intro c
  induction c with
  | nil => intro v h; cases v <;> simp_all [within]
  | cons c r ih => intro v h; cases v with
    | nil => simp [within] at h
    | cons v w => simp [within] at h; simp [ih w h.2.2]
theorem zeros_eq : ∀ (w r : List Int), w.length = r.length → zeros w = zeros r := by
  intro w
  induction w with
  | nil => intro r h; cases r <;> simp_all [zeros]
  | cons a w ih => intro r h; cases r with
    | nil => simp at h
    | cons b r => simp only [zeros, List.map_cons, List.cons.injEq, true_and]; exact ih r (by simpa using h)
theorem rest_step : ∀ c v : List Int, (∀ x ∈ c, 0 ≤ x) → within c v → rest c v = v :: (match succ c v with | some v' => rest c v' | none => []) := by
  intro c
  induction c with
  | nil => intro v _ h; cases v with
    | nil => rfl
    | cons _ _ => simp [within] at h
  | cons c r ih =>
    intro v hp h
    cases v with
    | nil => simp [within] at h
    | cons v w =>
      obtain ⟨h1, h2, h3⟩ := h
      have hr := ih w (fun x hx => hp x (by simp [hx])) h3
      simp only [rest, succ]
      rw [hr]
      cases hs : succ r w with
      | some w' => simp [rest]
      | none =>
        simp only [List.map_cons, List.map_nil]
        by_cases hv : v = c
        · subst hv; simp
        · rw [if_neg hv]
          have hlt : v < c := by omega
          have e1 : (v + 1).toNat = v.toNat + 1 := by omega
          have e2 : c.toNat - v.toNat = (c.toNat - (v.toNat + 1)) + 1 := by omega
          have e3 : ((v.toNat + 1 : Nat) : Int) = v + 1 := by omega
          rw [e2, List.range'_succ, List.flatMap_cons]
          simp only [rest, e1, e3]
          have hz : List.map (fun _ => (0 : Int)) w = zeros r := zeros_eq w r (within_length r w h3)
          rw [hz, rest_zeros r (fun x hx => hp x (by simp [hx]))]
          simp
theorem succ_within : ∀ c v v' : List Int, within c v → succ c v = some v' → within c v' := by
  intro c
  induction c with
  | nil => intro v v' h hs; cases v <;> simp_all [succ]
  | cons c r ih =>
    intro v v' h hs
    cases v with
    | nil => simp [within] at h
    | cons v w =>
      obtain ⟨h1, h2, h3⟩ := h
      simp only [succ] at hs
      split at hs
      · rename_i w' hw
        simp only [Option.some.injEq] at hs; subst hs
        exact ⟨h1, h2, ih w w' h3 hw⟩
      · split at hs <;> first | (cases hs; done) | skip
        rename_i hv
        simp only [Option.some.injEq] at hs; subst hs
        refine ⟨by omega, by omega, ?_⟩
        have : ∀ r w : List Int, within r w → within r (w.map fun _ => 0) := by
          intro r
          induction r with
          | nil => intro w h; cases w <;> simp_all [within]
          | cons c r ih => intro w h; cases w with
            | nil => simp [within] at h
            | cons v w => simp only [within] at h; simp only [List.map_cons, within]; exact ⟨by omega, by omega, ih w h.2.2⟩
        exact this r w h3
/-- Each row by each last number up to c. -/
def ext (cur : List (List Int)) (c : Int) : List (List Int) := cur.flatMap fun p => (List.range (c.toNat + 1)).map fun (d : Nat) => p ++ [(d : Int)]
theorem foldl_ext : ∀ (c : List Int) (cur : List (List Int)), c.foldl ext cur = cur.flatMap fun p => (prod c).map (p ++ ·) := by
  intro c
  induction c with
  | nil => intro cur; simp [prod]
  | cons c r ih =>
    intro cur
    rw [List.foldl_cons, ih]
    simp only [ext, prod, List.flatMap_assoc, List.map_flatMap, List.flatMap_map, List.map_map]
    congr 1; funext p
    congr 1; funext d
    congr 1; funext q
    simp
theorem foldl_prod (c : List Int) : c.foldl ext [[]] = prod c := by
  rw [foldl_ext]; simp
theorem succ_none : ∀ c : List Int, succ c c = none := by
  intro c
  induction c with
  | nil => rfl
  | cons c r ih => simp [succ, ih]
theorem succ_some : ∀ (i : Nat) (c v : List Int), v.length = c.length → (hi : i < v.length) → (hc : i < c.length) → v[i] ≠ c[i] → v.drop (i + 1) = c.drop (i + 1) →
    succ c v = some (v.take i ++ (v[i] + 1) :: zeros (v.drop (i + 1))) := by
  intro i
  induction i with
  | zero =>
    intro c v hl hi hc hne hd
    cases v with
    | nil => simp at hi
    | cons x w => cases c with
      | nil => simp at hc
      | cons y r =>
        simp at hd hne
        subst hd
        simp [succ, succ_none, hne, zeros]
  | succ i ih =>
    intro c v hl hi hc hne hd
    cases v with
    | nil => simp at hi
    | cons x w => cases c with
      | nil => simp at hc
      | cons y r =>
        have := ih r w (by simpa using hl) (by simpa using hi) (by simpa using hc) (by simpa using hne) (by simpa using hd)
        simp [succ, this]
/-- The numbers from the i-th on set to nought. -/
def low (v : List Int) (i : Nat) : List Int := v.take i ++ zeros (v.drop i)
theorem low_length (v : List Int) (i : Nat) : (low v i).length = v.length := by simp [low, zeros]; omega
theorem low_all (v : List Int) : low v v.length = v := by simp [low, zeros]
theorem low_get (v : List Int) (i j : Nat) (hj : j < i) (hv : j < v.length) : (low v i)[j]'(by rw [low_length]; exact hv) = v[j] := by
  have h : j < (v.take i).length := by simp; omega
  simp only [low]
  rw [List.getElem_append_left h]; simp
theorem low_set (v : List Int) (j : Nat) (hv : j < v.length) (x : Int) : (low v (j + 1)).set j x = v.take j ++ x :: zeros (v.drop (j + 1)) := by
  simp only [low]
  have e : v.take (j + 1) = v.take j ++ [v[j]] := by simp
  rw [e, List.append_assoc]
  rw [List.set_append_right _ _ (by simp; omega)]
  simp [show min j v.length = j by omega]
theorem low_down (v : List Int) (j : Nat) (hv : j < v.length) : (low v (j + 1)).set j 0 = low v j := by
  rw [low_set v j hv]
  simp only [low, zeros]
  rw [List.drop_eq_getElem_cons hv, List.map_cons]
theorem sum_const (k : Nat) : ∀ n : Nat, ((List.range n).map fun _ => k).sum = n * k := by
  intro n
  induction n with
  | zero => simp
  | succ n ih => rw [List.range_succ, List.map_append, List.sum_append, ih]; simp [Nat.add_mul]
theorem prod_length : ∀ c : List Int, (∀ x ∈ c, 0 ≤ x ∧ x ≤ 12) → (prod c).length ≤ 13 ^ c.length := by
  intro c
  induction c with
  | nil => intro _; simp [prod]
  | cons c r ih =>
    intro h
    have hr := ih fun x hx => h x (by simp [hx])
    have hc := h c (by simp)
    have e : (prod (c :: r)).length = (c.toNat + 1) * (prod r).length := by
      simp only [prod, List.length_flatMap, List.length_map]
      exact sum_const _ _
    rw [e, List.length_cons, Nat.pow_succ, Nat.mul_comm]
    exact Nat.mul_le_mul hr (by omega)
end Go.V37

/- The program's Plans. -/
namespace Go.V37
open Go Go.V Go.Proofs
theorem call23 (l : List Int) (h : H) : callV C h (.func 23 []) (some [ints l]) = some (.int .i64 (check l), h) :=
  callV_strip (by kernel_rfl) rfl rfl rfl (by simp) (check_call l)
theorem call24 (l : List Int) (h : H) : callV C h (.func 24 []) (some [ints l]) = some (.int .i64 (check l), h) :=
  callV_strip (by kernel_rfl) rfl rfl rfl (by simp) (error_call l)
theorem chk_ok : ∀ (l : List Int) (t : Int), chk l t = 0 → (∀ x ∈ l, 0 ≤ x ∧ x ≤ 12) ∧ t + l.sum ≤ 12 := by
  intro l
  induction l with
  | nil => intro t h; simp only [chk] at h; split at h <;> simp_all
  | cons x r ih =>
    intro t h
    simp only [chk] at h
    split at h
    · cases h
    · rename_i hx
      obtain ⟨h1, h2⟩ := ih _ h
      refine ⟨fun y hy => ?_, by simp only [List.sum_cons]; omega⟩
      rcases List.mem_cons.1 hy with rfl | hy
      · omega
      · exact h1 y hy
theorem check_ok (l : List Int) (h : check l = 0) : l.length ≤ 4 ∧ (∀ x ∈ l, 0 ≤ x ∧ x ≤ 12) ∧ l.sum ≤ 12 := by
  unfold check at h
  split at h
  · cases h
  · obtain ⟨h1, h2⟩ := chk_ok l 0 h
    exact ⟨by omega, h1, by omega⟩
set_option maxHeartbeats 1000000 in
theorem plans_bad (l : List Int) (hc : check l ≠ 0) : CallP C 8 [ints l] = some (.tuple [rows [], .int .i64 (check l)]) := by
  refine CallP_W rfl Try.func8 rfl (by kernel_rfl) (by simp [Try.f8]) fun R hR => ?_
  simp [go_sem, initS, call23, hc]
  refine hR _ _ _ (.inr rfl) ⟨_, rfl, ?_⟩
  simp [go_sem]
  exact snap_dat rfl rfl
set_option maxHeartbeats 1000000 in
theorem refPlans_bad (l : List Int) (hc : check l ≠ 0) : CallP C 9 [ints l] = some (.tuple [rows [], .int .i64 (check l)]) := by
  refine CallP_W rfl Try.func9 rfl (by kernel_rfl) (by simp [Try.f9]) fun R hR => ?_
  simp [go_sem, initS, call24, hc]
  refine hR _ _ _ (.inr rfl) ⟨_, rfl, ?_⟩
  simp [go_sem]
  exact snap_dat rfl rfl
theorem idxm (i n j : Nat) (c : Option Nat) (hj : j < n) : indexAddrV C.P 22 (.msl i 0 1 n c) (.int .i64 j) = some (.ptr i j) := by
  simp [indexAddrV, u22, s3, hj]
theorem ldm (a b : VObj) (g : H) (l : List Int) (k : Nat) (hk : k < l.length) : loadV C.P (a :: b :: .cells (l.map (AV.int .i64)) .live :: g) 3 (.ptr 2 k) = some (.int .i64 l[k]) := by
  simp [loadV, cellsAt, a3, s3, hk]
theorem stm (a b : VObj) (g : H) (l : List Int) (k : Nat) (x : Int) (hk : k < l.length) :
    storeV C.P (a :: b :: .cells (l.map (AV.int .i64)) .live :: g) 3 (.ptr 2 k) (.int .i64 x) = some (a :: b :: .cells ((l.set k x).map (AV.int .i64)) .live :: g) := by
  simp [storeV, s3, hk, List.map_set]
theorem make8 (h : H) (n : Nat) (hn : n ≤ 1000) : makeSliceV C.P (C.wr 8 15) h 22 (.int .i64 n) (.int .i64 n) = some (.msl h.length 0 1 n (some n), h ++ [.cells ((List.replicate n (0 : Int)).map (AV.int .i64)) .live]) := by
  have hw : C.wr 8 15 = true := rfl
  have e : (List.replicate n [AV.int .i64 0]).flatten = (List.replicate n (0 : Int)).map (AV.int .i64) := by
    induction n with
    | zero => rfl
    | succ n ih => simp only [List.replicate_succ, List.flatten_cons, List.map_cons, ih (by omega)]; rfl
  have h1 : (n : Int) ≤ 1073741824 := by omega
  simp [makeSliceV, u22, s3, b3, zv3, z3, hw, cells_int, h1]
theorem freeze_last (h : H) (cs : List AV) : Go.V.freeze (h ++ [VObj.cells cs .live]) [h.length] = h ++ [VObj.cells cs .frozen] := by
  simp [Go.V.freeze, freeze1]
theorem szOk_rows (l : List (List Int)) : szOk 1 (l.map ints) = true := by cases l <;> simp [szOk, AV.cells, ints]
theorem append_row (wr : Bool) (a : VObj) (g : H) (out : List (List Int)) (v : List Int) (x : Ext) (hl : out.length ≤ 1000000) :
    appendW C.P wr (a :: .tok out.length 22 :: g) 24 (.isl (out.map ints) (.tok 1)) (.isl [ints v] x) = some (.isl ((out ++ [v]).map ints) (.tok 1), a :: .tok (out ++ [v]).length 22 :: g) := by
  have hb : (out.length + 1) * (24 + 1) ≤ 35184372088832 := by omega
  have h1 : szOk 1 [ints v] = true := by simp [szOk, AV.cells, ints]
  simp [appendW, appendV, u24, s22, b22, elemsV, z22, h1, szOk_rows, hb]
end Go.V37

/- The program's Plans, where the vector is let in. -/
namespace Go.V37
open Go Go.V Go.Proofs
def Inv8 (c : List Int) (n : Nat) (s : PT) (h : H) : Prop := ∃ (out : List (List Int)) (v : List Int) (g : H), n = (rest c v).length ∧ within c v ∧ out ++ rest c v = prod c ∧
  h = .tok 0 22 :: .tok out.length 22 :: .cells (v.map (AV.int .i64)) .live :: g ∧ s.get 0 = .isl (c.map (AV.int .i64)) .unk ∧ s.get 5 = .isl (out.map ints) (.tok 1) ∧ s.get 6 = .msl 2 0 1 c.length (some c.length)
def In8 (c v : List Int) (out : List (List Int)) (g : H) (n : Nat) (s : PT) (h : H) : Prop := n ≤ v.length ∧ v.drop n = c.drop n ∧
  h = .tok 0 22 :: .tok out.length 22 :: .cells ((low v n).map (AV.int .i64)) .live :: g ∧ s.get 0 = .isl (c.map (AV.int .i64)) .unk ∧ s.get 5 = .isl (out.map ints) (.tok 1) ∧ s.get 6 = .msl 2 0 1 c.length (some c.length) ∧ s.get 7 = .int .i64 ((n : Int) - 1)
theorem len_ints (l : List Int) : lenV C.P 22 (ints l) = some (.int .i64 l.length) := by simp [ints, go_sem]
set_option maxHeartbeats 2000000 in
theorem plans_good (c : List Int) (hc : check c = 0) (hne : c ≠ []) : CallP C 8 [ints c] = some (.tuple [rows (prod c), .int .i64 0]) := by
  obtain ⟨hlen, hb, hsum⟩ := check_ok c hc
  have hn1 : 1 ≤ c.length := by cases c <;> simp_all
  have hp := prod_length c hb
  refine CallP_W rfl Try.func8 rfl (by kernel_rfl) (by simp [Try.f8]) fun R hR => ?_
  have hmk := fun h => make8 h c.length (by omega)
  have c23 := fun h => call23 c h
  simp [go_sem, initS, c23, hc, len_ints, hmk]
  refine W_loop (Inv8 c) (prod c).length ?_ ?_
  · refine ⟨[], zeros c, [], by rw [rest_zeros c (fun x hx => (hb x hx).1)], ?_, by rw [rest_zeros c (fun x hx => (hb x hx).1)]; rfl, ?_, ?_, ?_, ?_⟩
    · have : ∀ c : List Int, (∀ x ∈ c, 0 ≤ x ∧ x ≤ 12) → within c (zeros c) := by
        intro c
        induction c with
        | nil => intro _; trivial
        | cons a c ih => intro h; exact ⟨Int.le_refl _, (h a (by simp)).1, ih fun x hx => h x (by simp [hx])⟩
      exact this c hb
    · have : zeros c = List.replicate c.length 0 := by simp [zeros, List.map_const']
      rw [this, List.map_replicate]; rfl
    all_goals simp [go_sem, ints]
  · rintro n s h ⟨out, v, g, rfl, hw, ho, rfl, g0, g5, g6⟩
    have hvl := within_length c v hw
    have hv0 : v ≠ [] := by intro e; subst e; simp at hvl; omega
    have hcl := clone_row v 2 (some c.length) (.tok 0 22 :: .tok out.length 22 :: .cells (v.map (AV.int .i64)) .live :: g) rfl hv0 (by omega)
    rw [hvl] at hcl
    have hid2 : (VObj.tok 0 22 :: VObj.tok out.length 22 :: VObj.cells (v.map (AV.int .i64)) .live :: (g ++ [VObj.cells (v.map (AV.int .i64)) .live]))[g.length + 1 + 1 + 1]? = some (.cells (v.map (AV.int .i64)) .live) := by simp
    have hbs := buildSlice_row (P := C.P) (t := 24) (e := 22) (len := c.length) (cap := none) u24 s22 z22 hid2 (by simp [hvl]) (dats1_ints v) (by simp; omega)
    have hfr : Go.V.freeze (VObj.tok 0 22 :: VObj.tok out.length 22 :: VObj.cells (v.map (AV.int .i64)) .live :: (g ++ [VObj.cells (v.map (AV.int .i64)) .live])) [g.length + 1 + 1 + 1] =
        VObj.tok 0 22 :: VObj.tok out.length 22 :: VObj.cells (v.map (AV.int .i64)) .live :: (g ++ [VObj.cells (v.map (AV.int .i64)) .frozen]) :=
      freeze_last (VObj.tok 0 22 :: VObj.tok out.length 22 :: VObj.cells (v.map (AV.int .i64)) .live :: g) _
    have hch : chunk 1 c.length (v.map (AV.int .i64)) = v.map (AV.int .i64) := by
      have := chunk1 (v.map (AV.int .i64)); rwa [List.length_map, hvl] at this
    rw [hfr, hch] at hbs
    have hpow : (13 : Nat) ^ c.length ≤ 13 ^ 4 := Nat.pow_le_pow_right (by omega) hlen
    have hol : out.length ≤ 1000000 := by
      have := congrArg List.length ho
      rw [List.length_append] at this
      omega
    have hap := fun g => append_row (C.wr 8 20) (.tok 0 22) g out v .full hol
    simp only [ints] at hap hbs
    simp [go_sem, g5, g6, hcl, notTuple, hbs, hap]
    have w1 : IntKind.i64.wrap ((c.length : Int) - 1) = (c.length : Int) - 1 := wrap_in (by omega)
    refine W_loop (In8 c v (out ++ [v]) (g ++ [VObj.cells (v.map (AV.int .i64)) .frozen])) c.length ?_ ?_
    · refine ⟨by omega, by rw [List.drop_eq_nil_of_le (by omega), List.drop_eq_nil_of_le (by omega)], ?_, ?_, ?_, ?_, ?_⟩
      · rw [← hvl, low_all]; simp
      all_goals simp [go_sem, g0, g6, ints, w1]
    · clear hcl hid2 hbs hfr hch hap
      rintro n s2 h2 ⟨hn, hd, rfl, k0, k5, k6, k7⟩
      cases n with
      | zero =>
        have hvc : v = c := by simpa using hd
        subst hvc
        have hpr : out ++ [v] = prod v := by
          rw [← ho, rest_step v v (fun x hx => (hb x hx).1) hw, succ_none]
        have k7' : s2.get 7 = .int .i64 (-1) := by rw [k7]; rfl
        simp [go_sem, k0, k5, k6, k7']
        refine hR _ _ _ (.inr rfl) ⟨_, rfl, ?_⟩
        have hs := snap_dat (h := freezeAll (.tok 0 22 :: .tok (out.length + 1) 22 :: .cells ((low v 0).map (AV.int .i64)) .live :: (g ++ [.cells (v.map (AV.int .i64)) .frozen]))) (r := .tuple [.isl ((out ++ [v]).map ints) (.tok 1), .int .i64 0]) rfl rfl
        simp [go_sem]
        simp only [List.map_append, List.map_cons, List.map_nil] at hs
        rw [hs, ← hpr]; simp [rows]
      | succ j =>
        have hjv : j < v.length := by omega
        have hjc : j < c.length := by omega
        have k7' : s2.get 7 = .int .i64 j := by rw [k7]; congr 1; omega
        have hlg := low_get v (j + 1) j (by omega) hjv
        have hix := idxm 2 c.length j (some c.length) hjc
        have hld := fun g n => ldm (.tok 0 22) (.tok n 22) g (low v (j + 1)) j (by rw [low_length]; exact hjv)
        have hst := fun g n x => stm (.tok 0 22) (.tok n 22) g (low v (j + 1)) j x (by rw [low_length]; exact hjv)
        simp only [hlg] at hld
        by_cases he : v[j] = c[j]
        · have w2 : IntKind.i64.wrap ((j : Int) - 1) = (j : Int) - 1 := wrap_in (by omega)
          simp [go_sem, k0, k5, k6, k7', hix, hld, hst, idx c j hjc, ldi, he, w2]
          refine ⟨j, by omega, by omega, ?_, ?_, ?_, ?_, ?_, ?_⟩
          · rw [List.drop_eq_getElem_cons hjv, List.drop_eq_getElem_cons hjc, he, hd]
          · rw [← low_down v j hjv]; simp
          all_goals simp [go_sem, k0, k5, k6]
        · have hj0 : ¬ (j : Int) < 0 := by omega
          have hs := succ_some j c v hvl hjv hjc he hd
          have hvb : 0 ≤ v[j] ∧ v[j] ≤ 12 := by
            have : ∀ (c v : List Int), within c v → (∀ x ∈ c, 0 ≤ x ∧ x ≤ 12) → ∀ x ∈ v, 0 ≤ x ∧ x ≤ 12 := by
              intro c
              induction c with
              | nil => intro v hw _ x hx; cases v <;> simp_all [within]
              | cons a c ih =>
                intro v hw hb x hx
                cases v with
                | nil => simp at hx
                | cons b v =>
                  obtain ⟨h1, h2, h3⟩ := hw
                  have := hb a (by simp)
                  rcases List.mem_cons.1 hx with rfl | hx
                  · omega
                  · exact ih v h3 (fun y hy => hb y (by simp [hy])) x hx
            exact this c v hw hb _ (List.getElem_mem hjv)
          have w2 : IntKind.i64.wrap (v[j] + 1) = v[j] + 1 := wrap_in (by omega)
          simp [go_sem, k0, k5, k6, k7', hix, hld, hst, idx c j hjc, ldi, he, hj0, w2]
          have hstep := rest_step c v (fun x hx => (hb x hx).1) hw
          rw [hs] at hstep
          have hls := low_set v j hjv (v[j] + 1)
          refine ⟨(rest c (v.take j ++ (v[j] + 1) :: zeros (v.drop (j + 1)))).length, by rw [hstep]; simp, out ++ [v], _, g ++ [VObj.cells (v.map (AV.int .i64)) .frozen], rfl, succ_within c v _ hw hs, by rw [← ho, hstep]; simp, ?_, ?_, ?_, ?_⟩
          · rw [← hls]; simp
          all_goals simp [go_sem, k0, k5, k6]
end Go.V37

/- The document's Plans. -/
namespace Go.V37
open Go Go.V Go.Proofs
theorem append22 {h : H} {v : AV} {xs : List (List Int)} {ys : List (List Int)} {x : Ext} (o : OwnR 22 h v (xs.map ints)) (hl : xs.length + ys.length ≤ 1000000) :
    ∃ v' h', appendW C.P false h 24 v (.isl (ys.map ints) x) = some (v', h') ∧ OwnR 22 h' v' ((xs ++ ys).map ints) ∧ Keep h h' (idOf v) ∧ (idOf v' = idOf v ∨ idOf v = none ∧ idOf v' = some h.length) := by
  have := append_own (x := x) u24 s22 b22 z22 rfl o (szOk_rows xs) (szOk_rows ys) (by simp only [List.length_map]; omega)
  rwa [← List.map_append] at this
theorem append3 {h : H} {v : AV} {xs : List Int} {ys : List Int} {x : Ext} (o : OwnR 3 h v (xs.map (AV.int .i64))) (hl : xs.length + ys.length ≤ 1000000) :
    ∃ v' h', appendW C.P false h 22 v (.isl (ys.map (AV.int .i64)) x) = some (v', h') ∧ OwnR 3 h' v' ((xs ++ ys).map (AV.int .i64)) ∧ Keep h h' (idOf v) ∧ (idOf v' = idOf v ∨ idOf v = none ∧ idOf v' = some h.length) := by
  have := append_own (x := x) u22 s3 b3 z3 rfl o (szOk_ints xs) (szOk_ints ys) (by simp only [List.length_map]; omega)
  rwa [← List.map_append] at this
theorem build_ints (h : H) (n : Int) : buildSliceV C.P h 22 1 [(0, .int .i64 n)] = some (.isl [.int .i64 n] .full, h) := buildSlice_dats u22 s3 z3 rfl (by omega) rfl rfl rfl (by simp) rfl
theorem build_row (h : H) (l : List Int) (x : Ext) : buildSliceV C.P h 24 1 [(0, .isl (l.map (AV.int .i64)) x)] = some (.isl [ints l] .full, h) := buildSlice_dats u24 s22 z22 rfl (by omega) rfl rfl rfl (by simp) rfl
def OutI (c : List Int) (n : Nat) (s : PT) (h : H) : Prop := ∃ (i : Nat) (cur : List (List Int)) (x : Ext), n = c.length - i ∧ i ≤ c.length ∧ s.get 0 = ints c ∧ s.get 5 = .isl (cur.map ints) x ∧ s.get 6 = .int .i64 i ∧
  (c.drop i).foldl ext cur = prod c ∧ cur.length ≤ 13 ^ i ∧ ∀ p ∈ cur, p.length = i
def MidI (c : List Int) (i : Nat) (cur : List (List Int)) (x : Ext) (ci : Int) (n : Nat) (s : PT) (h : H) : Prop := ∃ (k : Nat) (more : List (List Int)), n = cur.length - k ∧ k ≤ cur.length ∧ s.get 0 = ints c ∧ s.get 5 = .isl (cur.map ints) x ∧ s.get 6 = .int .i64 i ∧
  s.get 8 = .int .i64 k ∧ OwnR 22 h (s.get 7) (more.map ints) ∧ more ++ ext (cur.drop k) ci = ext cur ci
def InnI (c : List Int) (i : Nat) (cur : List (List Int)) (x : Ext) (ci : Int) (k : Nat) (p : List Int) (n : Nat) (s : PT) (h : H) : Prop := ∃ (j : Nat) (more : List (List Int)), n = (ci.toNat + 1) - j ∧ j ≤ ci.toNat + 1 ∧ s.get 0 = ints c ∧ s.get 5 = .isl (cur.map ints) x ∧ s.get 6 = .int .i64 i ∧
  s.get 8 = .int .i64 k ∧ s.get 9 = .int .i64 j ∧ OwnR 22 h (s.get 7) (more.map ints) ∧ more ++ ((List.range' j (ci.toNat + 1 - j)).map fun (d : Nat) => p ++ [(d : Int)]) ++ ext (cur.drop (k + 1)) ci = ext cur ci
theorem ext_length (cur : List (List Int)) (c : Int) : (ext cur c).length = cur.length * (c.toNat + 1) := by
  simp only [ext, List.length_flatMap, List.length_map, List.length_range]
  induction cur with
  | nil => simp
  | cons p cur ih => simp only [List.map_cons, List.sum_cons, ih, List.length_cons, Nat.add_mul, Nat.one_mul]; omega
theorem len24' (l : List (List Int)) (x : Ext) : lenV C.P 24 (.isl (l.map ints) x) = some (.int .i64 l.length) := by simp [go_sem]
theorem ext_mem (cur : List (List Int)) (c : Int) (i : Nat) (h : ∀ p ∈ cur, p.length = i) : ∀ p ∈ ext cur c, p.length = i + 1 := by
  intro p hp
  simp only [ext, List.mem_flatMap, List.mem_map] at hp
  obtain ⟨q, hq, d, _, rfl⟩ := hp
  simp [h q hq]
set_option maxHeartbeats 2000000 in
theorem refPlans_good (c : List Int) (hc : check c = 0) : CallP C 9 [ints c] = some (.tuple [rows (prod c), .int .i64 0]) := by
  obtain ⟨hlen, hb, hsum⟩ := check_ok c hc
  refine CallP_W rfl Try.func9 rfl (by kernel_rfl) (by simp [Try.f9]) fun R hR => ?_
  have c24 := fun h => call24 c h
  have hbr := fun h => build_row h [] .full
  simp only [List.map_nil] at hbr
  simp [go_sem, c24, hc, build_nil, notTuple, hbr]
  refine W_loop (OutI c) c.length ⟨0, [[]], .full, ?_⟩ ?_
  · simp [go_sem, foldl_prod]
  · rintro n s h ⟨i, cur, x, rfl, hi, g0, g5, g6, hf, hcl, hcp⟩
    by_cases hlt : i < c.length
    · have hlt' : (i : Int) < c.length := by omega
      have hb1 := hb c[i] (List.getElem_mem hlt)
      have hpow : (13 : Nat) ^ i ≤ 13 ^ 4 := Nat.pow_le_pow_right (by omega) (by omega)
      have hel := ext_length cur c[i]
      have hcb : (ext cur c[i]).length ≤ 500000 := by
        rw [hel]
        have : cur.length * (c[i].toNat + 1) ≤ 28561 * 13 := Nat.mul_le_mul (by omega) (by omega)
        omega
      have w1 : IntKind.i64.wrap ((i : Int) + 1) = i + 1 := wrap_in (by omega)
      simp [go_sem, g0, g6, len_ints, hlt']
      refine W_loop (MidI c i cur x c[i]) cur.length ⟨0, [], ?_⟩ ?_
      · simp [go_sem, g0, g5, g6, OwnR.new]
      · rintro n s2 h2 ⟨k, more, rfl, hk, k0, k5, k6, k8, ko, km⟩
        by_cases hkt : k < cur.length
        · have hkt' : (k : Int) < cur.length := by omega
          simp [go_sem, k5, k8, hkt']
          refine W_loop (InnI c i cur x c[i] k cur[k]) (c[i].toNat + 1) ⟨0, more, ?_⟩ ?_
          · simp [go_sem, k0, k5, k6, k8, ko, OwnR.keep ko (.refl _ none)]
            rw [← km]
            unfold ext
            rw [List.drop_eq_getElem_cons hkt]
            simp only [List.flatMap_cons, List.range_eq_range', List.append_assoc]
          · rintro n s3 h3 ⟨j, more3, rfl, hj, m0, m5, m6, m8, m9, mo, mm⟩
            have hix := idx c i hlt .unk
            have hlm := congrArg List.length mm
            simp only [List.length_append] at hlm
            by_cases hjt : j < c[i].toNat + 1
            · have hjt' : (j : Int) ≤ c[i] := by omega
              have hp := hcp cur[k] (List.getElem_mem hkt)
              have w2 : IntKind.i64.wrap ((j : Int) + 1) = j + 1 := wrap_in (by omega)
              generalize g7 : s3.get 7 = v7 at mo
              obtain ⟨v1, h1, e1, o1, f1, i1⟩ := append3 (xs := []) (ys := cur[k]) (x := .unk) (.inl rfl : OwnR 3 h3 (.isl [] .full) []) (by simp; omega)
              obtain ⟨v2, h4, e2, o2, f2, i2⟩ := append3 (ys := [(j : Int)]) (x := .full) o1 (by simp; omega)
              obtain ⟨x2, rfl⟩ := o2.isl
              have f3 : Keep h3 h4 none := f1.trans f2 (by rcases i1 with e | ⟨_, e⟩ <;> rw [e] <;> simp [idOf])
              have o7 : OwnR 22 h4 v7 (more3.map ints) := mo.keep f3 (by simp)
              obtain ⟨v4, h5, e4, o4, f4, i4⟩ := append22 (ys := [cur[k] ++ [(j : Int)]]) (x := .full) o7 (by simp; omega)
              have hbr := fun h => build_row h (cur[k] ++ [(j : Int)]) x2
              have hri := idxr cur k hkt x
              have hli := fun h => ldr cur[k] h
              simp only [ints, List.map_cons, List.map_nil, List.nil_append, List.map_append] at m0 e4 hri hli e1 e2 hbr
              have hwr : C.wr 9 43 = false ∧ C.wr 9 46 = false ∧ C.wr 9 48 = false := ⟨rfl, rfl, rfl⟩
              simp [go_sem, m0, m5, m6, m8, m9, hix, ldi, hjt', build_nil, hri, hli, e1, build_ints, notTuple, e2, hbr, g7, e4, hwr, w2]
              refine ⟨c[i].toNat + 1 - (j + 1), by omega, j + 1, more3 ++ [cur[k] ++ [(j : Int)]], ?_⟩
              refine ⟨rfl, by omega, ?_, ?_, ?_, ?_, ?_, ?_, ?_⟩
              · simp [go_sem, m0, ints]
              · simp [go_sem, m5]
              · simp [go_sem, m6]
              · simp [go_sem, m8]
              · simp [go_sem, w2]
              · simpa [go_sem, ints] using o4
              · rw [← mm]
                have : c[i].toNat + 1 - j = (c[i].toNat + 1 - (j + 1)) + 1 := by omega
                rw [this, List.range'_succ]; simp
            · have hjt' : ¬ (j : Int) ≤ c[i] := by omega
              have w3 : IntKind.i64.wrap ((k : Int) + 1) = k + 1 := wrap_in (by omega)
              simp only [ints] at m0
              simp [go_sem, m0, m6, m8, m9, hix, ldi, hjt', w3]
              have hj0 : c[i].toNat + 1 - j = 0 := by omega
              refine ⟨cur.length - (k + 1), by omega, k + 1, more3, rfl, by omega, ?_, ?_, ?_, ?_, ?_, ?_⟩
              · simp [go_sem, m0, ints]
              · simp [go_sem, m5]
              · simp [go_sem, m6]
              · simp [go_sem]
              · simpa [go_sem] using mo
              · rw [← mm, hj0]; simp
        · have hkt' : ¬ (k : Int) < cur.length := by omega
          have hk0 : k = cur.length := by omega
          subst hk0
          simp [go_sem, k5, k6, k8, w1]
          obtain ⟨x7, h7⟩ := ko.isl
          have hmc : more = ext cur c[i] := by rw [← km]; simp [ext]
          refine ⟨c.length - (i + 1), by omega, i + 1, more, x7, rfl, by omega, ?_, ?_, ?_, ?_, ?_, ?_⟩
          · simp [go_sem, k0]
          · simp [go_sem, h7]
          · simp [go_sem]
          · rw [hmc, ← hf, List.drop_eq_getElem_cons hlt]; rfl
          · rw [hmc, hel, Nat.pow_succ]; exact Nat.mul_le_mul hcl (by omega)
          · rw [hmc]; exact ext_mem cur c[i] i hcp
    · have hlt' : ¬ (i : Int) < c.length := by omega
      have hk0 : i = c.length := by omega
      subst hk0
      simp [go_sem, g0, g5, g6, len_ints]
      refine hR _ _ _ (.inr rfl) ⟨_, rfl, ?_⟩
      simp only [List.drop_length, List.foldl_nil] at hf
      subst hf
      simp [go_sem]
      exact snap_dat rfl rfl
end Go.V37

/- The first law, by the value machine. -/
namespace Go.V37
open Go Go.V Go.Proofs
/-- What a closed call comes to, as the kernel runs it. -/
noncomputable def out (n : Nat) (f : FuncId) (args : List AV) : Option AV := match callR C n f args [] with
  | some (r, h1) => snap (freezeAll h1) deep r
  | none => none
theorem CallP_out {n : Nat} {f : FuncId} {args : List AV} {v : AV} (h : out n f args = some v) : CallP C f args = some v := by
  unfold out at h
  split at h <;> first | (cases h; done) | skip
  rename_i r h1 hx
  unfold CallP
  rw [Call_of n hx]; exact h
theorem plans_nil : CallP C 8 [ints []] = some (.tuple [rows (prod []), .int .i64 0]) := CallP_out (n := 1000) (by kernel_rfl)
theorem plans_call (c : List Int) : CallP C 8 [ints c] = some (.tuple [rows (if check c = 0 then prod c else []), .int .i64 (check c)]) := by
  by_cases hc : check c = 0
  · simp only [hc, if_true]
    by_cases hn : c = []
    · subst hn; exact plans_nil
    · exact plans_good c hc hn
  · simp only [hc, if_false]; exact plans_bad c hc
theorem refPlans_call (c : List Int) : CallP C 9 [ints c] = some (.tuple [rows (if check c = 0 then prod c else []), .int .i64 (check c)]) := by
  by_cases hc : check c = 0
  · simp only [hc, if_true]; exact refPlans_good c hc
  · simp only [hc, if_false]; exact refPlans_bad c hc
theorem call7 (h : H) : callV C h (.func 7 []) (some []) = some (.bool true, h) := callV_strip (by kernel_rfl) rfl rfl rfl (by simp) awake_call
theorem call8 (c : List Int) (h : H) : callV C h (.func 8 []) (some [ints c]) = some (.tuple [rows (if check c = 0 then prod c else []), .int .i64 (check c)], h) :=
  callV_strip (by kernel_rfl) rfl rfl rfl (by simp) (plans_call c)
theorem call9 (c : List Int) (h : H) : callV C h (.func 9 []) (some [ints c]) = some (.tuple [rows (if check c = 0 then prod c else []), .int .i64 (check c)], h) :=
  callV_strip (by kernel_rfl) rfl rfl rfl (by simp) (refPlans_call c)
theorem prod_rows : ∀ c : List Int, ∀ x ∈ prod c, x.length = c.length := by
  intro c
  induction c with
  | nil => intro x hx; simp [prod] at hx; subst hx; rfl
  | cons c r ih =>
    intro x hx
    simp only [prod, List.mem_flatMap, List.mem_map] at hx
    obtain ⟨j, _, y, hy, rfl⟩ := hx
    simp [ih y hy]
theorem law1 (c : List Int) : CallP C 3 [ints c] = some (.bool true) := by
  refine CallP_W rfl Try.func3 rfl (by kernel_rfl) (by simp [Try.f3]) fun R hR => ?_
  have c7 := fun h => call7 h
  have c8 := fun h => call8 c h
  have c9 := fun h => call9 c h
  by_cases hl : c.length > 10
  · have hl' : 10 < (c.length : Int) := by omega
    simp [go_sem, c7, len_ints, hl']
    refine hR _ _ _ (.inr rfl) ⟨_, rfl, ?_⟩
    simp [go_sem]
    exact snap_dat rfl rfl
  · have hl' : ¬ 10 < (c.length : Int) := by omega
    generalize hp : (if check c = 0 then prod c else []) = l at c8 c9
    have hpl : l.length ≤ 9223372036854775807 ∧ ∀ x ∈ l, x.length ≤ 9223372036854775807 := by
      subst hp
      split
      · rename_i hc
        obtain ⟨hlen, hb, hsum⟩ := check_ok c hc
        have h1 := prod_length c hb
        have hpow : (13 : Nat) ^ c.length ≤ 13 ^ 4 := Nat.pow_le_pow_right (by omega) hlen
        exact ⟨by omega, fun x hx => by rw [prod_rows c x hx]; omega⟩
      · exact ⟨by simp, by simp⟩
    have c10 := fun h => call10 l l h hpl.1 hpl.2
    simp [go_sem, c7, len_ints, hl', c8, c9, c10]
    refine hR _ _ _ (.inr rfl) ⟨_, rfl, ?_⟩
    simp [go_sem]
    exact snap_dat rfl rfl
end Go.V37
