/- The value machine at the program of this seat: its ways of calling, and facts on its types. -/
import Derived.Test.YtpakendifgcibaaV21
import Derived.Test.YtpakendifgcibaaProg
import Derived.Test.YtpakendifgcibaaV22
import Derived.Test.YtpakendifgcibaaV23
import Derived.Test.YtpakendifgcibaaV24
import Derived.Test.YtpakendifgcibaaV25
namespace Go.V37
open Go Go.V Go.Proofs
/-- A copy of an empty slice: nil or not, what comes back is empty. -/
def prim : FuncId → List AV → H → Option (AV × H) := fun f args h => if f = 19 then (match args with | [.isl [] _] => some (.isl [] .full, h) | _ => none) else none
def md : FuncId → Go.V.Mode := fun f => if f = 33 ∨ f = 36 ∨ f = 37 then .openH else if f = 19 then .ownM else if f = 29 then .ownT else .strip
def wrt : FuncId → Tmp → Bool := fun f t => (f == 8 && t == 15) || (f == 36 && t == 12) || (f == 12 && t == 22) || (f == 15 && t == 25) || (f == 27 && t == 11) || (f == 29 && t == 8)
noncomputable def C : Cfg := { P := Try.prog, mode := md, wr := wrt, prim := prim }
theorem u22 : C.P.underlying 22 = some (.slice 3) := Try.underlying22
theorem u24 : C.P.underlying 24 = some (.slice 22) := Try.underlying24
theorem s3 : sizeV C.P 3 = some 1 := by kernel_rfl
theorem s22 : sizeV C.P 22 = some 1 := by kernel_rfl
theorem a3 : isAggB C.P 3 = some false := by kernel_rfl
theorem a22 : isAggB C.P 22 = some false := by kernel_rfl
theorem z3 : zeroOk C.P 3 = true := by kernel_rfl
theorem z22 : zeroOk C.P 22 = true := by kernel_rfl
theorem b3 : bytesV C.P 3 = some 8 := by kernel_rfl
theorem b22 : bytesV C.P 22 = some 24 := by kernel_rfl
theorem zv3 : zeroV C.P 3 = some (.int .i64 0) := by kernel_rfl
theorem zv24 : zeroV C.P 24 = some (.isl [] .full) := by kernel_rfl
theorem zv22 : zeroV C.P 22 = some (.isl [] .full) := by kernel_rfl
theorem is22 : isSliceT C.P 22 = some 3 := by kernel_rfl
theorem is24 : isSliceT C.P 24 = some 22 := by kernel_rfl
attribute [go_sem] u22 u24 s3 s22 a3 a22 z3 z22 b3 b22 zv3 zv24 zv22 is22 is24
/-- A row of numbers. -/
def ints (l : List Int) : AV := .isl (l.map (AV.int .i64)) .unk
def rows (l : List (List Int)) : AV := .isl (l.map ints) .unk
theorem cells_int (k : IntKind) (n : Int) : (AV.int k n).cells = [.int k n] := rfl
theorem cells_isl (l : List AV) (x : Ext) : (AV.isl l x).cells = [.isl l x] := rfl
theorem len22 (es : List AV) (x : Ext) : lenV C.P 22 (.isl es x) = some (.int .i64 es.length) := by simp [lenV, u22]
theorem len24 (es : List AV) (x : Ext) : lenV C.P 24 (.isl es x) = some (.int .i64 es.length) := by simp [lenV, u24]
theorem len22m (i o z n : Nat) (c : Option Nat) : lenV C.P 22 (.msl i o z n c) = some (.int .i64 n) := by simp [lenV, u22]
attribute [go_sem] len22 len24 len22m
theorem idx (l : List Int) (k : Nat) (hk : k < l.length) (x : Ext) : indexAddrV C.P 22 (.isl (l.map (AV.int .i64)) x) (.int .i64 k) = some (.iptr (.int .i64 l[k]) 0) := by
  simp [indexAddrV, u22, s3, cells_int, hk]
theorem idxr (l : List (List Int)) (k : Nat) (hk : k < l.length) (x : Ext) : indexAddrV C.P 24 (.isl (l.map ints) x) (.int .i64 k) = some (.iptr (ints l[k]) 0) := by
  simp [indexAddrV, u24, s22, ints, cells_isl, hk]
theorem ldi (n : Int) (h : H) : loadV C.P h 3 (.iptr (.int .i64 n) 0) = some (.int .i64 n) := by
  simp [loadV, cellsAt, a3, s3, AV.cells]
theorem ldr (l : List Int) (h : H) : loadV C.P h 22 (.iptr (ints l) 0) = some (ints l) := by
  simp [loadV, cellsAt, a22, s22, AV.cells, ints]
def isYes : Option (AV × H) → Bool
  | some (.bool true, _) => true
  | _ => false
theorem isYes_CallP {f : FuncId} {args : List AV} (h : isYes (callR C 1000 f args []) = true) : CallP C f args = some (.bool true) := by
  cases hx : callR C 1000 f args [] with
  | none => rw [hx] at h; cases h
  | some x =>
    obtain ⟨r, h1⟩ := x
    rw [hx] at h
    unfold isYes at h
    split at h <;> first | (cases h; done) | skip
    rename_i e
    simp only [Option.some.injEq, Prod.mk.injEq] at e
    obtain ⟨rfl, rfl⟩ := e
    unfold CallP
    rw [Call_of 1000 hx]
    exact snap_dat rfl rfl
theorem awake_call : CallP C 7 [] = some (.bool true) := isYes_CallP (by kernel_rfl)
end Go.V37

/- Which vectors are let in: the program's check and the document's. -/
namespace Go.V37
open Go Go.V Go.Proofs
def chk : List Int → Int → Int
  | [], t => if t > 12 then 3 else 0
  | x :: r, t => if x < 0 ∨ x > 12 then 7 else chk r (t + x)
def check (l : List Int) : Int := if l.length > 4 then 3 else chk l 0
theorem chk_drop (l : List Int) (k : Nat) (hk : k < l.length) (t : Int) : chk (l.drop k) t = if l[k] < 0 ∨ l[k] > 12 then 7 else chk (l.drop (k + 1)) (t + l[k]) := by
  rw [List.drop_eq_getElem_cons hk]; rfl
set_option maxHeartbeats 1000000 in
theorem check_call (l : List Int) : CallP C 23 [ints l] = some (.int .i64 (check l)) := by
  refine CallP_W rfl Try.func23 rfl (by kernel_rfl) (by simp [Try.f23]) fun R hR => ?_
  by_cases h4 : l.length > 4
  · have h4' : 4 < (l.length : Int) := by omega
    simp [go_sem, initS, ints, h4']
    refine hR _ _ _ (.inr rfl) ⟨_, rfl, ?_⟩
    simp [go_sem, check, h4]
    exact snap_dat rfl rfl
  · have h4' : ¬ 4 < (l.length : Int) := by omega
    simp [go_sem, initS, ints, h4']
    refine W_loop (fun n s h => ∃ k : Nat, ∃ t : Int, n = l.length - k ∧ k ≤ l.length ∧ 0 ≤ t ∧ t ≤ 12 * k ∧ h = [] ∧ s.get 9 = .isl (l.map (AV.int .i64)) .unk ∧ s.get 10 = .int .i64 l.length ∧ s.get 11 = .int .i64 k ∧ s.get 3 = .int .i64 t ∧ chk (l.drop k) t = check l) l.length
      ⟨0, 0, by simp [go_sem, check, h4, ints]⟩ ?_
    rintro n s h ⟨k, t, rfl, hk, ht0, ht1, rfl, g9, g10, g11, g3, hc⟩
    by_cases hlt : k < l.length
    · have hlt' : (k : Int) < l.length := by omega
      have hd := chk_drop l k hlt t
      by_cases c1 : l[k] < 0
      · simp [go_sem, g9, g10, g11, g3, hlt', idx l k hlt, ldi, c1]
        refine hR _ _ _ (.inr rfl) ⟨_, rfl, ?_⟩
        simp only [go_sem, reduceIte, ← hc, hd, c1, true_or]
        exact snap_dat rfl rfl
      · by_cases c2 : 12 < l[k]
        · simp [go_sem, g9, g10, g11, g3, hlt', idx l k hlt, ldi, c1, c2]
          refine hR _ _ _ (.inr rfl) ⟨_, rfl, ?_⟩
          simp only [go_sem, reduceIte, ← hc, hd, c2, or_true]
          exact snap_dat rfl rfl
        · have w1 : IntKind.i64.wrap (t + l[k]) = t + l[k] := wrap_in (by omega)
          have w2 : IntKind.i64.wrap ((k : Int) + 1) = k + 1 := wrap_in (by omega)
          simp [go_sem, g9, g10, g11, g3, hlt', idx l k hlt, ldi, c1, c2, w1, w2]
          refine ⟨l.length - (k + 1), by omega, k + 1, rfl, hlt, t + l[k], by omega, by omega, by omega, rfl, ?_⟩
          rw [← hc, hd, if_neg (by omega)]
    · have hk' : k = l.length := by omega
      subst hk'
      have hc' : check l = if t > 12 then 3 else 0 := by rw [← hc]; simp [chk]
      by_cases c3 : 12 < t
      · simp [go_sem, g9, g10, g11, g3, c3]
        refine hR _ _ _ (.inr rfl) ⟨_, rfl, ?_⟩
        simp [go_sem, hc', c3]
        exact snap_dat rfl rfl
      · simp [go_sem, g9, g10, g11, g3, c3]
        refine hR _ _ _ (.inr rfl) ⟨_, rfl, ?_⟩
        simp [go_sem, hc', c3]
        exact snap_dat rfl rfl
set_option maxHeartbeats 1000000 in
theorem error_call (l : List Int) : CallP C 24 [ints l] = some (.int .i64 (check l)) := by
  refine CallP_W rfl Try.func24 rfl (by kernel_rfl) (by simp [Try.f24]) fun R hR => ?_
  by_cases h4 : l.length > 4
  · have h4' : 4 < (l.length : Int) := by omega
    simp [go_sem, initS, ints, h4']
    refine hR _ _ _ (.inr rfl) ⟨_, rfl, ?_⟩
    simp [go_sem, check, h4]
    exact snap_dat rfl rfl
  · have h4' : ¬ 4 < (l.length : Int) := by omega
    simp [go_sem, initS, ints, h4']
    refine W_loop (fun n s h => ∃ k : Nat, ∃ t : Int, n = l.length - k ∧ k ≤ l.length ∧ 0 ≤ t ∧ t ≤ 12 * k ∧ h = [] ∧ s.get 0 = .isl (l.map (AV.int .i64)) .unk ∧ s.get 4 = .int .i64 k ∧ s.get 3 = .int .i64 t ∧ chk (l.drop k) t = check l) l.length
      ⟨0, 0, by simp [go_sem, check, h4, ints]⟩ ?_
    rintro n s h ⟨k, t, rfl, hk, ht0, ht1, rfl, g9, g11, g3, hc⟩
    by_cases hlt : k < l.length
    · have hlt' : (k : Int) < l.length := by omega
      have hd := chk_drop l k hlt t
      by_cases c1 : l[k] < 0
      · simp [go_sem, g9, g11, g3, hlt', idx l k hlt, ldi, c1]
        refine hR _ _ _ (.inr rfl) ⟨_, rfl, ?_⟩
        simp only [go_sem, reduceIte, ← hc, hd, c1, true_or]
        exact snap_dat rfl rfl
      · by_cases c2 : 12 < l[k]
        · simp [go_sem, g9, g11, g3, hlt', idx l k hlt, ldi, c1, c2]
          refine hR _ _ _ (.inr rfl) ⟨_, rfl, ?_⟩
          simp only [go_sem, reduceIte, ← hc, hd, c2, or_true]
          exact snap_dat rfl rfl
        · have w1 : IntKind.i64.wrap (t + l[k]) = t + l[k] := wrap_in (by omega)
          have w2 : IntKind.i64.wrap ((k : Int) + 1) = k + 1 := wrap_in (by omega)
          simp [go_sem, g9, g11, g3, hlt', idx l k hlt, ldi, c1, c2, w1, w2]
          refine ⟨l.length - (k + 1), by omega, k + 1, rfl, hlt, t + l[k], by omega, by omega, by omega, rfl, ?_⟩
          rw [← hc, hd, if_neg (by omega)]
    · have hk' : k = l.length := by omega
      subst hk'
      have hc' : check l = if t > 12 then 3 else 0 := by rw [← hc]; simp [chk]
      by_cases c3 : 12 < t
      · simp [go_sem, g9, g11, g3, c3]
        refine hR _ _ _ (.inr rfl) ⟨_, rfl, ?_⟩
        simp [go_sem, hc', c3]
        exact snap_dat rfl rfl
      · simp [go_sem, g9, g11, g3, c3]
        refine hR _ _ _ (.inr rfl) ⟨_, rfl, ?_⟩
        simp [go_sem, hc', c3]
        exact snap_dat rfl rfl
end Go.V37

/- Rows compared. -/
namespace Go.V37
open Go Go.V Go.Proofs
theorem eq_of_take {α : Type} {a b : List α} (hl : a.length = b.length) (h : ∀ k (h1 : k < a.length) (h2 : k < b.length), a[k] = b[k]) : a = b := List.ext_getElem hl h
set_option maxHeartbeats 1000000 in
theorem equal_call (a b : List Int) (ha : a.length ≤ 9223372036854775807) : CallP C 14 [ints a, ints b] = some (.bool (decide (a = b))) := by
  refine CallP_W rfl Try.func14 rfl (by kernel_rfl) (by simp [Try.f14]) fun R hR => ?_
  by_cases hl : a.length = b.length
  · have hl' : (a.length : Int) = b.length := by omega
    simp [go_sem, initS, ints, hl']
    refine W_loop (fun n s h => ∃ k : Nat, n = a.length - k ∧ k ≤ a.length ∧ h = [] ∧ s.get 0 = .isl (a.map (AV.int .i64)) .unk ∧ s.get 1 = .isl (b.map (AV.int .i64)) .unk ∧ s.get 12 = .int .i64 a.length ∧ s.get 13 = .int .i64 k ∧
        ∀ j (h1 : j < a.length) (h2 : j < b.length), j < k → a[j] = b[j]) a.length
      ⟨0, by simp [go_sem, ints, rows, hl']⟩ ?_
    rintro n s h ⟨k, rfl, hk, rfl, g0, g1, g12, g13, hc⟩
    by_cases hlt : k < a.length
    · have hlt' : (k : Int) < a.length := by omega
      have hlb : k < b.length := by omega
      simp [go_sem, g0, g1, g12, g13, hlt', idx a k hlt, idx b k hlb, ldi]
      by_cases he : a[k] = b[k]
      · have w2 : IntKind.i64.wrap ((k : Int) + 1) = k + 1 := wrap_in (by omega)
        simp [go_sem, g0, g1, g12, g13, he, w2]
        refine ⟨a.length - (k + 1), by omega, k + 1, rfl, hlt, by omega, fun j h1 h2 hj => ?_⟩
        by_cases e : j = k
        · subst e; exact he
        · exact hc j h1 h2 (by omega)
      · simp [go_sem, g0, g1, g12, g13, he]
        refine hR _ _ _ (.inr rfl) ⟨_, rfl, ?_⟩
        have hne : a ≠ b := fun e => by subst e; exact he rfl
        simp [go_sem, hne]
        exact snap_dat rfl rfl
    · have hk' : k = a.length := by omega
      subst hk'
      simp [go_sem, g0, g1, g12, g13]
      refine hR _ _ _ (.inr rfl) ⟨_, rfl, ?_⟩
      have heq : a = b := eq_of_take hl fun j h1 h2 => hc j h1 h2 h1
      simp [go_sem, heq]
      exact snap_dat rfl rfl
  · have hl' : ¬ (a.length : Int) = b.length := by omega
    simp [go_sem, initS, ints, hl']
    refine hR _ _ _ (.inr rfl) ⟨_, rfl, ?_⟩
    have hne : a ≠ b := fun e => hl (by rw [e])
    simp [go_sem, hne]
    exact snap_dat rfl rfl
theorem callV_strip {f : FuncId} {args args' : List AV} {v : AV} {h : H} (hb : hasBody C.P f = true) (hm : C.mode f = .strip) (hd : dats args = some args') (hs : args.all short = true) (hl : args.length < 90000)
    (hc : CallP C f args' = some v) : callV C h (.func f []) (some args) = some (v, h) := by
  simp only [callV, hb, if_true, List.append_nil]
  rw [applyCall_strip hm hd hs hl, hc]
theorem call14 (a b : List Int) (h : H) (ha : a.length ≤ 9223372036854775807) : callV C h (.func 14 []) (some [ints a, ints b]) = some (.bool (decide (a = b)), h) :=
  callV_strip (by kernel_rfl) rfl rfl rfl (by simp) (equal_call a b ha)
set_option maxHeartbeats 1000000 in
theorem equalFunc_call (a b : List (List Int)) (ha : a.length ≤ 9223372036854775807) (hx : ∀ x ∈ a, x.length ≤ 9223372036854775807) : CallP C 25 [rows a, rows b, .func 14 []] = some (.bool (decide (a = b))) := by
  refine CallP_W rfl Try.func25 rfl (by kernel_rfl) (by simp [Try.f25]) fun R hR => ?_
  by_cases hl : a.length = b.length
  · have hl' : (a.length : Int) = b.length := by omega
    simp [go_sem, initS, rows, hl']
    refine W_loop (fun n s h => ∃ k : Nat, n = a.length - k ∧ k ≤ a.length ∧ h = [] ∧ s.get 15 = .isl (a.map ints) .unk ∧ s.get 1 = .isl (b.map ints) .unk ∧ s.get 2 = .func 14 [] ∧ s.get 16 = .int .i64 a.length ∧ s.get 17 = .int .i64 k ∧
        ∀ j (h1 : j < a.length) (h2 : j < b.length), j < k → a[j] = b[j]) a.length
      ⟨0, by simp [go_sem, ints, rows, hl']⟩ ?_
    rintro n s h ⟨k, rfl, hk, rfl, g0, g1, g2, g12, g13, hc⟩
    by_cases hlt : k < a.length
    · have hlt' : (k : Int) < a.length := by omega
      have hlb : k < b.length := by omega
      have c14 := fun h => call14 a[k] b[k] h (hx _ (List.getElem_mem hlt))
      simp [go_sem, g0, g1, g2, g12, g13, hlt', idxr a k hlt, idxr b k hlb, ldr, c14]
      by_cases he : a[k] = b[k]
      · have w2 : IntKind.i64.wrap ((k : Int) + 1) = k + 1 := wrap_in (by omega)
        simp [go_sem, g0, g1, g2, g12, g13, he, w2]
        refine ⟨a.length - (k + 1), by omega, k + 1, rfl, hlt, by omega, fun j h1 h2 hj => ?_⟩
        by_cases e : j = k
        · subst e; exact he
        · exact hc j h1 h2 (by omega)
      · simp [go_sem, he]
        refine hR _ _ _ (.inr rfl) ⟨_, rfl, ?_⟩
        have hne : a ≠ b := fun e => by subst e; exact he rfl
        simp [go_sem, hne]
        exact snap_dat rfl rfl
    · have hk' : k = a.length := by omega
      subst hk'
      simp [go_sem, g12, g13]
      refine hR _ _ _ (.inr rfl) ⟨_, rfl, ?_⟩
      have heq : a = b := eq_of_take hl fun j h1 h2 => hc j h1 h2 h1
      simp [go_sem, heq]
      exact snap_dat rfl rfl
  · have hl' : ¬ (a.length : Int) = b.length := by omega
    simp [go_sem, initS, rows, hl']
    refine hR _ _ _ (.inr rfl) ⟨_, rfl, ?_⟩
    have hne : a ≠ b := fun e => hl (by rw [e])
    simp [go_sem, hne]
    exact snap_dat rfl rfl
theorem call25 (a b : List (List Int)) (h : H) (ha : a.length ≤ 9223372036854775807) (hx : ∀ x ∈ a, x.length ≤ 9223372036854775807) : callV C h (.func 25 []) (some [rows a, rows b, .func 14 []]) = some (.bool (decide (a = b)), h) :=
  callV_strip (by kernel_rfl) rfl rfl rfl (by simp) (equalFunc_call a b ha hx)
set_option maxHeartbeats 1000000 in
theorem same_call (a b : List (List Int)) (ha : a.length ≤ 9223372036854775807) (hx : ∀ x ∈ a, x.length ≤ 9223372036854775807) : CallP C 10 [rows a, rows b] = some (.bool (decide (a = b))) := by
  refine CallP_W rfl Try.func10 rfl (by kernel_rfl) (by simp [Try.f10]) fun R hR => ?_
  have c25 := fun h => call25 a b h ha hx
  simp [go_sem, initS, c25]
  refine hR _ _ _ (.inr rfl) ⟨_, rfl, ?_⟩
  simp [go_sem]
  exact snap_dat rfl rfl
theorem call10 (a b : List (List Int)) (h : H) (ha : a.length ≤ 9223372036854775807) (hx : ∀ x ∈ a, x.length ≤ 9223372036854775807) : callV C h (.func 10 []) (some [rows a, rows b]) = some (.bool (decide (a = b)), h) :=
  callV_strip (by kernel_rfl) rfl rfl rfl (by simp) (same_call a b ha hx)
end Go.V37

/- A copy of a row of one's own. -/
namespace Go.V37
open Go Go.V Go.Proofs
theorem nil_cmp (es : List AV) (e : Ext) (x : Operand) (h : es ≠ []) : binV C.P .eql 22 x (.const (.slice none 0 0)) (.isl es e) (.isl [] .full) = some (.bool false) := by
  have : es.isEmpty = false := by cases es <;> simp_all
  simp [binV, toVal, toScalar, nilCmpV, isNil, sureV, isSl, u22, eqSign, this]
theorem append_full (wr : Bool) (hw : wr = false) (es : List AV) (e : Ext) (h : H) (hne : es ≠ []) (hz : szOk 1 es = true) (hl : es.length ≤ 1000000) : appendW C.P wr h 22 (.isl [] .full) (.isl es e) = some (.isl es (.tok h.length), h ++ [.tok es.length 3]) := by
  subst hw
  have hb : es.length * 9 ≤ 35184372088832 := by omega
  cases es with
  | nil => exact absurd rfl hne
  | cons a es =>
    simp only [List.length_cons] at hb
    simp [appendW, appendV, u22, s3, b3, elemsV, z3, szOk, hb] at hz ⊢
    exact hz
theorem build_nil (h : H) : buildSliceV C.P h 22 0 [] = some (.isl [] .full, h) := buildSlice_dats u22 s3 z3 rfl (by omega) rfl rfl rfl (by simp) rfl
theorem szOk_ints (l : List Int) : szOk 1 (l.map (AV.int .i64)) = true := by cases l <;> simp [szOk, AV.cells]
set_option maxHeartbeats 1000000 in
theorem clone_call (l : List Int) (h : H) (hl : l ≠ []) (hs : l.length ≤ 1000000) : Go.V.Call C 19 [ints l] h = some (.isl (l.map (AV.int .i64)) (.tok (h.length + 1)), h ++ [.tok 0 3, .tok l.length 3]) := by
  have hm : l.map (AV.int .i64) ≠ [] := by simpa using hl
  refine Call_W (by cases l <;> first | rfl | exact absurd rfl hl) Try.func19 rfl (by kernel_rfl) (by simp [Try.f19]) fun R hR => ?_
  have ha := fun e h => append_full (C.wr 19 7) rfl (l.map (AV.int .i64)) e h hm (szOk_ints l) (by simpa using hs)
  simp [go_sem, initS, ints, nil_cmp _ _ _ hm, build_nil, ha]
  refine hR _ _ _ (.inr rfl) ⟨_, rfl, ?_⟩
  simp [go_sem]
theorem dats1_ints (l : List Int) : dats1 (l.map (AV.int .i64)) = some (l.map (AV.int .i64)) := by
  induction l with
  | nil => rfl
  | cons a l ih => simp only [List.map_cons, dats1, dat1, ih]
theorem scalars_ints (l : List Int) : scalars (l.map (AV.int .i64)) = true := by
  simp [scalars, toScalar]
theorem clone_row (l : List Int) (id : Nat) (cap : Option Nat) (h : H) (hid : h[id]? = some (.cells (l.map (AV.int .i64)) .live)) (hl : l ≠ []) (hs : l.length ≤ 100000) :
    callV C h (.func 19 []) (some [.msl id 0 1 l.length cap]) = some (.msl h.length 0 1 l.length none, h ++ [.cells (l.map (AV.int .i64)) .live]) := by
  obtain ⟨e1, e2⟩ := snap_msl (len := l.length) (cap := cap) hid (by simp) (dats1_ints l) (by simp; omega)
  have e3 : chunk 1 l.length (l.map (AV.int .i64)) = l.map (AV.int .i64) := by
    have := chunk1 (l.map (AV.int .i64)); rwa [List.length_map] at this
  rw [e3] at e2
  have hb : hasBody C.P 19 = true := by kernel_rfl
  have hm : l.map (AV.int .i64) ≠ [] := by simpa using hl
  have hcall := clone_call l [] hl (by omega)
  simp only [callV, hb, if_true, List.append_nil]
  unfold applyCall
  rw [show C.mode 19 = .ownM from rfl]
  dsimp only
  rw [e1, e2]
  dsimp only
  rw [show Go.V.Call C 19 [AV.isl (l.map (AV.int .i64)) .unk] [] = _ from hcall]
  dsimp only
  unfold finishV adoptR adopt
  dsimp only
  simp only [List.nil_append, List.length_nil, Nat.zero_add, List.getElem?_cons_succ, List.getElem?_cons_zero, List.length_map, scalars_ints, s3, and_self, if_true]
end Go.V37

/- All vectors up to a vector, ascending: the plain law. -/
namespace Go.V37
/-- All vectors up to c, ascending. -/
def prod : List Int → List (List Int)
  | [] => [[]]
  | c :: r => (List.range (c.toNat + 1)).flatMap fun (j : Nat) => (prod r).map ((j : Int) :: ·)
/-- The next one. -/
def succ : List Int → List Int → Option (List Int)
  | c :: r, v :: w => match succ r w with
    | some w' => some (v :: w')
    | none => if v = c then none else some ((v + 1) :: w.map fun _ => 0)
  | _, _ => none
/-- Those from v on. -/
def rest : List Int → List Int → List (List Int)
  | c :: r, v :: w => (rest r w).map (v :: ·) ++ (List.range' (v.toNat + 1) (c.toNat - v.toNat)).flatMap fun (j : Nat) => (prod r).map ((j : Int) :: ·)
  | _, _ => [[]]
/-- Within bounds. -/
def within : List Int → List Int → Prop
  | [], [] => True
  | c :: r, v :: w => 0 ≤ v ∧ v ≤ c ∧ within r w
  | _, _ => False
def zeros (w : List Int) : List Int := w.map fun _ => 0
theorem rest_zeros : ∀ c : List Int, (∀ x ∈ c, 0 ≤ x) → rest c (zeros c) = prod c := by
  intro c
  induction c with
  | nil => intro _; rfl
  | cons c r ih =>
    intro h
    have ihr := ih fun x hx => h x (by simp [hx])
    simp only [zeros] at ihr
    simp only [zeros, List.map_cons, rest, prod, ihr]
    have : List.range (c.toNat + 1) = 0 :: List.range' 1 c.toNat := by
      rw [List.range_eq_range', List.range'_succ]
    rw [this, List.flatMap_cons]
    simp
theorem within_length : ∀ c v : List Int, within c v → v.length = c.length := by
  intro c
  induction c with
  | nil => intro v h; cases v <;> simp_all [within]
  | cons c r ih => intro v h; cases v with
    | nil => simp [within] at h
    | cons v w => simp [within] at h; simp [ih w h.2.2]
theorem zeros_eq : ∀ (w r : List Int), w.length = r.length → zeros w = zeros r := by
  intro w
  induction w with
  | nil => intro r h; cases r <;> simp_all [zeros]
  | cons a w ih => intro r h; cases r with
    | nil => simp at h
    | cons b r => simp only [zeros, List.map_cons, List.cons.injEq, true_and]; exact ih r (by simpa using h)
theorem rest_step : ∀ c v : List Int, (∀ x ∈ c, 0 ≤ x) → within c v → rest c v = v :: (match succ c v with | some v' => rest c v' | none => []) := by
  intro c
  induction c with
  | nil => intro v _ h; cases v with
    | nil => rfl
    | cons _ _ => simp [within] at h
  | cons c r ih =>
    intro v hp h
    cases v with
    | nil => simp [within] at h
    | cons v w =>
      obtain ⟨h1, h2, h3⟩ := h
      have hr := ih w (fun x hx => hp x (by simp [hx])) h3
      simp only [rest, succ]
      rw [hr]
      cases hs : succ r w with
      | some w' => simp [rest]
      | none =>
        simp only [List.map_cons, List.map_nil]
        by_cases hv : v = c
        · subst hv; simp
        · rw [if_neg hv]
          have hlt : v < c := by omega
          have e1 : (v + 1).toNat = v.toNat + 1 := by omega
          have e2 : c.toNat - v.toNat = (c.toNat - (v.toNat + 1)) + 1 := by omega
          have e3 : ((v.toNat + 1 : Nat) : Int) = v + 1 := by omega
          rw [e2, List.range'_succ, List.flatMap_cons]
          simp only [rest, e1, e3]
          have hz : List.map (fun _ => (0 : Int)) w = zeros r := zeros_eq w r (within_length r w h3)
          rw [hz, rest_zeros r (fun x hx => hp x (by simp [hx]))]
          simp
theorem succ_within : ∀ c v v' : List Int, within c v → succ c v = some v' → within c v' := by
  intro c
  induction c with
  | nil => intro v v' h hs; cases v <;> simp_all [succ]
  | cons c r ih =>
    intro v v' h hs
    cases v with
    | nil => simp [within] at h
    | cons v w =>
      obtain ⟨h1, h2, h3⟩ := h
      simp only [succ] at hs
      split at hs
      · rename_i w' hw
        simp only [Option.some.injEq] at hs; subst hs
        exact ⟨h1, h2, ih w w' h3 hw⟩
      · split at hs <;> first | (cases hs; done) | skip
        rename_i hv
        simp only [Option.some.injEq] at hs; subst hs
        refine ⟨by omega, by omega, ?_⟩
        have : ∀ r w : List Int, within r w → within r (w.map fun _ => 0) := by
          intro r
          induction r with
          | nil => intro w h; cases w <;> simp_all [within]
          | cons c r ih => intro w h; cases w with
            | nil => simp [within] at h
            | cons v w => simp only [within] at h; simp only [List.map_cons, within]; exact ⟨by omega, by omega, ih w h.2.2⟩
        exact this r w h3
/-- Each row by each last number up to c. -/
def ext (cur : List (List Int)) (c : Int) : List (List Int) := cur.flatMap fun p => (List.range (c.toNat + 1)).map fun (d : Nat) => p ++ [(d : Int)]
theorem foldl_ext : ∀ (c : List Int) (cur : List (List Int)), c.foldl ext cur = cur.flatMap fun p => (prod c).map (p ++ ·) := by
  intro c
  induction c with
  | nil => intro cur; simp [prod]
  | cons c r ih =>
    intro cur
    rw [List.foldl_cons, ih]
    simp only [ext, prod, List.flatMap_assoc, List.map_flatMap, List.flatMap_map, List.map_map]
    congr 1; funext p
    congr 1; funext d
    congr 1; funext q
    simp
theorem foldl_prod (c : List Int) : c.foldl ext [[]] = prod c := by
  rw [foldl_ext]; simp
theorem succ_none : ∀ c : List Int, succ c c = none := by
  intro c
  induction c with
  | nil => rfl
  | cons c r ih => simp [succ, ih]
theorem succ_some : ∀ (i : Nat) (c v : List Int), v.length = c.length → (hi : i < v.length) → (hc : i < c.length) → v[i] ≠ c[i] → v.drop (i + 1) = c.drop (i + 1) →
    succ c v = some (v.take i ++ (v[i] + 1) :: zeros (v.drop (i + 1))) := by
  intro i
  induction i with
  | zero =>
    intro c v hl hi hc hne hd
    cases v with
    | nil => simp at hi
    | cons x w => cases c with
      | nil => simp at hc
      | cons y r =>
        simp at hd hne
        subst hd
        simp [succ, succ_none, hne, zeros]
  | succ i ih =>
    intro c v hl hi hc hne hd
    cases v with
    | nil => simp at hi
    | cons x w => cases c with
      | nil => simp at hc
      | cons y r =>
        have := ih r w (by simpa using hl) (by simpa using hi) (by simpa using hc) (by simpa using hne) (by simpa using hd)
        simp [succ, this]
/-- The numbers from the i-th on set to nought. -/
def low (v : List Int) (i : Nat) : List Int := v.take i ++ zeros (v.drop i)
theorem low_length (v : List Int) (i : Nat) : (low v i).length = v.length := by simp [low, zeros]; omega
theorem low_all (v : List Int) : low v v.length = v := by simp [low, zeros]
theorem low_get (v : List Int) (i j : Nat) (hj : j < i) (hv : j < v.length) : (low v i)[j]'(by rw [low_length]; exact hv) = v[j] := by
  have h : j < (v.take i).length := by simp; omega
  simp only [low]
  rw [List.getElem_append_left h]; simp
theorem low_set (v : List Int) (j : Nat) (hv : j < v.length) (x : Int) : (low v (j + 1)).set j x = v.take j ++ x :: zeros (v.drop (j + 1)) := by
  simp only [low]
  have e : v.take (j + 1) = v.take j ++ [v[j]] := by simp
  rw [e, List.append_assoc]
  rw [List.set_append_right _ _ (by simp; omega)]
  simp [show min j v.length = j by omega]
theorem low_down (v : List Int) (j : Nat) (hv : j < v.length) : (low v (j + 1)).set j 0 = low v j := by
  rw [low_set v j hv]
  simp only [low, zeros]
  rw [List.drop_eq_getElem_cons hv, List.map_cons]
theorem sum_const (k : Nat) : ∀ n : Nat, ((List.range n).map fun _ => k).sum = n * k := by
  intro n
  induction n with
  | zero => simp
  | succ n ih => rw [List.range_succ, List.map_append, List.sum_append, ih]; simp [Nat.add_mul]
theorem prod_length : ∀ c : List Int, (∀ x ∈ c, 0 ≤ x ∧ x ≤ 12) → (prod c).length ≤ 13 ^ c.length := by
  intro c
  induction c with
  | nil => intro _; simp [prod]
  | cons c r ih =>
    intro h
    have hr := ih fun x hx => h x (by simp [hx])
    have hc := h c (by simp)
    have e : (prod (c :: r)).length = (c.toNat + 1) * (prod r).length := by
      simp only [prod, List.length_flatMap, List.length_map]
      exact sum_const _ _
    rw [e, List.length_cons, Nat.pow_succ, Nat.mul_comm]
    exact Nat.mul_le_mul hr (by omega)
end Go.V37

/- The program's Plans. -/
namespace Go.V37
open Go Go.V Go.Proofs
theorem call23 (l : List Int) (h : H) : callV C h (.func 23 []) (some [ints l]) = some (.int .i64 (check l), h) :=
  callV_strip (by kernel_rfl) rfl rfl rfl (by simp) (check_call l)
theorem call24 (l : List Int) (h : H) : callV C h (.func 24 []) (some [ints l]) = some (.int .i64 (check l), h) :=
  callV_strip (by kernel_rfl) rfl rfl rfl (by simp) (error_call l)
theorem chk_ok : ∀ (l : List Int) (t : Int), chk l t = 0 → (∀ x ∈ l, 0 ≤ x ∧ x ≤ 12) ∧ t + l.sum ≤ 12 := by
  intro l
  induction l with
  | nil => intro t h; simp only [chk] at h; split at h <;> simp_all
  | cons x r ih =>
    intro t h
    simp only [chk] at h
    split at h
    · cases h
    · rename_i hx
      obtain ⟨h1, h2⟩ := ih _ h
      refine ⟨fun y hy => ?_, by simp only [List.sum_cons]; omega⟩
      rcases List.mem_cons.1 hy with rfl | hy
      · omega
      · exact h1 y hy
theorem check_ok (l : List Int) (h : check l = 0) : l.length ≤ 4 ∧ (∀ x ∈ l, 0 ≤ x ∧ x ≤ 12) ∧ l.sum ≤ 12 := by
  unfold check at h
  split at h
  · cases h
  · obtain ⟨h1, h2⟩ := chk_ok l 0 h
    exact ⟨by omega, h1, by omega⟩
set_option maxHeartbeats 1000000 in
theorem plans_bad (l : List Int) (hc : check l ≠ 0) : CallP C 8 [ints l] = some (.tuple [rows [], .int .i64 (check l)]) := by
  refine CallP_W rfl Try.func8 rfl (by kernel_rfl) (by simp [Try.f8]) fun R hR => ?_
  simp [go_sem, initS, call23, hc]
  refine hR _ _ _ (.inr rfl) ⟨_, rfl, ?_⟩
  simp [go_sem]
  exact snap_dat rfl rfl
set_option maxHeartbeats 1000000 in
theorem refPlans_bad (l : List Int) (hc : check l ≠ 0) : CallP C 9 [ints l] = some (.tuple [rows [], .int .i64 (check l)]) := by
  refine CallP_W rfl Try.func9 rfl (by kernel_rfl) (by simp [Try.f9]) fun R hR => ?_
  simp [go_sem, initS, call24, hc]
  refine hR _ _ _ (.inr rfl) ⟨_, rfl, ?_⟩
  simp [go_sem]
  exact snap_dat rfl rfl
theorem idxm (i n j : Nat) (c : Option Nat) (hj : j < n) : indexAddrV C.P 22 (.msl i 0 1 n c) (.int .i64 j) = some (.ptr i j) := by
  simp [indexAddrV, u22, s3, hj]
theorem ldm (a b : VObj) (g : H) (l : List Int) (k : Nat) (hk : k < l.length) : loadV C.P (a :: b :: .cells (l.map (AV.int .i64)) .live :: g) 3 (.ptr 2 k) = some (.int .i64 l[k]) := by
  simp [loadV, cellsAt, a3, s3, hk]
theorem stm (a b : VObj) (g : H) (l : List Int) (k : Nat) (x : Int) (hk : k < l.length) :
    storeV C.P (a :: b :: .cells (l.map (AV.int .i64)) .live :: g) 3 (.ptr 2 k) (.int .i64 x) = some (a :: b :: .cells ((l.set k x).map (AV.int .i64)) .live :: g) := by
  simp [storeV, s3, hk, List.map_set]
theorem make8 (h : H) (n : Nat) (hn : n ≤ 1000) : makeSliceV C.P (C.wr 8 15) h 22 (.int .i64 n) (.int .i64 n) = some (.msl h.length 0 1 n (some n), h ++ [.cells ((List.replicate n (0 : Int)).map (AV.int .i64)) .live]) := by
  have hw : C.wr 8 15 = true := rfl
  have e : (List.replicate n [AV.int .i64 0]).flatten = (List.replicate n (0 : Int)).map (AV.int .i64) := by
    induction n with
    | zero => rfl
    | succ n ih => simp only [List.replicate_succ, List.flatten_cons, List.map_cons, ih (by omega)]; rfl
  have h1 : (n : Int) ≤ 1073741824 := by omega
  simp [makeSliceV, u22, s3, b3, zv3, z3, hw, cells_int, h1]
theorem freeze_last (h : H) (cs : List AV) : Go.V.freeze (h ++ [VObj.cells cs .live]) [h.length] = h ++ [VObj.cells cs .frozen] := by
  simp [Go.V.freeze, freeze1]
theorem szOk_rows (l : List (List Int)) : szOk 1 (l.map ints) = true := by cases l <;> simp [szOk, AV.cells, ints]
theorem append_row (wr : Bool) (a : VObj) (g : H) (out : List (List Int)) (v : List Int) (x : Ext) (hl : out.length ≤ 1000000) :
    appendW C.P wr (a :: .tok out.length 22 :: g) 24 (.isl (out.map ints) (.tok 1)) (.isl [ints v] x) = some (.isl ((out ++ [v]).map ints) (.tok 1), a :: .tok (out ++ [v]).length 22 :: g) := by
  have hb : (out.length + 1) * (24 + 1) ≤ 35184372088832 := by omega
  have h1 : szOk 1 [ints v] = true := by simp [szOk, AV.cells, ints]
  simp [appendW, appendV, u24, s22, b22, elemsV, z22, h1, szOk_rows, hb]
end Go.V37

/- The program's Plans, where the vector is let in. -/
namespace Go.V37
open Go Go.V Go.Proofs
def Inv8 (c : List Int) (n : Nat) (s : PT) (h : H) : Prop := ∃ (out : List (List Int)) (v : List Int) (g : H), n = (rest c v).length ∧ within c v ∧ out ++ rest c v = prod c ∧
  h = .tok 0 22 :: .tok out.length 22 :: .cells (v.map (AV.int .i64)) .live :: g ∧ s.get 0 = .isl (c.map (AV.int .i64)) .unk ∧ s.get 5 = .isl (out.map ints) (.tok 1) ∧ s.get 6 = .msl 2 0 1 c.length (some c.length)
def In8 (c v : List Int) (out : List (List Int)) (g : H) (n : Nat) (s : PT) (h : H) : Prop := n ≤ v.length ∧ v.drop n = c.drop n ∧
  h = .tok 0 22 :: .tok out.length 22 :: .cells ((low v n).map (AV.int .i64)) .live :: g ∧ s.get 0 = .isl (c.map (AV.int .i64)) .unk ∧ s.get 5 = .isl (out.map ints) (.tok 1) ∧ s.get 6 = .msl 2 0 1 c.length (some c.length) ∧ s.get 7 = .int .i64 ((n : Int) - 1)
theorem len_ints (l : List Int) : lenV C.P 22 (ints l) = some (.int .i64 l.length) := by simp [ints, go_sem]
set_option maxHeartbeats 2000000 in
theorem plans_good (c : List Int) (hc : check c = 0) (hne : c ≠ []) : CallP C 8 [ints c] = some (.tuple [rows (prod c), .int .i64 0]) := by
  obtain ⟨hlen, hb, hsum⟩ := check_ok c hc
  have hn1 : 1 ≤ c.length := by cases c <;> simp_all
  have hp := prod_length c hb
  refine CallP_W rfl Try.func8 rfl (by kernel_rfl) (by simp [Try.f8]) fun R hR => ?_
  have hmk := fun h => make8 h c.length (by omega)
  have c23 := fun h => call23 c h
  simp [go_sem, initS, c23, hc, len_ints, hmk]
  refine W_loop (Inv8 c) (prod c).length ?_ ?_
  · refine ⟨[], zeros c, [], by rw [rest_zeros c (fun x hx => (hb x hx).1)], ?_, by rw [rest_zeros c (fun x hx => (hb x hx).1)]; rfl, ?_, ?_, ?_, ?_⟩
    · have : ∀ c : List Int, (∀ x ∈ c, 0 ≤ x ∧ x ≤ 12) → within c (zeros c) := by
        intro c
        induction c with
        | nil => intro _; trivial
        | cons a c ih => intro h; exact ⟨Int.le_refl _, (h a (by simp)).1, ih fun x hx => h x (by simp [hx])⟩
      exact this c hb
    · have : zeros c = List.replicate c.length 0 := by simp [zeros, List.map_const']
      rw [this, List.map_replicate]; rfl
    all_goals simp [go_sem, ints]
  · rintro n s h ⟨out, v, g, rfl, hw, ho, rfl, g0, g5, g6⟩
    have hvl := within_length c v hw
    have hv0 : v ≠ [] := by intro e; subst e; simp at hvl; omega
    have hcl := clone_row v 2 (some c.length) (.tok 0 22 :: .tok out.length 22 :: .cells (v.map (AV.int .i64)) .live :: g) rfl hv0 (by omega)
    rw [hvl] at hcl
    have hid2 : (VObj.tok 0 22 :: VObj.tok out.length 22 :: VObj.cells (v.map (AV.int .i64)) .live :: (g ++ [VObj.cells (v.map (AV.int .i64)) .live]))[g.length + 1 + 1 + 1]? = some (.cells (v.map (AV.int .i64)) .live) := by simp
    have hbs := buildSlice_row (P := C.P) (t := 24) (e := 22) (len := c.length) (cap := none) u24 s22 z22 hid2 (by simp [hvl]) (dats1_ints v) (by simp; omega)
    have hfr : Go.V.freeze (VObj.tok 0 22 :: VObj.tok out.length 22 :: VObj.cells (v.map (AV.int .i64)) .live :: (g ++ [VObj.cells (v.map (AV.int .i64)) .live])) [g.length + 1 + 1 + 1] =
        VObj.tok 0 22 :: VObj.tok out.length 22 :: VObj.cells (v.map (AV.int .i64)) .live :: (g ++ [VObj.cells (v.map (AV.int .i64)) .frozen]) :=
      freeze_last (VObj.tok 0 22 :: VObj.tok out.length 22 :: VObj.cells (v.map (AV.int .i64)) .live :: g) _
    have hch : chunk 1 c.length (v.map (AV.int .i64)) = v.map (AV.int .i64) := by
      have := chunk1 (v.map (AV.int .i64)); rwa [List.length_map, hvl] at this
    rw [hfr, hch] at hbs
    have hpow : (13 : Nat) ^ c.length ≤ 13 ^ 4 := Nat.pow_le_pow_right (by omega) hlen
    have hol : out.length ≤ 1000000 := by
      have := congrArg List.length ho
      rw [List.length_append] at this
      omega
    have hap := fun g => append_row (C.wr 8 20) (.tok 0 22) g out v .full hol
    simp only [ints] at hap hbs
    simp [go_sem, g5, g6, hcl, notTuple, hbs, hap]
    have w1 : IntKind.i64.wrap ((c.length : Int) - 1) = (c.length : Int) - 1 := wrap_in (by omega)
    refine W_loop (In8 c v (out ++ [v]) (g ++ [VObj.cells (v.map (AV.int .i64)) .frozen])) c.length ?_ ?_
    · refine ⟨by omega, by rw [List.drop_eq_nil_of_le (by omega), List.drop_eq_nil_of_le (by omega)], ?_, ?_, ?_, ?_, ?_⟩
      · rw [← hvl, low_all]; simp
      all_goals simp [go_sem, g0, g6, ints, w1]
    · clear hcl hid2 hbs hfr hch hap
      rintro n s2 h2 ⟨hn, hd, rfl, k0, k5, k6, k7⟩
      cases n with
      | zero =>
        have hvc : v = c := by simpa using hd
        subst hvc
        have hpr : out ++ [v] = prod v := by
          rw [← ho, rest_step v v (fun x hx => (hb x hx).1) hw, succ_none]
        have k7' : s2.get 7 = .int .i64 (-1) := by rw [k7]; rfl
        simp [go_sem, k0, k5, k6, k7']
        refine hR _ _ _ (.inr rfl) ⟨_, rfl, ?_⟩
        have hs := snap_dat (h := freezeAll (.tok 0 22 :: .tok (out.length + 1) 22 :: .cells ((low v 0).map (AV.int .i64)) .live :: (g ++ [.cells (v.map (AV.int .i64)) .frozen]))) (r := .tuple [.isl ((out ++ [v]).map ints) (.tok 1), .int .i64 0]) rfl rfl
        simp [go_sem]
        simp only [List.map_append, List.map_cons, List.map_nil] at hs
        rw [hs, ← hpr]; simp [rows]
      | succ j =>
        have hjv : j < v.length := by omega
        have hjc : j < c.length := by omega
        have k7' : s2.get 7 = .int .i64 j := by rw [k7]; congr 1; omega
        have hlg := low_get v (j + 1) j (by omega) hjv
        have hix := idxm 2 c.length j (some c.length) hjc
        have hld := fun g n => ldm (.tok 0 22) (.tok n 22) g (low v (j + 1)) j (by rw [low_length]; exact hjv)
        have hst := fun g n x => stm (.tok 0 22) (.tok n 22) g (low v (j + 1)) j x (by rw [low_length]; exact hjv)
        simp only [hlg] at hld
        by_cases he : v[j] = c[j]
        · have w2 : IntKind.i64.wrap ((j : Int) - 1) = (j : Int) - 1 := wrap_in (by omega)
          simp [go_sem, k0, k5, k6, k7', hix, hld, hst, idx c j hjc, ldi, he, w2]
          refine ⟨j, by omega, by omega, ?_, ?_, ?_, ?_, ?_, ?_⟩
          · rw [List.drop_eq_getElem_cons hjv, List.drop_eq_getElem_cons hjc, he, hd]
          · rw [← low_down v j hjv]; simp
          all_goals simp [go_sem, k0, k5, k6]
        · have hj0 : ¬ (j : Int) < 0 := by omega
          have hs := succ_some j c v hvl hjv hjc he hd
          have hvb : 0 ≤ v[j] ∧ v[j] ≤ 12 := by
            have : ∀ (c v : List Int), within c v → (∀ x ∈ c, 0 ≤ x ∧ x ≤ 12) → ∀ x ∈ v, 0 ≤ x ∧ x ≤ 12 := by
              intro c
              induction c with
              | nil => intro v hw _ x hx; cases v <;> simp_all [within]
              | cons a c ih =>
                intro v hw hb x hx
                cases v with
                | nil => simp at hx
                | cons b v =>
                  obtain ⟨h1, h2, h3⟩ := hw
                  have := hb a (by simp)
                  rcases List.mem_cons.1 hx with rfl | hx
                  · omega
                  · exact ih v h3 (fun y hy => hb y (by simp [hy])) x hx
            exact this c v hw hb _ (List.getElem_mem hjv)
          have w2 : IntKind.i64.wrap (v[j] + 1) = v[j] + 1 := wrap_in (by omega)
          simp [go_sem, k0, k5, k6, k7', hix, hld, hst, idx c j hjc, ldi, he, hj0, w2]
          have hstep := rest_step c v (fun x hx => (hb x hx).1) hw
          rw [hs] at hstep
          have hls := low_set v j hjv (v[j] + 1)
          refine ⟨(rest c (v.take j ++ (v[j] + 1) :: zeros (v.drop (j + 1)))).length, by rw [hstep]; simp, out ++ [v], _, g ++ [VObj.cells (v.map (AV.int .i64)) .frozen], rfl, succ_within c v _ hw hs, by rw [← ho, hstep]; simp, ?_, ?_, ?_, ?_⟩
          · rw [← hls]; simp
          all_goals simp [go_sem, k0, k5, k6]
end Go.V37

/- The document's Plans. -/
namespace Go.V37
open Go Go.V Go.Proofs
theorem append22 {h : H} {v : AV} {xs : List (List Int)} {ys : List (List Int)} {x : Ext} (o : OwnR 22 h v (xs.map ints)) (hl : xs.length + ys.length ≤ 1000000) :
    ∃ v' h', appendW C.P false h 24 v (.isl (ys.map ints) x) = some (v', h') ∧ OwnR 22 h' v' ((xs ++ ys).map ints) ∧ Keep h h' (idOf v) ∧ (idOf v' = idOf v ∨ idOf v = none ∧ idOf v' = some h.length) := by
  have := append_own (x := x) u24 s22 b22 z22 rfl o (szOk_rows xs) (szOk_rows ys) (by simp only [List.length_map]; omega)
  rwa [← List.map_append] at this
theorem append3 {h : H} {v : AV} {xs : List Int} {ys : List Int} {x : Ext} (o : OwnR 3 h v (xs.map (AV.int .i64))) (hl : xs.length + ys.length ≤ 1000000) :
    ∃ v' h', appendW C.P false h 22 v (.isl (ys.map (AV.int .i64)) x) = some (v', h') ∧ OwnR 3 h' v' ((xs ++ ys).map (AV.int .i64)) ∧ Keep h h' (idOf v) ∧ (idOf v' = idOf v ∨ idOf v = none ∧ idOf v' = some h.length) := by
  have := append_own (x := x) u22 s3 b3 z3 rfl o (szOk_ints xs) (szOk_ints ys) (by simp only [List.length_map]; omega)
  rwa [← List.map_append] at this
theorem build_ints (h : H) (n : Int) : buildSliceV C.P h 22 1 [(0, .int .i64 n)] = some (.isl [.int .i64 n] .full, h) := buildSlice_dats u22 s3 z3 rfl (by omega) rfl rfl rfl (by simp) rfl
theorem build_row (h : H) (l : List Int) (x : Ext) : buildSliceV C.P h 24 1 [(0, .isl (l.map (AV.int .i64)) x)] = some (.isl [ints l] .full, h) := buildSlice_dats u24 s22 z22 rfl (by omega) rfl rfl rfl (by simp) rfl
def OutI (c : List Int) (n : Nat) (s : PT) (h : H) : Prop := ∃ (i : Nat) (cur : List (List Int)) (x : Ext), n = c.length - i ∧ i ≤ c.length ∧ s.get 0 = ints c ∧ s.get 5 = .isl (cur.map ints) x ∧ s.get 6 = .int .i64 i ∧
  (c.drop i).foldl ext cur = prod c ∧ cur.length ≤ 13 ^ i ∧ ∀ p ∈ cur, p.length = i
def MidI (c : List Int) (i : Nat) (cur : List (List Int)) (x : Ext) (ci : Int) (n : Nat) (s : PT) (h : H) : Prop := ∃ (k : Nat) (more : List (List Int)), n = cur.length - k ∧ k ≤ cur.length ∧ s.get 0 = ints c ∧ s.get 5 = .isl (cur.map ints) x ∧ s.get 6 = .int .i64 i ∧
  s.get 8 = .int .i64 k ∧ OwnR 22 h (s.get 7) (more.map ints) ∧ more ++ ext (cur.drop k) ci = ext cur ci
def InnI (c : List Int) (i : Nat) (cur : List (List Int)) (x : Ext) (ci : Int) (k : Nat) (p : List Int) (n : Nat) (s : PT) (h : H) : Prop := ∃ (j : Nat) (more : List (List Int)), n = (ci.toNat + 1) - j ∧ j ≤ ci.toNat + 1 ∧ s.get 0 = ints c ∧ s.get 5 = .isl (cur.map ints) x ∧ s.get 6 = .int .i64 i ∧
  s.get 8 = .int .i64 k ∧ s.get 9 = .int .i64 j ∧ OwnR 22 h (s.get 7) (more.map ints) ∧ more ++ ((List.range' j (ci.toNat + 1 - j)).map fun (d : Nat) => p ++ [(d : Int)]) ++ ext (cur.drop (k + 1)) ci = ext cur ci
theorem ext_length (cur : List (List Int)) (c : Int) : (ext cur c).length = cur.length * (c.toNat + 1) := by
  simp only [ext, List.length_flatMap, List.length_map, List.length_range]
  induction cur with
  | nil => simp
  | cons p cur ih => simp only [List.map_cons, List.sum_cons, ih, List.length_cons, Nat.add_mul, Nat.one_mul]; omega
theorem len24' (l : List (List Int)) (x : Ext) : lenV C.P 24 (.isl (l.map ints) x) = some (.int .i64 l.length) := by simp [go_sem]
theorem ext_mem (cur : List (List Int)) (c : Int) (i : Nat) (h : ∀ p ∈ cur, p.length = i) : ∀ p ∈ ext cur c, p.length = i + 1 := by
  intro p hp
  simp only [ext, List.mem_flatMap, List.mem_map] at hp
  obtain ⟨q, hq, d, _, rfl⟩ := hp
  simp [h q hq]
set_option maxHeartbeats 2000000 in
theorem refPlans_good (c : List Int) (hc : check c = 0) : CallP C 9 [ints c] = some (.tuple [rows (prod c), .int .i64 0]) := by
  obtain ⟨hlen, hb, hsum⟩ := check_ok c hc
  refine CallP_W rfl Try.func9 rfl (by kernel_rfl) (by simp [Try.f9]) fun R hR => ?_
  have c24 := fun h => call24 c h
  have hbr := fun h => build_row h [] .full
  simp only [List.map_nil] at hbr
  simp [go_sem, c24, hc, build_nil, notTuple, hbr]
  refine W_loop (OutI c) c.length ⟨0, [[]], .full, ?_⟩ ?_
  · simp [go_sem, foldl_prod]
  · rintro n s h ⟨i, cur, x, rfl, hi, g0, g5, g6, hf, hcl, hcp⟩
    by_cases hlt : i < c.length
    · have hlt' : (i : Int) < c.length := by omega
      have hb1 := hb c[i] (List.getElem_mem hlt)
      have hpow : (13 : Nat) ^ i ≤ 13 ^ 4 := Nat.pow_le_pow_right (by omega) (by omega)
      have hel := ext_length cur c[i]
      have hcb : (ext cur c[i]).length ≤ 500000 := by
        rw [hel]
        have : cur.length * (c[i].toNat + 1) ≤ 28561 * 13 := Nat.mul_le_mul (by omega) (by omega)
        omega
      have w1 : IntKind.i64.wrap ((i : Int) + 1) = i + 1 := wrap_in (by omega)
      simp [go_sem, g0, g6, len_ints, hlt']
      refine W_loop (MidI c i cur x c[i]) cur.length ⟨0, [], ?_⟩ ?_
      · simp [go_sem, g0, g5, g6, OwnR.new]
      · rintro n s2 h2 ⟨k, more, rfl, hk, k0, k5, k6, k8, ko, km⟩
        by_cases hkt : k < cur.length
        · have hkt' : (k : Int) < cur.length := by omega
          simp [go_sem, k5, k8, hkt']
          refine W_loop (InnI c i cur x c[i] k cur[k]) (c[i].toNat + 1) ⟨0, more, ?_⟩ ?_
          · simp [go_sem, k0, k5, k6, k8, ko, OwnR.keep ko (.refl _ none)]
            rw [← km]
            unfold ext
            rw [List.drop_eq_getElem_cons hkt]
            simp only [List.flatMap_cons, List.range_eq_range', List.append_assoc]
          · rintro n s3 h3 ⟨j, more3, rfl, hj, m0, m5, m6, m8, m9, mo, mm⟩
            have hix := idx c i hlt .unk
            have hlm := congrArg List.length mm
            simp only [List.length_append] at hlm
            by_cases hjt : j < c[i].toNat + 1
            · have hjt' : (j : Int) ≤ c[i] := by omega
              have hp := hcp cur[k] (List.getElem_mem hkt)
              have w2 : IntKind.i64.wrap ((j : Int) + 1) = j + 1 := wrap_in (by omega)
              generalize g7 : s3.get 7 = v7 at mo
              obtain ⟨v1, h1, e1, o1, f1, i1⟩ := append3 (xs := []) (ys := cur[k]) (x := .unk) (.inl rfl : OwnR 3 h3 (.isl [] .full) []) (by simp; omega)
              obtain ⟨v2, h4, e2, o2, f2, i2⟩ := append3 (ys := [(j : Int)]) (x := .full) o1 (by simp; omega)
              obtain ⟨x2, rfl⟩ := o2.isl
              have f3 : Keep h3 h4 none := f1.trans f2 (by rcases i1 with e | ⟨_, e⟩ <;> rw [e] <;> simp [idOf])
              have o7 : OwnR 22 h4 v7 (more3.map ints) := mo.keep f3 (by simp)
              obtain ⟨v4, h5, e4, o4, f4, i4⟩ := append22 (ys := [cur[k] ++ [(j : Int)]]) (x := .full) o7 (by simp; omega)
              have hbr := fun h => build_row h (cur[k] ++ [(j : Int)]) x2
              have hri := idxr cur k hkt x
              have hli := fun h => ldr cur[k] h
              simp only [ints, List.map_cons, List.map_nil, List.nil_append, List.map_append] at m0 e4 hri hli e1 e2 hbr
              have hwr : C.wr 9 43 = false ∧ C.wr 9 46 = false ∧ C.wr 9 48 = false := ⟨rfl, rfl, rfl⟩
              simp [go_sem, m0, m5, m6, m8, m9, hix, ldi, hjt', build_nil, hri, hli, e1, build_ints, notTuple, e2, hbr, g7, e4, hwr, w2]
              refine ⟨c[i].toNat + 1 - (j + 1), by omega, j + 1, more3 ++ [cur[k] ++ [(j : Int)]], ?_⟩
              refine ⟨rfl, by omega, ?_, ?_, ?_, ?_, ?_, ?_, ?_⟩
              · simp [go_sem, m0, ints]
              · simp [go_sem, m5]
              · simp [go_sem, m6]
              · simp [go_sem, m8]
              · simp [go_sem, w2]
              · simpa [go_sem, ints] using o4
              · rw [← mm]
                have : c[i].toNat + 1 - j = (c[i].toNat + 1 - (j + 1)) + 1 := by omega
                rw [this, List.range'_succ]; simp
            · have hjt' : ¬ (j : Int) ≤ c[i] := by omega
              have w3 : IntKind.i64.wrap ((k : Int) + 1) = k + 1 := wrap_in (by omega)
              simp only [ints] at m0
              simp [go_sem, m0, m6, m8, m9, hix, ldi, hjt', w3]
              have hj0 : c[i].toNat + 1 - j = 0 := by omega
              refine ⟨cur.length - (k + 1), by omega, k + 1, more3, rfl, by omega, ?_, ?_, ?_, ?_, ?_, ?_⟩
              · simp [go_sem, m0, ints]
              · simp [go_sem, m5]
              · simp [go_sem, m6]
              · simp [go_sem]
              · simpa [go_sem] using mo
              · rw [← mm, hj0]; simp
        · have hkt' : ¬ (k : Int) < cur.length := by omega
          have hk0 : k = cur.length := by omega
          subst hk0
          simp [go_sem, k5, k6, k8, w1]
          obtain ⟨x7, h7⟩ := ko.isl
          have hmc : more = ext cur c[i] := by rw [← km]; simp [ext]
          refine ⟨c.length - (i + 1), by omega, i + 1, more, x7, rfl, by omega, ?_, ?_, ?_, ?_, ?_, ?_⟩
          · simp [go_sem, k0]
          · simp [go_sem, h7]
          · simp [go_sem]
          · rw [hmc, ← hf, List.drop_eq_getElem_cons hlt]; rfl
          · rw [hmc, hel, Nat.pow_succ]; exact Nat.mul_le_mul hcl (by omega)
          · rw [hmc]; exact ext_mem cur c[i] i hcp
    · have hlt' : ¬ (i : Int) < c.length := by omega
      have hk0 : i = c.length := by omega
      subst hk0
      simp [go_sem, g0, g5, g6, len_ints]
      refine hR _ _ _ (.inr rfl) ⟨_, rfl, ?_⟩
      simp only [List.drop_length, List.foldl_nil] at hf
      subst hf
      simp [go_sem]
      exact snap_dat rfl rfl
end Go.V37

/- The first law, by the value machine. -/
namespace Go.V37
open Go Go.V Go.Proofs
/-- What a closed call comes to, as the kernel runs it. -/
noncomputable def out (n : Nat) (f : FuncId) (args : List AV) : Option AV := match callR C n f args [] with
  | some (r, h1) => snap (freezeAll h1) deep r
  | none => none
theorem CallP_out {n : Nat} {f : FuncId} {args : List AV} {v : AV} (h : out n f args = some v) : CallP C f args = some v := by
  unfold out at h
  split at h <;> first | (cases h; done) | skip
  rename_i r h1 hx
  unfold CallP
  rw [Call_of n hx]; exact h
theorem plans_nil : CallP C 8 [ints []] = some (.tuple [rows (prod []), .int .i64 0]) := CallP_out (n := 1000) (by kernel_rfl)
theorem plans_call (c : List Int) : CallP C 8 [ints c] = some (.tuple [rows (if check c = 0 then prod c else []), .int .i64 (check c)]) := by
  by_cases hc : check c = 0
  · simp only [hc, if_true]
    by_cases hn : c = []
    · subst hn; exact plans_nil
    · exact plans_good c hc hn
  · simp only [hc, if_false]; exact plans_bad c hc
theorem refPlans_call (c : List Int) : CallP C 9 [ints c] = some (.tuple [rows (if check c = 0 then prod c else []), .int .i64 (check c)]) := by
  by_cases hc : check c = 0
  · simp only [hc, if_true]; exact refPlans_good c hc
  · simp only [hc, if_false]; exact refPlans_bad c hc
theorem call7 (h : H) : callV C h (.func 7 []) (some []) = some (.bool true, h) := callV_strip (by kernel_rfl) rfl rfl rfl (by simp) awake_call
theorem call8 (c : List Int) (h : H) : callV C h (.func 8 []) (some [ints c]) = some (.tuple [rows (if check c = 0 then prod c else []), .int .i64 (check c)], h) :=
  callV_strip (by kernel_rfl) rfl rfl rfl (by simp) (plans_call c)
theorem call9 (c : List Int) (h : H) : callV C h (.func 9 []) (some [ints c]) = some (.tuple [rows (if check c = 0 then prod c else []), .int .i64 (check c)], h) :=
  callV_strip (by kernel_rfl) rfl rfl rfl (by simp) (refPlans_call c)
theorem prod_rows : ∀ c : List Int, ∀ x ∈ prod c, x.length = c.length := by
  intro c
  induction c with
  | nil => intro x hx; simp [prod] at hx; subst hx; rfl
  | cons c r ih =>
    intro x hx
    simp only [prod, List.mem_flatMap, List.mem_map] at hx
    obtain ⟨j, _, y, hy, rfl⟩ := hx
    simp [ih y hy]
theorem law1 (c : List Int) : CallP C 3 [ints c] = some (.bool true) := by
  refine CallP_W rfl Try.func3 rfl (by kernel_rfl) (by simp [Try.f3]) fun R hR => ?_
  have c7 := fun h => call7 h
  have c8 := fun h => call8 c h
  have c9 := fun h => call9 c h
  by_cases hl : c.length > 10
  · have hl' : 10 < (c.length : Int) := by omega
    simp [go_sem, c7, len_ints, hl']
    refine hR _ _ _ (.inr rfl) ⟨_, rfl, ?_⟩
    simp [go_sem]
    exact snap_dat rfl rfl
  · have hl' : ¬ 10 < (c.length : Int) := by omega
    generalize hp : (if check c = 0 then prod c else []) = l at c8 c9
    have hpl : l.length ≤ 9223372036854775807 ∧ ∀ x ∈ l, x.length ≤ 9223372036854775807 := by
      subst hp
      split
      · rename_i hc
        obtain ⟨hlen, hb, hsum⟩ := check_ok c hc
        have h1 := prod_length c hb
        have hpow : (13 : Nat) ^ c.length ≤ 13 ^ 4 := Nat.pow_le_pow_right (by omega) hlen
        exact ⟨by omega, fun x hx => by rw [prod_rows c x hx]; omega⟩
      · exact ⟨by simp, by simp⟩
    have c10 := fun h => call10 l l h hpl.1 hpl.2
    simp [go_sem, c7, len_ints, hl', c8, c9, c10]
    refine hR _ _ _ (.inr rfl) ⟨_, rfl, ?_⟩
    simp [go_sem]
    exact snap_dat rfl rfl
end Go.V37

/- Numbers of orders, ranks: the plain law. -/
namespace Go.V37
open Go
abbrev wr64 (n : Int) : Int := IntKind.i64.wrap n
/-- The rounds of the inner loop of count: m rounds from k on. -/
def crow : Nat → Int → Int → Int → Int × Int
  | 0, _, r, t => (r, t)
  | m + 1, k, r, t => crow m (k + 1) (wr64 ((wr64 (r * (t + 1))).tdiv k)) (t + 1)
def cnt : List Int → Int → Int → Int
  | [], r, _ => r
  | n :: l, r, t => cnt l (crow n.toNat 1 r t).1 (crow n.toNat 1 r t).2
/-- The number of orders, as both texts reckon it. -/
def count (l : List Int) : Int := cnt l 1 0
def dec (l : List Int) (k : Nat) : List Int := l.set k (l.getD k 0 - 1)
/-- The orders that begin with less than i. -/
def sumB (l : List Int) : Nat → Int
  | 0 => 0
  | i + 1 => sumB l i + if l.getD i 0 > 0 then count (dec l i) else 0
def goodV (l : List Int) : Bool := decide (0 < count l ∧ count l ≤ 1000000000) && (l.all (· == 0) || count l == sumB l l.length)
def allV : Nat → Nat → (List Int → Bool) → Bool
  | 0, _, f => f []
  | m + 1, b, f => (List.range (b + 1)).all fun d => allV m (b - d) fun r => f ((d : Int) :: r)
theorem good0 : allV 0 12 goodV = true := by kernel_rfl
theorem good1 : allV 1 12 goodV = true := by kernel_rfl
theorem good2 : allV 2 12 goodV = true := by kernel_rfl
theorem good3 : allV 3 12 goodV = true := by kernel_rfl
theorem good4 : allV 4 12 goodV = true := by kernel_rfl
end Go.V37

/- Ranks and orders: the plain law. -/
namespace Go.V37
open Go Go.V
theorem getD_lt {l : List Int} {k : Nat} (h : k < l.length) : l.getD k 0 = l[k] := by simp [List.getD_eq_getElem?_getD, h]
/-- A vector as the programs let it in. -/
def Vec (l : List Int) : Prop := l.length ≤ 4 ∧ (∀ x ∈ l, 0 ≤ x) ∧ l.sum ≤ 12
theorem sum_nonneg : ∀ l : List Int, (∀ x ∈ l, 0 ≤ x) → 0 ≤ l.sum := by
  intro l
  induction l with
  | nil => intro _; simp
  | cons x l ih => intro h; have := ih fun y hy => h y (by simp [hy]); have := h x (by simp); simp only [List.sum_cons]; omega
theorem allV_spec {f : List Int → Bool} : ∀ (m b : Nat), allV m b f = true → ∀ l : List Int, l.length = m → (∀ x ∈ l, 0 ≤ x) → l.sum ≤ b → f l = true := by
  intro m
  induction m generalizing f with
  | zero => intro b h l hl _ _; have : l = [] := List.length_eq_zero_iff.1 hl; subst this; exact h
  | succ m ih =>
    intro b h l hl hp hs
    cases l with
    | nil => simp at hl
    | cons x l =>
      simp only [allV, List.all_eq_true, List.mem_range] at h
      have hx := hp x (by simp)
      have hn := sum_nonneg l fun y hy => hp y (by simp [hy])
      simp only [List.sum_cons] at hs
      have := ih (f := fun r => f (((x.toNat : Nat) : Int) :: r)) (b - x.toNat) (h x.toNat (by omega)) l (by simpa using hl) (fun y hy => hp y (by simp [hy])) (by omega)
      have e : ((x.toNat : Nat) : Int) = x := by omega
      rwa [e] at this
theorem vec_good (l : List Int) (h : Vec l) : goodV l = true := by
  obtain ⟨h1, h2, h3⟩ := h
  have : l.length = 0 ∨ l.length = 1 ∨ l.length = 2 ∨ l.length = 3 ∨ l.length = 4 := by omega
  rcases this with e | e | e | e | e
  · exact allV_spec 0 12 good0 l e h2 h3
  · exact allV_spec 1 12 good1 l e h2 h3
  · exact allV_spec 2 12 good2 l e h2 h3
  · exact allV_spec 3 12 good3 l e h2 h3
  · exact allV_spec 4 12 good4 l e h2 h3
theorem count_pos {l : List Int} (h : Vec l) : 0 < count l ∧ count l ≤ 1000000000 := by
  have := vec_good l h
  simp only [goodV, Bool.and_eq_true, decide_eq_true_eq] at this
  exact this.1
theorem count_sum {l : List Int} (h : Vec l) {k : Nat} (hk : l.getD k 0 > 0) : count l = sumB l l.length := by
  have := vec_good l h
  simp only [goodV, Bool.and_eq_true, Bool.or_eq_true, beq_iff_eq] at this
  rcases this.2 with e | e
  · rw [List.all_eq_true] at e
    have hlt : k < l.length := by
      by_cases h : k < l.length
      · exact h
      · rw [List.getD_eq_getElem?_getD, List.getElem?_eq_none (by omega)] at hk; simp at hk
    have := e l[k] (List.getElem_mem hlt)
    simp only [beq_iff_eq] at this
    rw [getD_lt hlt] at hk
    omega
  · exact e
theorem dec_length (l : List Int) (k : Nat) : (dec l k).length = l.length := by simp [dec]
theorem sum_set : ∀ (l : List Int) (k : Nat) (x : Int), k < l.length → (l.set k x).sum = l.sum - l.getD k 0 + x := by
  intro l
  induction l with
  | nil => intro k x h; simp at h
  | cons a l ih =>
    intro k x h
    cases k with
    | zero => simp; omega
    | succ k => have := ih k x (by simpa using h); simp only [List.set_cons_succ, List.sum_cons, this, List.getD_cons_succ]; omega
theorem lt_of_pos {l : List Int} {k : Nat} (h : l.getD k 0 ≠ 0) : k < l.length := by
  by_cases hk : k < l.length
  · exact hk
  · rw [List.getD_eq_getElem?_getD, List.getElem?_eq_none (by omega)] at h; simp at h
theorem dec_sum (l : List Int) (k : Nat) (h : l.getD k 0 ≠ 0) : (dec l k).sum = l.sum - 1 := by
  unfold dec; rw [sum_set l k _ (lt_of_pos h)]; omega
theorem vec_get {l : List Int} (h : Vec l) (k : Nat) : 0 ≤ l.getD k 0 := by
  by_cases hk : k < l.length
  · rw [getD_lt hk]; exact h.2.1 _ (List.getElem_mem hk)
  · rw [List.getD_eq_getElem?_getD, List.getElem?_eq_none (by omega)]; simp
theorem vec_dec {l : List Int} (h : Vec l) {k : Nat} (hk : l.getD k 0 ≠ 0) : Vec (dec l k) := by
  refine ⟨by rw [dec_length]; exact h.1, fun x hx => ?_, by rw [dec_sum l k hk]; have := h.2.2; omega⟩
  have := vec_get h k
  rcases List.mem_or_eq_of_mem_set hx with hx | rfl
  · exact h.2.1 x hx
  · omega
theorem sumB_step (l : List Int) (h : Vec l) (i : Nat) : sumB l i ≤ sumB l (i + 1) := by
  simp only [sumB]
  split
  · rename_i hp; have := (count_pos (vec_dec h (k := i) (by omega))).1; omega
  · omega
theorem sumB_mono (l : List Int) (h : Vec l) {i j : Nat} (hij : i ≤ j) : sumB l i ≤ sumB l j := by
  induction j with
  | zero => have : i = 0 := by omega
            subst this; exact Int.le_refl _
  | succ j ih =>
    by_cases e : i = j + 1
    · subst e; exact Int.le_refl _
    · exact Int.le_trans (ih (by omega)) (sumB_step l h j)
theorem sumB_nonneg (l : List Int) (h : Vec l) (i : Nat) : 0 ≤ sumB l i := sumB_mono l h (Nat.zero_le i)

/- The rank, as both texts reckon it. -/
def bel (l : List Int) : Nat → Nat → Int → Int
  | _, 0, a => a
  | k, m + 1, a => bel l (k + 1) m (if l.getD k 0 > 0 then wr64 (a + count (dec l k)) else a)
def okAt (l : List Int) (i : Int) : Prop := 0 ≤ i ∧ i < l.length ∧ l.getD i.toNat 0 ≠ 0
instance (l : List Int) (i : Int) : Decidable (okAt l i) := by unfold okAt; exact inferInstance
def rank (l : List Int) : List Int → Int → Option (Int × List Int)
  | [], a => some (a, l)
  | i :: r, a => if okAt l i then rank (dec l i.toNat) r (bel l 0 i.toNat a) else none
/-- The place of the next number, from the k-th on. -/
def pick (l : List Int) : Nat → Nat → Int → Option (Nat × Int)
  | _, 0, _ => none
  | k, m + 1, n => if l.getD k 0 = 0 then pick l (k + 1) m n else if n < count (dec l k) then some (k, n) else pick l (k + 1) m (wr64 (n - count (dec l k)))
def anyPos (l : List Int) : Bool := l.any (· > 0)
def unr : Nat → List Int → Int → Option (List Int)
  | 0, l, _ => if anyPos l then none else some []
  | f + 1, l, n => if anyPos l then (match pick l 0 l.length n with
    | none => none
    | some (k, n') => (unr f (dec l k) n').map ((k : Int) :: ·)) else some []
theorem wr_in {n : Int} (h : -9223372036854775808 ≤ n ∧ n ≤ 9223372036854775807) : wr64 n = n := wrap_in h
theorem bel_eq (l : List Int) (h : Vec l) : ∀ (m k : Nat) (a : Int), 0 ≤ a → a + (sumB l (k + m) - sumB l k) ≤ 1000000000000 → bel l k m a = a + (sumB l (k + m) - sumB l k) := by
  intro m
  induction m with
  | zero => intro k a _ _; simp [bel]
  | succ m ih =>
    intro k a h0 h1
    have e : sumB l (k + 1) = sumB l k + if l.getD k 0 > 0 then count (dec l k) else 0 := rfl
    have e2 : k + (m + 1) = k + 1 + m := by omega
    rw [e2] at h1 ⊢
    have hm := sumB_mono l h (i := k + 1) (j := k + 1 + m) (by omega)
    simp only [bel]
    split
    · rename_i hp
      rw [if_pos hp] at e
      have hc := count_pos (vec_dec h (k := k) (by omega))
      have w := wr_in (n := a + count (dec l k)) (by omega)
      rw [w, ih (k + 1) _ (by omega) (by omega)]; omega
    · rename_i hp
      rw [if_neg hp] at e
      rw [ih (k + 1) a h0 (by omega)]; omega
theorem pick_at (l : List Int) (h : Vec l) (i : Nat) (hi : l.getD i 0 ≠ 0) (ρ : Int) (h0 : 0 ≤ ρ) (h1 : ρ < count (dec l i)) : ∀ (d k : Nat), k + d = i → ∀ m, l.length = k + m → pick l k m (sumB l i - sumB l k + ρ) = some (i, ρ) := by
  intro d
  induction d with
  | zero =>
    intro k hk m hm
    obtain rfl : k = i := by omega
    have hlt := lt_of_pos hi
    obtain ⟨m, rfl⟩ : ∃ j, m = j + 1 := ⟨m - 1, by omega⟩
    have e : sumB l k - sumB l k + ρ = ρ := by omega
    simp only [pick, e]
    rw [if_neg hi, if_pos h1]
  | succ d ih =>
    intro k hk m hm
    have hlt := lt_of_pos hi
    obtain ⟨m, rfl⟩ : ∃ j, m = j + 1 := ⟨m - 1, by omega⟩
    have e : sumB l (k + 1) = sumB l k + if l.getD k 0 > 0 then count (dec l k) else 0 := rfl
    have hmo := sumB_mono l h (i := k + 1) (j := i) (by omega)
    have ih' := ih (k + 1) (by omega) m (by omega)
    simp only [pick]
    by_cases hp : l.getD k 0 = 0
    · rw [if_pos hp]
      rw [if_neg (by omega)] at e
      have : sumB l i - sumB l (k + 1) = sumB l i - sumB l k := by omega
      rw [this] at ih'; exact ih'
    · have hpos : l.getD k 0 > 0 := by have := vec_get h k; omega
      rw [if_pos hpos] at e
      rw [if_neg hp, if_neg (by omega)]
      have hc := count_pos (vec_dec h (k := i) hi)
      have hci := (count_pos h).2
      have hS : sumB l i ≤ sumB l l.length := sumB_mono l h (by omega)
      have hcs := count_sum h (k := k) hpos
      have hk0 := sumB_nonneg l h k
      have hck := count_pos (vec_dec h (k := k) hp)
      have w := wr_in (n := sumB l i - sumB l k + ρ - count (dec l k)) (by omega)
      rw [w]
      have : sumB l i - sumB l (k + 1) + ρ = sumB l i - sumB l k + ρ - count (dec l k) := by omega
      rw [this] at ih'; exact ih'
theorem anyPos_iff (l : List Int) : anyPos l = true ↔ ∃ k, l.getD k 0 > 0 := by
  unfold anyPos
  rw [List.any_eq_true]
  constructor
  · rintro ⟨x, hx, hp⟩
    obtain ⟨k, hk, rfl⟩ := List.getElem_of_mem hx
    exact ⟨k, by rw [getD_lt hk]; simpa using hp⟩
  · rintro ⟨k, hk⟩
    have hlt := lt_of_pos (show l.getD k 0 ≠ 0 by omega)
    exact ⟨l[k], List.getElem_mem hlt, by rw [getD_lt hlt] at hk; simpa using hk⟩
theorem sum_pos {l : List Int} (h : Vec l) {k : Nat} (hk : l.getD k 0 > 0) : 0 < l.sum := by
  have h1 := dec_sum l k (by omega)
  have h2 := sum_nonneg _ (vec_dec h (k := k) (by omega)).2.1
  omega
theorem none_zero {l : List Int} (h : Vec l) (hs : l.sum = 0) : anyPos l = false := by
  cases hb : anyPos l with
  | false => rfl
  | true =>
    obtain ⟨k, hk⟩ := (anyPos_iff l).1 hb
    have := sum_pos h hk; omega
/-- A rank leads back to its order. -/
theorem rank_unr : ∀ (r : List Int) (l : List Int) (a a' : Int) (l' : List Int), Vec l → 0 ≤ a → a + count l ≤ 1000000000000 → rank l r a = some (a', l') → l'.sum = 0 →
    ∃ ρ, a' = a + ρ ∧ 0 ≤ ρ ∧ ρ < count l ∧ ∀ f : Nat, l.sum ≤ f → unr f l ρ = some r := by
  intro r
  induction r with
  | nil =>
    intro l a a' l' h h0 h1 hr hs
    simp only [rank, Option.some.injEq, Prod.mk.injEq] at hr
    obtain ⟨rfl, rfl⟩ := hr
    refine ⟨0, by omega, by omega, (count_pos h).1, fun f _ => ?_⟩
    have := none_zero h hs
    cases f <;> simp [unr, this]
  | cons i r ih =>
    intro l a a' l' h h0 h1 hr hs
    simp only [rank] at hr
    split at hr <;> first | (cases hr; done) | skip
    rename_i ho
    obtain ⟨o1, o2, o3⟩ := ho
    have hv := vec_dec h o3
    have hlt := lt_of_pos o3
    have hpos : l.getD i.toNat 0 > 0 := by have := vec_get h i.toNat; omega
    have hcs := count_sum h hpos
    have hS1 : sumB l (i.toNat + 1) = sumB l i.toNat + count (dec l i.toNat) := by simp only [sumB, if_pos hpos]
    have hS2 := sumB_mono l h (i := i.toNat + 1) (j := l.length) (by omega)
    have hS0 := sumB_nonneg l h i.toNat
    have hc := count_pos hv
    have hb := bel_eq l h i.toNat 0 a h0 (by simp only [Nat.zero_add, sumB]; omega)
    simp only [Nat.zero_add, sumB] at hb
    rw [hb] at hr
    obtain ⟨ρ, e1, e2, e3, e4⟩ := ih _ _ a' l' hv (by omega) (by omega) hr hs
    refine ⟨sumB l i.toNat + ρ, by omega, by omega, by omega, fun f hf => ?_⟩
    have hsp := sum_pos h hpos
    obtain ⟨f, rfl⟩ : ∃ g, f = g + 1 := ⟨f - 1, by omega⟩
    have hp := pick_at l h i.toNat o3 ρ e2 e3 i.toNat 0 (by omega) l.length (by omega)
    have e0 : sumB l i.toNat - sumB l 0 + ρ = sumB l i.toNat + ρ := by simp only [sumB]; omega
    rw [e0] at hp
    have ha : anyPos l = true := (anyPos_iff l).2 ⟨_, hpos⟩
    have hd := dec_sum l i.toNat o3
    have hi : ((i.toNat : Nat) : Int) = i := by omega
    simp only [unr, ha, if_true, hp, e4 f (by omega), Option.map_some, hi]
theorem rank_sum : ∀ (r l : List Int) (a a' : Int) (l' : List Int), Vec l → rank l r a = some (a', l') → l'.sum = l.sum - r.length ∧ Vec l' ∧ l'.length = l.length := by
  intro r
  induction r with
  | nil => intro l a a' l' h hr; simp only [rank, Option.some.injEq, Prod.mk.injEq] at hr; obtain ⟨rfl, rfl⟩ := hr; simp [h]
  | cons i r ih =>
    intro l a a' l' h hr
    simp only [rank] at hr
    split at hr <;> first | (cases hr; done) | skip
    rename_i ho
    obtain ⟨h1, h2, h3⟩ := ih _ _ _ _ (vec_dec h ho.2.2) hr
    rw [dec_sum l _ ho.2.2] at h1
    rw [dec_length] at h3
    exact ⟨by rw [h1]; simp only [List.length_cons]; omega, h2, h3⟩
/-- Where a number is below the count, the place is found. -/
theorem pick_some (l : List Int) (h : Vec l) : ∀ (m k : Nat) (n : Int), l.length = k + m → 0 ≤ n → n < sumB l l.length - sumB l k → ∃ i n', pick l k m n = some (i, n') ∧ 0 ≤ n' ∧ n' < count (dec l i) ∧ l.getD i 0 > 0 ∧ k ≤ i := by
  intro m
  induction m with
  | zero => intro k n hk h0 h1; have : l.length = k := by omega
            rw [this] at h1; omega
  | succ m ih =>
    intro k n hk h0 h1
    have e : sumB l (k + 1) = sumB l k + if l.getD k 0 > 0 then count (dec l k) else 0 := rfl
    simp only [pick]
    by_cases hp : l.getD k 0 = 0
    · rw [if_pos hp]
      rw [if_neg (by omega)] at e
      obtain ⟨i, n', a, b, c, d, g⟩ := ih (k + 1) n (by omega) h0 (by omega)
      exact ⟨i, n', a, b, c, d, by omega⟩
    · have hpos : l.getD k 0 > 0 := by have := vec_get h k; omega
      rw [if_pos hpos] at e
      rw [if_neg hp]
      by_cases hn : n < count (dec l k)
      · rw [if_pos hn]; exact ⟨k, n, rfl, h0, hn, hpos, Nat.le_refl _⟩
      · rw [if_neg hn]
        have hci := (count_pos h).2
        have hcs := count_sum h (k := k) hpos
        have hk0 := sumB_nonneg l h k
        have hck := count_pos (vec_dec h (k := k) hp)
        have w := wr_in (n := n - count (dec l k)) (by omega)
        rw [w]
        obtain ⟨i, n', a, b, c, d, g⟩ := ih (k + 1) (n - count (dec l k)) (by omega) (by omega) (by omega)
        exact ⟨i, n', a, b, c, d, by omega⟩
theorem unr_some : ∀ (f : Nat) (l : List Int) (n : Int), Vec l → l.sum ≤ f → 0 ≤ n → n < count l → ∃ r, unr f l n = some r := by
  intro f
  induction f with
  | zero =>
    intro l n h hs _ _
    have := sum_nonneg l h.2.1
    simp [unr, none_zero h (by omega)]
  | succ f ih =>
    intro l n h hs h0 h1
    simp only [unr]
    cases ha : anyPos l with
    | false => simp
    | true =>
      obtain ⟨k, hk⟩ := (anyPos_iff l).1 ha
      have hcs := count_sum h hk
      obtain ⟨i, n', a, b, c, d, g⟩ := pick_some l h l.length 0 n (by omega) h0 (by simp only [sumB]; omega)
      have hd := dec_sum l i (by omega)
      obtain ⟨r, hr⟩ := ih (dec l i) n' (vec_dec h (by omega)) (by omega) b c
      simp [a, hr]
end Go.V37

/- Rows of one's own; the functions that reckon with vectors. -/
namespace Go.V37
open Go Go.V Go.Proofs
/-- A row of numbers that may be written. -/
def RowM (h : H) (v : AV) (l : List Int) : Prop := (l = [] ∧ v = .isl [] .full) ∨ ∃ id cap, v = .msl id 0 1 l.length cap ∧ h[id]? = some (.cells (l.map (AV.int .i64)) .live)
theorem RowM.len {h : H} {v : AV} {l : List Int} (r : RowM h v l) : lenV C.P 22 v = some (.int .i64 l.length) := by
  rcases r with ⟨rfl, rfl⟩ | ⟨id, cap, rfl, _⟩ <;> simp [go_sem]
theorem RowM.keep {h h' : H} {v : AV} {l : List Int} (r : RowM h v l) {x : Option Nat} (k : Keep h h' x) (hn : ∀ i, idOf v = some i → x ≠ some i) : RowM h' v l := by
  rcases r with ⟨rfl, rfl⟩ | ⟨id, cap, rfl, hid⟩
  · exact .inl ⟨rfl, rfl⟩
  · exact .inr ⟨id, cap, rfl, k.get hid (hn id rfl)⟩
/-- A number of the row: where it lies, what it is, how it is written. -/
theorem RowM.at {h : H} {v : AV} {l : List Int} (r : RowM h v l) {k : Nat} (hk : k < l.length) : ∃ p, indexAddrV C.P 22 v (.int .i64 k) = some p ∧ loadV C.P h 3 p = some (.int .i64 (l.getD k 0)) ∧
    ∀ x, ∃ h', storeV C.P h 3 p (.int .i64 x) = some h' ∧ RowM h' v (l.set k x) ∧ Keep h h' (idOf v) ∧ loadV C.P h' 3 p = some (.int .i64 x) := by
  rcases r with ⟨rfl, rfl⟩ | ⟨id, cap, rfl, hid⟩
  · simp at hk
  · have hlt := (List.getElem?_eq_some_iff.1 hid).1
    refine ⟨.ptr id k, by simp [indexAddrV, u22, s3, hk], by simp [loadV, hid, cellsAt, a3, s3, hk], fun x => ⟨h.set id (.cells ((l.set k x).map (AV.int .i64)) .live), by simp [storeV, hid, s3, hk, List.map_set], .inr ⟨id, cap, by simp, by simp [hlt]⟩, .set _ _ _, by simp [loadV, hlt, cellsAt, a3, s3, hk]⟩⟩
theorem chunk_ints (l : List Int) : chunk 1 l.length (l.map (AV.int .i64)) = l.map (AV.int .i64) := by
  have := chunk1 (l.map (AV.int .i64)); rwa [List.length_map] at this
/-- A call that reads the row, and answers with numbers. -/
theorem RowM.call {h : H} {v : AV} {l : List Int} (r : RowM h v l) (hs : l.length ≤ 100000) {f : FuncId} {rest rest' : List AV} {x : AV} (hb : hasBody C.P f = true) (hm : C.mode f = .strip)
    (hd : dats rest = some rest') (hsh : rest.all short = true) (hr : rest.length < 80000) (hv : CallP C f (ints l :: rest') = some x) (hsv : scal x = true) : callV C h (.func f []) (some (v :: rest)) = some (x, h) := by
  rcases r with ⟨rfl, rfl⟩ | ⟨id, cap, rfl, hid⟩
  · exact callV_strip (args' := ints [] :: rest') hb hm (by simp only [dats, dat, dat1, hd]; rfl) (by simp only [List.all_cons, hsh]; rfl) (by simp only [List.length_cons]; omega) hv
  · refine callV_row hb hm hid (by simp) (dats1_ints l) (by simp; omega) hd hsh (by omega) ?_ hsv
    rw [chunk_ints]; exact hv
theorem append_wr (h : H) (l : List Int) (x : Ext) (hs : l.length ≤ 100000) : ∃ v h', appendW C.P true h 22 (.isl [] .full) (.isl (l.map (AV.int .i64)) x) = some (v, h') ∧ RowM h' v l ∧ Keep h h' none ∧ (∀ i, idOf v = some i → h.length ≤ i) := by
  have hb : l.length * (8 + 1) ≤ 35184372088832 := by omega
  have hsc := scalars_ints l
  have hsz := szOk_ints l
  cases l with
  | nil => exact ⟨.isl [] .full, h, by simp [appendW, appendV, u22, s3, b3, elemsV, z3, szOk, adopt], .inl ⟨rfl, rfl⟩, .refl _ _, fun i hi => by cases hi⟩
  | cons a l =>
    simp only [List.map_cons] at hsc hsz
    simp only [List.length_cons] at hb
    refine ⟨.msl h.length 0 1 (l.length + 1) none, h ++ [.cells ((a :: l).map (AV.int .i64)) .live], ?_, .inr ⟨h.length, none, rfl, by simp⟩, .append _ _ _, fun i hi => by simp [idOf] at hi; omega⟩
    simp [appendW, appendV, u22, s3, b3, elemsV, z3, szOk, AV.cells, hb, adopt, hsc]
theorem clone_wr (h : H) (l : List Int) (hs : l.length ≤ 100000) : ∃ v h', callV C h (.func 19 []) (some [ints l]) = some (v, h') ∧ RowM h' v l ∧ Keep h h' none ∧ (∀ i, idOf v = some i → h.length ≤ i) := by
  have hb : hasBody C.P 19 = true := by kernel_rfl
  obtain ⟨e1, e2⟩ := dats_snap (h := h) (l := [ints l]) (l' := [ints l]) rfl rfl deep (by simp [deep])
  have hcall : ∃ v h', applyCall C (Go.V.Call C) 19 [ints l] h = some (v, h') ∧ RowM h' v l ∧ Keep h h' none ∧ (∀ i, idOf v = some i → h.length ≤ i) := by
    unfold applyCall
    rw [show C.mode 19 = .ownM from rfl]
    dsimp only
    rw [e2]
    simp only [Go.V.freeze, e1]
    by_cases hl : l = []
    · subst hl
      have hp : Go.V.Call C 19 [ints []] [] = some (.isl [] .full, []) := Call_prim Try.func19 rfl
      rw [hp]
      exact ⟨.isl [] .full, h, rfl, .inl ⟨rfl, rfl⟩, .refl _ _, fun i hi => by cases hi⟩
    · rw [clone_call l [] hl (by omega)]
      refine ⟨.msl h.length 0 1 l.length none, h ++ [.cells (l.map (AV.int .i64)) .live], ?_, .inr ⟨_, _, rfl, by simp⟩, .append _ _ _, fun i hi => by simp [idOf] at hi; omega⟩
      have hsc := scalars_ints l
      cases l with
      | nil => exact absurd rfl hl
      | cons a l =>
        simp only [List.map_cons] at hsc
        simp [finishV, adoptR, adopt, hsc, s3]
  simpa only [callV, hb, if_true, List.append_nil] using hcall
/-- Vectors that count reckons with. -/
def Sm (l : List Int) : Prop := l.length ≤ 4 ∧ ∀ x ∈ l, x ≤ 12
theorem Vec.sm {l : List Int} (h : Vec l) : Sm l := by
  refine ⟨h.1, ?_⟩
  obtain ⟨h1, h2, h3⟩ := h
  clear h1
  induction l with
  | nil => intro x hx; simp at hx
  | cons a l ih =>
    intro x hx
    have h0 := sum_nonneg l fun y hy => h2 y (by simp [hy])
    have ha := h2 a (by simp)
    simp only [List.sum_cons] at h3
    rcases List.mem_cons.1 hx with rfl | hx
    · omega
    · exact ih (fun y hy => h2 y (by simp [hy])) (by omega) x hx
theorem crow_snd : ∀ (m : Nat) (k r t : Int), (crow m k r t).2 = t + m := by
  intro m
  induction m with
  | zero => intro k r t; simp [crow]
  | succ m ih => intro k r t; rw [crow, ih]; omega
theorem bin_quo1 {P : Program} {t : TypeId} {x y : Operand} {a b : Int} (hb : b ≠ 0) : binV P .quo t x y (.int .i64 a) (.int .i64 b) = some (.int .i64 (wr64 (a.tdiv b))) := bin_quo hb
theorem crow_succ (m : Nat) (k r t : Int) : crow (m + 1) k r t = crow m (k + 1) (wr64 ((wr64 (r * (t + 1))).tdiv k)) (t + 1) := rfl
def CO26 (l : List Int) (n : Nat) (s : PT) (h : H) : Prop := ∃ (i : Nat) (r t : Int), n = l.length - i ∧ i ≤ l.length ∧ 0 ≤ t ∧ t ≤ 12 * i ∧ h = [] ∧ s.get 8 = ints l ∧ s.get 9 = .int .i64 l.length ∧ s.get 10 = .int .i64 i ∧ s.get 3 = .int .i64 r ∧ s.get 4 = .int .i64 t ∧ cnt (l.drop i) r t = count l
def CI26 (l : List Int) (i : Nat) (x r t : Int) (n : Nat) (s : PT) (h : H) : Prop := ∃ (j : Nat) (r' : Int), n = x.toNat - j ∧ j ≤ x.toNat ∧ h = [] ∧ s.get 8 = ints l ∧ s.get 9 = .int .i64 l.length ∧ s.get 10 = .int .i64 i ∧ s.get 3 = .int .i64 r' ∧ s.get 4 = .int .i64 (t + j) ∧ s.get 6 = .int .i64 x ∧ s.get 7 = .int .i64 (j + 1) ∧ crow (x.toNat - j) (j + 1) r' (t + j) = crow x.toNat 1 r t
def CO28 (l : List Int) (n : Nat) (s : PT) (h : H) : Prop := ∃ (i : Nat) (r t : Int), n = l.length - i ∧ i ≤ l.length ∧ 0 ≤ t ∧ t ≤ 12 * i ∧ h = [] ∧ s.get 0 = ints l ∧ s.get 5 = .int .i64 i ∧ s.get 3 = .int .i64 r ∧ s.get 4 = .int .i64 t ∧ cnt (l.drop i) r t = count l
def CI28 (l : List Int) (i : Nat) (x r t : Int) (n : Nat) (s : PT) (h : H) : Prop := ∃ (j : Nat) (r' : Int), n = x.toNat - j ∧ j ≤ x.toNat ∧ h = [] ∧ s.get 0 = ints l ∧ s.get 5 = .int .i64 i ∧ s.get 3 = .int .i64 r' ∧ s.get 4 = .int .i64 (t + j) ∧ s.get 6 = .int .i64 (j + 1) ∧ crow (x.toNat - j) (j + 1) r' (t + j) = crow x.toNat 1 r t
set_option maxHeartbeats 1000000 in
theorem count_call (l : List Int) (hl : Sm l) : CallP C 26 [ints l] = some (.int .i64 (count l)) := by
  obtain ⟨hl4, hl12⟩ := hl
  refine CallP_W rfl Try.func26 rfl (by kernel_rfl) (by simp [Try.f26]) fun R hR => ?_
  simp [go_sem, len_ints]
  refine W_loop (CO26 l) l.length
    ⟨0, 1, 0, by simp [go_sem, count]⟩ ?_
  rintro n s h ⟨i, r, t, rfl, hi, ht0, ht1, rfl, g8, g9, g10, g3, g4, hc⟩
  by_cases hlt : i < l.length
  · have hlt' : (i : Int) < l.length := by omega
    have hx := hl12 l[i] (List.getElem_mem hlt)
    have hix := idx l i hlt .unk
    simp only [ints] at g8
    have w1 : IntKind.i64.wrap ((i : Int) + 1) = i + 1 := wrap_in (by omega)
    simp [go_sem, g8, g9, g10, hlt', hix, ldi]
    rw [List.drop_eq_getElem_cons hlt, cnt] at hc
    refine W_loop (CI26 l i l[i] r t) l[i].toNat
      ⟨0, r, by simp [go_sem, g8, g9, g10, g3, g4, ints]⟩ ?_
    rintro n s2 h2 ⟨j, r', rfl, hj, rfl, k8, k9, k10, k3, k4, k6, k7, hr⟩
    by_cases hjt : j < l[i].toNat
    · have hjt' : (j : Int) + 1 ≤ l[i] := by omega
      have w2 : IntKind.i64.wrap (t + j + 1) = t + j + 1 := wrap_in (by omega)
      have w3 : IntKind.i64.wrap ((j : Int) + 1 + 1) = j + 1 + 1 := wrap_in (by omega)
      have hq : ∀ P t x y a, binV P .quo t x y (.int .i64 a) (.int .i64 ((j : Int) + 1)) = some (.int .i64 (wr64 (a.tdiv (j + 1)))) := fun P t x y a => bin_quo1 (by omega)
      simp [go_sem, k3, k4, k6, k7, hjt', w2, w3, hq]
      refine ⟨l[i].toNat - (j + 1), by omega, j + 1, wr64 ((wr64 (r' * (t + j + 1))).tdiv (j + 1)), rfl, by omega, rfl, ?_, ?_, ?_, ?_, ?_, ?_, ?_, ?_⟩
      · simp [go_sem, k8]
      · simp [go_sem, k9]
      · simp [go_sem, k10]
      · simp [go_sem]
      · simp [go_sem]; omega
      · simp [go_sem, k6]
      · simp [go_sem]
      · rw [← hr]
        have : l[i].toNat - j = (l[i].toNat - (j + 1)) + 1 := by omega
        rw [this, crow_succ]
        congr 1 <;> omega
    · have hjt' : ¬ (j : Int) + 1 ≤ l[i] := by omega
      simp [go_sem, k6, k7, k10, hjt', w1]
      have hj0 : l[i].toNat - j = 0 := by omega
      rw [hj0] at hr
      simp only [crow] at hr
      rw [← hr] at hc
      refine ⟨l.length - (i + 1), by omega, i + 1, r', t + j, rfl, by omega, by omega, by omega, rfl, ?_, ?_, ?_, ?_, ?_, hc⟩
      · simp [go_sem, k8]
      · simp [go_sem, k9]
      · simp [go_sem]
      · simp [go_sem, k3]
      · simp [go_sem, k4]
  · have : i = l.length := by omega
    subst this
    simp only [List.drop_length, cnt] at hc
    simp [go_sem, g9, g10, g3]
    refine hR _ _ _ (.inr rfl) ⟨_, rfl, ?_⟩
    simp [go_sem, hc]
    exact snap_dat rfl rfl
set_option maxHeartbeats 1000000 in
theorem number_call (l : List Int) (hl : Sm l) : CallP C 28 [ints l] = some (.int .i64 (count l)) := by
  obtain ⟨hl4, hl12⟩ := hl
  refine CallP_W rfl Try.func28 rfl (by kernel_rfl) (by simp [Try.f28]) fun R hR => ?_
  simp [go_sem, len_ints]
  refine W_loop (CO28 l) l.length
    ⟨0, 1, 0, by simp [go_sem, count]⟩ ?_
  rintro n s h ⟨i, r, t, rfl, hi, ht0, ht1, rfl, g8, g10, g3, g4, hc⟩
  by_cases hlt : i < l.length
  · have hlt' : (i : Int) < l.length := by omega
    have hx := hl12 l[i] (List.getElem_mem hlt)
    have hix := idx l i hlt .unk
    simp only [ints] at g8
    have w1 : IntKind.i64.wrap ((i : Int) + 1) = i + 1 := wrap_in (by omega)
    simp [go_sem, g8, g10, hlt', hix, ldi]
    rw [List.drop_eq_getElem_cons hlt, cnt] at hc
    refine W_loop (CI28 l i l[i] r t) l[i].toNat
      ⟨0, r, by simp [go_sem, g8, g10, g3, g4, ints]⟩ ?_
    rintro n s2 h2 ⟨j, r', rfl, hj, rfl, k8, k10, k3, k4, k7, hr⟩
    simp only [ints] at k8
    by_cases hjt : j < l[i].toNat
    · have hjt' : (j : Int) + 1 ≤ l[i] := by omega
      have w2 : IntKind.i64.wrap (t + j + 1) = t + j + 1 := wrap_in (by omega)
      have w3 : IntKind.i64.wrap ((j : Int) + 1 + 1) = j + 1 + 1 := wrap_in (by omega)
      have hq : ∀ P t x y a, binV P .quo t x y (.int .i64 a) (.int .i64 ((j : Int) + 1)) = some (.int .i64 (wr64 (a.tdiv (j + 1)))) := fun P t x y a => bin_quo1 (by omega)
      simp [go_sem, k8, k10, k3, k4, k7, hjt', w2, w3, hq, hix, ldi]
      refine ⟨l[i].toNat - (j + 1), by omega, j + 1, wr64 ((wr64 (r' * (t + j + 1))).tdiv (j + 1)), rfl, by omega, rfl, ?_, ?_, ?_, ?_, ?_, ?_⟩
      · simp [go_sem, k8, ints]
      · simp [go_sem, k10]
      · simp [go_sem]
      · simp [go_sem]; omega
      · simp [go_sem]
      · rw [← hr]
        have : l[i].toNat - j = (l[i].toNat - (j + 1)) + 1 := by omega
        rw [this, crow_succ]
        congr 1 <;> omega
    · have hjt' : ¬ (j : Int) + 1 ≤ l[i] := by omega
      simp [go_sem, k8, k7, k10, hjt', w1, hix, ldi]
      have hj0 : l[i].toNat - j = 0 := by omega
      rw [hj0] at hr
      simp only [crow] at hr
      rw [← hr] at hc
      refine ⟨l.length - (i + 1), by omega, i + 1, r', t + j, rfl, by omega, by omega, by omega, rfl, ?_, ?_, ?_, ?_, hc⟩
      · simp [go_sem, k8, ints]
      · simp [go_sem]
      · simp [go_sem, k3]
      · simp [go_sem, k4]
  · have : i = l.length := by omega
    subst this
    simp only [List.drop_length, cnt] at hc
    simp [go_sem, g8, g10, g3, len_ints]
    refine hR _ _ _ (.inr rfl) ⟨_, rfl, ?_⟩
    simp [go_sem, hc]
    exact snap_dat rfl rfl
end Go.V37

/- less, next, and whether something is left. -/
namespace Go.V37
open Go Go.V Go.Proofs
theorem call26 {h : H} {v : AV} {l : List Int} (r : RowM h v l) (hl : Sm l) : callV C h (.func 26 []) (some [v]) = some (.int .i64 (count l), h) :=
  r.call (by have := hl.1; omega) (by kernel_rfl) rfl rfl rfl (by simp) (count_call l hl) rfl
theorem call28 {h : H} {l : List Int} (hl : Sm l) : callV C h (.func 28 []) (some [ints l]) = some (.int .i64 (count l), h) :=
  callV_strip (by kernel_rfl) rfl rfl rfl (by simp) (number_call l hl)
theorem call26i {h : H} {l : List Int} (hl : Sm l) : callV C h (.func 26 []) (some [ints l]) = some (.int .i64 (count l), h) :=
  callV_strip (by kernel_rfl) rfl rfl rfl (by simp) (count_call l hl)
theorem less_call (a : Int) (t : List Int) (k : Nat) (hs : (a :: t).length ≤ 100000) (hk : k < (a :: t).length) (hb : -1000 ≤ (a :: t).getD k 0) (hb2 : (a :: t).getD k 0 ≤ 1000) :
    Go.V.Call C 29 [ints (a :: t), .int .i64 k] [] = some (.msl 1 0 1 (a :: t).length none, [.tok 0 3, .cells ((dec (a :: t) k).map (AV.int .i64)) .live]) := by
  generalize hl : a :: t = l at *
  refine Call_W rfl Try.func29 rfl (by kernel_rfl) (by simp [Try.f29]) fun R hR => ?_
  have hap : appendW C.P (C.wr 29 8) [.tok 0 3] 22 (.isl [] .full) (.isl (l.map (AV.int .i64)) .unk) = some (.msl 1 0 1 l.length none, [.tok 0 3, .cells (l.map (AV.int .i64)) .live]) := by
    have hw : C.wr 29 8 = true := rfl
    have hsc := scalars_ints l
    have hsz := szOk_ints l
    have hb : l.length * (8 + 1) ≤ 35184372088832 := by omega
    subst hl
    simp only [List.map_cons] at hsc hsz
    simp only [List.length_cons] at hb
    simp [hw, appendW, appendV, u22, s3, b3, elemsV, z3, szOk, AV.cells, hb, adopt, hsc]
  have hix : indexAddrV C.P 22 (.msl 1 0 1 l.length none) (.int .i64 k) = some (.ptr 1 k) := by simp [indexAddrV, u22, s3, hk]
  have hld : loadV C.P [.tok 0 3, .cells (l.map (AV.int .i64)) .live] 3 (.ptr 1 k) = some (.int .i64 (l.getD k 0)) := by simp [loadV, cellsAt, a3, s3, hk]
  have hst : ∀ x, storeV C.P [.tok 0 3, .cells (l.map (AV.int .i64)) .live] 3 (.ptr 1 k) (.int .i64 x) = some [.tok 0 3, .cells ((l.set k x).map (AV.int .i64)) .live] := by
    intro x; simp [storeV, s3, hk, List.map_set]
  have w1 : IntKind.i64.wrap (l.getD k 0 - 1) = l.getD k 0 - 1 := wrap_in (by omega)
  simp only [ints] at *
  simp [go_sem, build_nil, hap, hix, -List.getD_eq_getElem?_getD, hld, hst, w1]
  refine hR _ _ _ (.inr rfl) ⟨_, rfl, ?_⟩
  simp [go_sem, dec, List.map_set]
/-- less, of a row of one's own. -/
theorem call29 {h : H} {v : AV} {l : List Int} (r : RowM h v l) (hs : l.length ≤ 10000) {k : Nat} (hk : k < l.length) (hb : -1000 ≤ l.getD k 0) (hb2 : l.getD k 0 ≤ 1000) : callV C h (.func 29 []) (some [v, .int .i64 k]) = some (ints (dec l k), h) := by
  rcases r with ⟨rfl, rfl⟩ | ⟨id, cap, rfl, hid⟩
  · simp at hk
  · cases l with
    | nil => simp at hk
    | cons a t =>
      have hc := less_call a t k (by omega) hk hb hb2
      have := callV_rowT (C := C) (f := 29) (cap := cap) (len := (a :: t).length) (rest := [.int .i64 k]) (by kernel_rfl) rfl hid (by simp) (dats1_ints _) (by simp only [List.length_map]; omega) rfl rfl (by simp) (n := (a :: t).length) (by rw [chunk_ints]; exact hc) rfl (scalars_ints _) (by simp [dec_length])
      rw [this]
      have e : ((dec (a :: t) k).map (AV.int .i64)).take (a :: t).length = (dec (a :: t) k).map (AV.int .i64) := by
        rw [List.take_of_length_le]; simp [dec_length]
      rw [e]; rfl
/-- The first place with something left. -/
def nextP (l : List Int) : Nat → Nat → Option Nat
  | _, 0 => none
  | k, m + 1 => if l.getD k 0 > 0 then some k else nextP l (k + 1) m
def nxt (l : List Int) : Option Nat := nextP l 0 l.length
def nxtI (l : List Int) : Int := match nxt l with
  | some k => k
  | none => -1
def NI32 (l : List Int) (n : Nat) (s : PT) (h : H) : Prop := ∃ k : Nat, n = l.length - k ∧ k ≤ l.length ∧ h = [] ∧ s.get 0 = ints l ∧ s.get 3 = .int .i64 k ∧ nextP l k (l.length - k) = nxt l
theorem next_call (l : List Int) (hl : l.length ≤ 100) : CallP C 32 [ints l] = some (.int .i64 (nxtI l)) := by
  refine CallP_W rfl Try.func32 rfl (by kernel_rfl) (by simp [Try.f32]) fun R hR => ?_
  simp [go_sem]
  refine W_loop (NI32 l) l.length ⟨0, by simp [go_sem, nxt]⟩ ?_
  rintro n s h ⟨k, rfl, hk, rfl, g0, g3, hn⟩
  by_cases hlt : k < l.length
  · have hlt' : (k : Int) < l.length := by omega
    have hix := idx l k hlt .unk
    have hg : l.getD k 0 = l[k] := getD_lt hlt
    simp only [ints] at g0
    have e : l.length - k = (l.length - (k + 1)) + 1 := by omega
    rw [e, nextP, hg] at hn
    by_cases hp : 0 < l[k]
    · simp [go_sem, g0, g3, hlt', hix, ldi, hp]
      refine hR _ _ _ (.inr rfl) ⟨_, rfl, ?_⟩
      rw [if_pos hp] at hn
      simp [go_sem, nxtI, ← hn]
      exact snap_dat rfl rfl
    · have w1 : IntKind.i64.wrap ((k : Int) + 1) = k + 1 := wrap_in (by omega)
      simp [go_sem, g0, g3, hlt', hix, ldi, hp, w1]
      rw [if_neg hp] at hn
      refine ⟨l.length - (k + 1), by omega, k + 1, rfl, by omega, rfl, ?_, ?_, hn⟩
      · simp [go_sem, g0, ints]
      · simp [go_sem]
  · have : k = l.length := by omega
    subst this
    simp [go_sem, g0, g3, len_ints]
    refine hR _ _ _ (.inr rfl) ⟨_, rfl, ?_⟩
    simp only [Nat.sub_self, nextP] at hn
    simp [go_sem, nxtI, ← hn]
    exact snap_dat rfl rfl
theorem pos_call (n : Int) : CallP C 31 [.int .i64 n] = some (.bool (decide (0 < n))) := by
  refine CallP_W rfl Try.func31 rfl (by kernel_rfl) (by simp [Try.f31]) fun R hR => ?_
  simp [go_sem]
  refine hR _ _ _ (.inr rfl) ⟨_, rfl, ?_⟩
  simp [go_sem]
  exact snap_dat rfl rfl
theorem call31 (n : Int) (h : H) : callV C h (.func 31 []) (some [.int .i64 n]) = some (.bool (decide (0 < n)), h) := callV_strip (by kernel_rfl) rfl rfl rfl (by simp) (pos_call n)
def NI35 (l : List Int) (n : Nat) (s : PT) (h : H) : Prop := ∃ k : Nat, n = l.length - k ∧ k ≤ l.length ∧ h = [] ∧ s.get 0 = ints l ∧ s.get 1 = .func 31 [] ∧ s.get 7 = .int .i64 l.length ∧ s.get 8 = .int .i64 k ∧ nextP l k (l.length - k) = nxt l
theorem indexFunc_call (l : List Int) (hl : l.length ≤ 100) : CallP C 35 [ints l, .func 31 []] = some (.int .i64 (nxtI l)) := by
  refine CallP_W rfl Try.func35 rfl (by kernel_rfl) (by simp [Try.f35]) fun R hR => ?_
  simp [go_sem, len_ints]
  refine W_loop (NI35 l) l.length ⟨0, by simp [go_sem, nxt]⟩ ?_
  rintro n s h ⟨k, rfl, hk, rfl, g0, g1, g7, g8, hn⟩
  by_cases hlt : k < l.length
  · have hlt' : (k : Int) < l.length := by omega
    have hix := idx l k hlt .unk
    have hg : l.getD k 0 = l[k] := getD_lt hlt
    simp only [ints] at g0
    have e : l.length - k = (l.length - (k + 1)) + 1 := by omega
    rw [e, nextP, hg] at hn
    by_cases hp : 0 < l[k]
    · simp [go_sem, g0, g1, g7, g8, hlt', hix, ldi, call31, hp]
      refine hR _ _ _ (.inr rfl) ⟨_, rfl, ?_⟩
      rw [if_pos hp] at hn
      simp [go_sem, nxtI, ← hn]
      exact snap_dat rfl rfl
    · have w1 : IntKind.i64.wrap ((k : Int) + 1) = k + 1 := wrap_in (by omega)
      simp [go_sem, g0, g1, g7, g8, hlt', hix, ldi, call31, hp, w1]
      rw [if_neg hp] at hn
      refine ⟨l.length - (k + 1), by omega, k + 1, rfl, by omega, rfl, ?_, ?_, ?_, ?_, hn⟩
      · simp [go_sem, g0, ints]
      · simp [go_sem, g1]
      · simp [go_sem, g7]
      · simp [go_sem]
  · have : k = l.length := by omega
    subst this
    simp [go_sem, g7, g8]
    refine hR _ _ _ (.inr rfl) ⟨_, rfl, ?_⟩
    simp only [Nat.sub_self, nextP] at hn
    simp [go_sem, nxtI, ← hn]
    exact snap_dat rfl rfl
theorem call35 (l : List Int) (h : H) (hl : l.length ≤ 100) : callV C h (.func 35 []) (some [ints l, .func 31 []]) = some (.int .i64 (nxtI l), h) := callV_strip (by kernel_rfl) rfl rfl rfl (by simp) (indexFunc_call l hl)
theorem nextP_spec (l : List Int) : ∀ (m k : Nat), (nextP l k m = none ∧ ∀ i, k ≤ i → i < k + m → ¬ l.getD i 0 > 0) ∨ ∃ j, nextP l k m = some j ∧ k ≤ j ∧ j < k + m ∧ l.getD j 0 > 0 ∧ ∀ i, k ≤ i → i < j → ¬ l.getD i 0 > 0 := by
  intro m
  induction m with
  | zero => intro k; exact .inl ⟨rfl, fun i h1 h2 => by omega⟩
  | succ m ih =>
    intro k
    simp only [nextP]
    by_cases hp : l.getD k 0 > 0
    · rw [if_pos hp]; exact .inr ⟨k, rfl, Nat.le_refl _, by omega, hp, fun i h1 h2 => by omega⟩
    · rw [if_neg hp]
      rcases ih (k + 1) with ⟨h1, h2⟩ | ⟨j, h1, h2, h3, h4, h5⟩
      · refine .inl ⟨h1, fun i h3 h4 => ?_⟩
        by_cases e : i = k
        · subst e; exact hp
        · exact h2 i (by omega) (by omega)
      · refine .inr ⟨j, h1, by omega, by omega, h4, fun i h6 h7 => ?_⟩
        by_cases e : i = k
        · subst e; exact hp
        · exact h5 i (by omega) (by omega)
theorem nxt_spec (l : List Int) : (nxt l = none ∧ anyPos l = false) ∨ ∃ j, nxt l = some j ∧ j < l.length ∧ l.getD j 0 > 0 ∧ anyPos l = true ∧ ∀ i, i < j → ¬ l.getD i 0 > 0 := by
  rcases nextP_spec l l.length 0 with ⟨h1, h2⟩ | ⟨j, h1, h2, h3, h4, h5⟩
  · refine .inl ⟨h1, ?_⟩
    cases hb : anyPos l with
    | false => rfl
    | true =>
      obtain ⟨k, hk⟩ := (anyPos_iff l).1 hb
      exact absurd hk (h2 k (by omega) (by have := lt_of_pos (show l.getD k 0 ≠ 0 by omega); omega))
  · exact .inr ⟨j, h1, by omega, h4, (anyPos_iff l).2 ⟨j, h4⟩, fun i hi => h5 i (by omega) hi⟩
theorem nxtI_pos (l : List Int) : decide (0 ≤ nxtI l) = anyPos l := by
  rcases nxt_spec l with ⟨h1, h2⟩ | ⟨j, h1, h2, h3, h4, h5⟩
  · simp [nxtI, h1, h2]
  · have : (0 : Int) ≤ j := by omega
    simp [nxtI, h1, h4]
theorem contains_call (l : List Int) (hl : l.length ≤ 100) : CallP C 30 [ints l, .func 31 []] = some (.bool (anyPos l)) := by
  refine CallP_W rfl Try.func30 rfl (by kernel_rfl) (by simp [Try.f30]) fun R hR => ?_
  have c35 := fun h => call35 l h hl
  have hp := nxtI_pos l
  simp [go_sem, c35]
  refine hR _ _ _ (.inr rfl) ⟨_, rfl, ?_⟩
  simp [go_sem, hp]
  exact snap_dat rfl rfl
theorem call30 {h : H} {v : AV} {l : List Int} (r : RowM h v l) (hl : l.length ≤ 100) : callV C h (.func 30 []) (some [v, .func 31 []]) = some (.bool (anyPos l), h) :=
  r.call (by omega) (by kernel_rfl) rfl rfl rfl (by simp) (contains_call l hl) rfl
theorem call32 {h : H} {v : AV} {l : List Int} (r : RowM h v l) (hl : l.length ≤ 100) : callV C h (.func 32 []) (some [v]) = some (.int .i64 (nxtI l), h) :=
  r.call (by omega) (by kernel_rfl) rfl rfl rfl (by simp) (next_call l hl) rfl
end Go.V37

/- The program's Rank. -/
namespace Go.V37
open Go Go.V Go.Proofs
theorem set_back (l : List Int) (k : Nat) : (dec l k).set k (l.getD k 0) = l := by
  unfold dec
  rw [List.set_set]
  by_cases hk : k < l.length
  · rw [getD_lt hk]; simp
  · rw [List.set_eq_of_length_le (by omega)]
def S11 (c o : List Int) (v : AV) (h0 : H) (n : Nat) (s : PT) (h : H) : Prop := ∃ i : Nat, n = c.length - i ∧ i ≤ c.length ∧ h = h0 ∧ s.get 1 = ints o ∧ s.get 7 = v ∧ s.get 22 = ints c ∧ s.get 23 = .int .i64 c.length ∧ s.get 24 = .int .i64 i ∧ s.get 8 = .int .i64 (c.take i).sum
def R11 (c o : List Int) (n : Nat) (s : PT) (h : H) : Prop := ∃ (i : Nat) (l : List Int) (a : Int) (v : AV), n = o.length - i ∧ i ≤ o.length ∧ s.get 7 = v ∧ RowM h v l ∧ s.get 36 = ints o ∧ s.get 37 = .int .i64 o.length ∧ s.get 38 = .int .i64 i ∧ s.get 11 = .int .i64 a ∧ Vec l ∧ l.length = c.length ∧ rank l (o.drop i) a = rank c o 0
def I11 (o : List Int) (i : Nat) (l : List Int) (x a : Int) (v : AV) (n : Nat) (s : PT) (h : H) : Prop := ∃ (k : Nat) (a' : Int), n = x.toNat - k ∧ k ≤ x.toNat ∧ s.get 7 = v ∧ RowM h v l ∧ s.get 36 = ints o ∧ s.get 37 = .int .i64 o.length ∧ s.get 38 = .int .i64 i ∧ s.get 13 = .int .i64 x ∧ s.get 57 = .int .i64 x ∧ s.get 58 = .int .i64 k ∧ s.get 11 = .int .i64 a' ∧ bel l k (x.toNat - k) a' = bel l 0 x.toNat a
theorem vec_of_check (c : List Int) (h : check c = 0) : Vec c := by
  obtain ⟨h1, h2, h3⟩ := check_ok c h
  exact ⟨h1, fun x hx => (h2 x hx).1, h3⟩
theorem take_sum_le : ∀ (c : List Int) (i : Nat), (∀ x ∈ c, 0 ≤ x) → 0 ≤ (c.take i).sum ∧ (c.take i).sum ≤ c.sum := by
  intro c
  induction c with
  | nil => intro i _; simp
  | cons a c ih =>
    intro i h
    cases i with
    | zero => simp only [List.take_zero, List.sum_nil]; exact ⟨Int.le_refl _, sum_nonneg _ h⟩
    | succ i => have := ih i fun x hx => h x (by simp [hx])
                have := h a (by simp)
                simp only [List.take_succ_cons, List.sum_cons]; omega
/-- What Rank answers. -/
def rankR (c o : List Int) : Int × Int := if check c ≠ 0 then (0, check c) else if (o.length : Int) ≠ c.sum then (0, 1) else match rank c o 0 with
  | some (a, _) => (a, 0)
  | none => (0, 1)
def pairI (p : Int × Int) : AV := .tuple [.int .i64 p.1, .int .i64 p.2]
theorem kd25 : True := trivial
set_option maxHeartbeats 2000000 in
theorem rank_call (c o : List Int) (ho : o.length ≤ 1000000) : CallP C 11 [ints c, ints o] = some (pairI (rankR c o)) := by
  refine CallP_W rfl Try.func11 rfl (by kernel_rfl) (by simp [Try.f11]) fun R hR => ?_
  have c23 := fun h => call23 c h
  by_cases hc : check c = 0
  · have hvec := vec_of_check c hc
    obtain ⟨hlen, hb, hsum⟩ := check_ok c hc
    obtain ⟨v, h1, e1, r1, f1, n1⟩ := clone_wr [] c (by omega)
    simp [go_sem, c23, hc, e1, len_ints]
    refine W_loop (S11 c o v h1) c.length ⟨0, ?_⟩ ?_
    · simp [go_sem]
    · rintro n s h ⟨i, rfl, hi, rfl, g1, g7, g22, g23, g24, g8⟩
      by_cases hlt : i < c.length
      · have hlt' : (i : Int) < c.length := by omega
        have hix := idx c i hlt .unk
        simp only [ints] at g22
        have hts := take_sum_le c (i + 1) fun x hx => (hb x hx).1
        have e : (c.take (i + 1)).sum = (c.take i).sum + c[i] := by rw [← List.take_append_getElem hlt, List.sum_append]; simp
        have w1 : IntKind.i64.wrap ((i : Int) + 1) = i + 1 := wrap_in (by omega)
        have w2 : IntKind.i64.wrap ((c.take i).sum + c[i]) = (c.take i).sum + c[i] := wrap_in (by omega)
        simp [go_sem, g22, g23, g24, hlt', hix, ldi, g8, w1, w2]
        refine ⟨c.length - (i + 1), by omega, i + 1, rfl, by omega, rfl, ?_, ?_, ?_, ?_, ?_, ?_⟩
        · simp [go_sem, g1]
        · simp [go_sem, g7]
        · simp [go_sem, g22, ints]
        · simp [go_sem, g23]
        · simp [go_sem]
        · rw [e]; simp [go_sem]
      · have : i = c.length := by omega
        subst this
        rw [List.take_length] at g8
        by_cases hlo : (o.length : Int) = c.sum
        · simp [go_sem, g23, g24, g1, len_ints, g8, hlo]
          refine W_loop (R11 c o) o.length ⟨0, c, 0, v, ?_⟩ ?_
          · simp [go_sem, g1, g7, r1, hvec, hlo]
          · clear g1 g7 g22 g23 g24 g8 hi hlt
            rintro n s2 h2 ⟨j, l, a, v2, rfl, hj, k7, kr, k36, k37, k38, k11, kv, kl, kk⟩
            by_cases hjt : j < o.length
            · have hjt' : (j : Int) < o.length := by omega
              have hox := idx o j hjt .unk
              simp only [ints] at k36
              rw [List.drop_eq_getElem_cons hjt, rank] at kk
              have hvl := kr.len
              by_cases b1 : o[j] < 0
              · simp [go_sem, k7, k36, k37, k38, hjt', hox, ldi, b1]
                refine hR _ _ _ (.inr rfl) ⟨_, rfl, ?_⟩
                rw [if_neg (fun hh => by have := hh.1; omega)] at kk
                simp [go_sem, rankR, hc, hlo, ← kk, pairI]
                exact snap_dat rfl rfl
              · by_cases b2 : (l.length : Int) ≤ o[j]
                · simp [go_sem, k7, k36, k37, k38, hjt', hox, ldi, b1, hvl, b2]
                  refine hR _ _ _ (.inr rfl) ⟨_, rfl, ?_⟩
                  rw [if_neg (fun hh => by have := hh.2.1; omega)] at kk
                  simp [go_sem, rankR, hc, hlo, ← kk, pairI]
                  exact snap_dat rfl rfl
                · have hxl : o[j].toNat < l.length := by omega
                  obtain ⟨p, p1, p2, p3⟩ := kr.at hxl
                  have hxe : ((o[j].toNat : Nat) : Int) = o[j] := by omega
                  rw [hxe] at p1
                  by_cases b3 : l.getD o[j].toNat 0 = 0
                  · rw [b3] at p2
                    simp [go_sem, k7, k36, k37, k38, hjt', hox, ldi, b1, hvl, b2, p1, p2]
                    refine hR _ _ _ (.inr rfl) ⟨_, rfl, ?_⟩
                    rw [if_neg (fun hh => hh.2.2 b3)] at kk
                    simp [go_sem, rankR, hc, hlo, ← kk, pairI]
                    exact snap_dat rfl rfl
                  · rw [if_pos ⟨by omega, by omega, b3⟩] at kk
                    have hg := vec_get kv o[j].toNat
                    have hsm := kv.sm
                    have hg2 : l.getD o[j].toNat 0 ≤ 12 := by rw [getD_lt hxl]; exact hsm.2 _ (List.getElem_mem hxl)
                    generalize hgx : l.getD o[j].toNat 0 = gx at p2 b3 hg hg2
                    simp [go_sem, k7, k36, k37, k38, hjt', hox, ldi, b1, hvl, b2, p1, p2, b3]
                    refine W_loop (I11 o j l o[j] a v2) o[j].toNat ⟨0, a, ?_⟩ ?_
                    · simp [go_sem, k7, kr, k36, k37, k38, k11, ints]
                    · clear k7 k38 k37 p2 p3
                      rintro n s3 h3 ⟨k, a', rfl, hk, m7, mr, m36, m37, m38, m13, m57, m58, m11, mb⟩
                      by_cases hkt : k < o[j].toNat
                      · have hkt' : (k : Int) < o[j] := by omega
                        have hkl : k < l.length := by omega
                        obtain ⟨q, q1, q2, q3⟩ := mr.at hkl
                        have e2 : o[j].toNat - k = (o[j].toNat - (k + 1)) + 1 := by omega
                        rw [e2, bel] at mb
                        have w1 : IntKind.i64.wrap ((k : Int) + 1) = k + 1 := wrap_in (by omega)
                        have hgk := vec_get kv k
                        have hgk2 : l.getD k 0 ≤ 12 := by rw [getD_lt hkl]; exact hsm.2 _ (List.getElem_mem hkl)
                        have hdec : l.set k (l.getD k 0 - 1) = dec l k := rfl
                        have hback := set_back l k
                        have hvd := fun hz => vec_dec (l := l) (k := k) kv hz
                        generalize hgy : l.getD k 0 = gy at q2 mb hgk hgk2 hdec hback hvd
                        by_cases hp : 0 < gy
                        · rw [if_pos hp] at mb
                          obtain ⟨h4, q4, q5, q6, q7⟩ := q3 (gy - 1)
                          rw [hdec] at q5
                          have c26 := call26 q5 (hvd (by omega)).sm
                          obtain ⟨q', q1', q2', q3'⟩ := q5.at (k := k) (by rw [dec_length]; exact hkl)
                          rw [q1] at q1'
                          simp only [Option.some.injEq] at q1'
                          subst q1'
                          obtain ⟨h5, q8, q9, q10, q11⟩ := q3' gy
                          rw [hback] at q9
                          have w2 : IntKind.i64.wrap (gy - 1) = gy - 1 := wrap_in (by omega)
                          have w3 : IntKind.i64.wrap gy = gy := wrap_in (by omega)
                          simp only [wr64] at mb
                          simp [go_sem, m7, m57, m58, hkt', q1, q2, hp, w2, q4, m11, c26, q7, w3, q8, w1]
                          refine ⟨o[j].toNat - (k + 1), by omega, k + 1, _, rfl, by omega, ?_, q9, ?_, ?_, ?_, ?_, ?_, ?_, ?_, mb⟩
                          · simp [go_sem, m7]
                          · simp [go_sem, m36]
                          · simp [go_sem, m37]
                          · simp [go_sem, m38]
                          · simp [go_sem, m13]
                          · simp [go_sem, m57]
                          · simp [go_sem]
                          · simp [go_sem]
                        · rw [if_neg hp] at mb
                          simp [go_sem, m7, m57, m58, hkt', q1, q2, hp, w1]
                          refine ⟨o[j].toNat - (k + 1), by omega, k + 1, a', rfl, by omega, ?_, mr, ?_, ?_, ?_, ?_, ?_, ?_, ?_, mb⟩
                          · simp [go_sem, m7]
                          · simp [go_sem, m36]
                          · simp [go_sem, m37]
                          · simp [go_sem, m38]
                          · simp [go_sem, m13]
                          · simp [go_sem, m57]
                          · simp [go_sem]
                          · simp [go_sem, m11]
                      · have hk0 : k = o[j].toNat := by omega
                        have hkt' : ¬ (k : Int) < o[j] := by omega
                        rw [hk0, Nat.sub_self, bel] at mb
                        obtain ⟨q, q1, q2, q3⟩ := mr.at hxl
                        rw [hxe] at q1
                        rw [hgx] at q2
                        obtain ⟨h4, q4, q5, q6, q7⟩ := q3 (gx - 1)
                        have w1 : IntKind.i64.wrap ((j : Int) + 1) = j + 1 := wrap_in (by omega)
                        have w2 : IntKind.i64.wrap (gx - 1) = gx - 1 := wrap_in (by omega)
                        simp [go_sem, m7, m57, m58, hkt', m13, q1, q2, w2, q4, m38, w1]
                        have hd : l.set o[j].toNat (gx - 1) = dec l o[j].toNat := by unfold dec; rw [hgx]
                        rw [hd] at q5
                        refine ⟨o.length - (j + 1), by omega, j + 1, dec l o[j].toNat, a', v2, rfl, by omega, ?_, q5, ?_, ?_, ?_, ?_, vec_dec kv (by rw [hgx]; exact b3), by rw [dec_length]; exact kl, by rw [mb]; exact kk⟩
                        · simp [go_sem, m7]
                        · simp [go_sem, m36]
                        · simp [go_sem, m37]
                        · simp [go_sem]
                        · simp [go_sem, m11]
            · have : j = o.length := by omega
              subst this
              simp only [List.drop_length, rank] at kk
              simp [go_sem, k37, k38, k11]
              refine hR _ _ _ (.inr rfl) ⟨_, rfl, ?_⟩
              simp [go_sem, rankR, hc, hlo, ← kk, pairI]
              exact snap_dat rfl rfl
        · simp [go_sem, g23, g24, g1, len_ints, g8, hlo]
          refine hR _ _ _ (.inr rfl) ⟨_, rfl, ?_⟩
          simp [go_sem, rankR, hc, hlo, pairI]
          exact snap_dat rfl rfl
  · simp [go_sem, c23, hc]
    refine hR _ _ _ (.inr rfl) ⟨_, rfl, ?_⟩
    simp [go_sem, rankR, hc, pairI]
    exact snap_dat rfl rfl
end Go.V37

/- The document's Rank. -/
namespace Go.V37
open Go Go.V Go.Proofs
def F27 (c o : List Int) (n : Nat) (s : PT) (h : H) : Prop := ∃ (i : Nat) (l : List Int) (a : Int) (v : AV), n = o.length - i ∧ i ≤ o.length ∧ s.get 5 = v ∧ RowM h v l ∧ s.get 1 = ints o ∧ s.get 6 = .int .i64 i ∧ Vec l ∧ l.length = c.length ∧ rank l (o.drop i) a = rank c o 0
def G27 (l : List Int) (v : AV) (n : Nat) (s : PT) (h : H) : Prop := ∃ i : Nat, n = l.length - i ∧ i ≤ l.length ∧ s.get 5 = v ∧ RowM h v l ∧ s.get 8 = .int .i64 i ∧ (l.take i).all (· == 0) = true
def fitsB (c o : List Int) : Bool := match rank c o 0 with
  | some (_, l) => l.all (· == 0)
  | none => false
set_option maxHeartbeats 2000000 in
theorem fits_call (c o : List Int) (ho : o.length ≤ 1000000) (hc : Vec c) : CallP C 27 [ints c, ints o] = some (.bool (fitsB c o)) := by
  refine CallP_W rfl Try.func27 rfl (by kernel_rfl) (by simp [Try.f27]) fun R hR => ?_
  obtain ⟨v, h1, e1, r1, f1, n1⟩ := append_wr [.tok 0 3] c .unk (by have := hc.1; omega)
  obtain ⟨v, h1, e1, r1, f1, n1⟩ := append_wr [] c .unk (by have := hc.1; omega)
  have hw : C.wr 27 11 = true := rfl
  simp only [ints] at *
  simp [go_sem, build_nil, hw, e1]
  refine W_loop (F27 c o) o.length ⟨0, c, 0, v, ?_⟩ ?_
  · simp [go_sem, r1, hc, ints]
  · rintro n s2 h2 ⟨j, l, a, v2, rfl, hj, k7, kr, k36, k38, kv, kl, kk⟩
    by_cases hjt : j < o.length
    · have hjt' : (j : Int) < o.length := by omega
      have hox := idx o j hjt .unk
      simp only [ints] at k36
      rw [List.drop_eq_getElem_cons hjt, rank] at kk
      have hvl := kr.len
      have w1 : IntKind.i64.wrap ((j : Int) + 1) = j + 1 := wrap_in (by omega)
      by_cases b1 : o[j] < 0
      · simp [go_sem, k7, k36, k38, hjt', hox, ldi, b1]
        refine hR _ _ _ (.inr rfl) ⟨_, rfl, ?_⟩
        rw [if_neg (fun hh => by have := hh.1; omega)] at kk
        simp [go_sem, fitsB, ← kk]
        exact snap_dat rfl rfl
      · by_cases b2 : (l.length : Int) ≤ o[j]
        · simp [go_sem, k7, k36, k38, hjt', hox, ldi, b1, hvl, b2]
          refine hR _ _ _ (.inr rfl) ⟨_, rfl, ?_⟩
          rw [if_neg (fun hh => by have := hh.2.1; omega)] at kk
          simp [go_sem, fitsB, ← kk]
          exact snap_dat rfl rfl
        · have hxl : o[j].toNat < l.length := by omega
          obtain ⟨p, p1, p2, p3⟩ := kr.at hxl
          have hxe : ((o[j].toNat : Nat) : Int) = o[j] := by omega
          rw [hxe] at p1
          by_cases b3 : l.getD o[j].toNat 0 = 0
          · rw [b3] at p2
            simp [go_sem, k7, k36, k38, hjt', hox, ldi, b1, hvl, b2, p1, p2]
            refine hR _ _ _ (.inr rfl) ⟨_, rfl, ?_⟩
            rw [if_neg (fun hh => hh.2.2 b3)] at kk
            simp [go_sem, fitsB, ← kk]
            exact snap_dat rfl rfl
          · rw [if_pos ⟨by omega, by omega, b3⟩] at kk
            have hg := vec_get kv o[j].toNat
            have hsm := kv.sm
            have hg2 : l.getD o[j].toNat 0 ≤ 12 := by rw [getD_lt hxl]; exact hsm.2 _ (List.getElem_mem hxl)
            have hvd := vec_dec kv b3
            have hd0 : l.set o[j].toNat (l.getD o[j].toNat 0 - 1) = dec l o[j].toNat := rfl
            generalize hgx : l.getD o[j].toNat 0 = gx at p2 b3 hg hg2 hd0
            obtain ⟨h4, q4, q5, q6, q7⟩ := p3 (gx - 1)
            rw [hd0] at q5
            have w2 : IntKind.i64.wrap (gx - 1) = gx - 1 := wrap_in (by omega)
            simp [go_sem, k7, k36, k38, hjt', hox, ldi, b1, hvl, b2, p1, p2, b3, w2, q4, w1]
            refine ⟨o.length - (j + 1), by omega, j + 1, dec l o[j].toNat, _, v2, rfl, by omega, ?_, q5, ?_, ?_, hvd, by rw [dec_length]; exact kl, kk⟩
            · simp [go_sem, k7]
            · simp [go_sem, k36, ints]
            · simp [go_sem]
    · have : j = o.length := by omega
      subst this
      simp only [List.drop_length, rank] at kk
      simp [go_sem, k36, k38, len_ints]
      refine W_loop (G27 l v2) l.length ⟨0, ?_⟩ ?_
      · simp [go_sem, k7, kr]
      · rintro n s3 h3 ⟨i, rfl, hi, m5, mr, m8, ma⟩
        have hvl := mr.len
        have hl4 := kv.1
        by_cases hlt : i < l.length
        · have hlt' : (i : Int) < l.length := by omega
          obtain ⟨p, p1, p2, p3⟩ := mr.at hlt
          have w1 : IntKind.i64.wrap ((i : Int) + 1) = i + 1 := wrap_in (by omega)
          have hgl : l.getD i 0 = l[i] := getD_lt hlt
          rw [hgl] at p2
          by_cases hz : l[i] = 0
          · rw [hz] at p2
            simp [go_sem, m5, m8, hvl, hlt', p1, p2, w1]
            refine ⟨l.length - (i + 1), by omega, i + 1, rfl, by omega, ?_, mr, ?_, ?_⟩
            · simp [go_sem, m5]
            · simp [go_sem]
            · rw [← List.take_append_getElem hlt, List.all_append, ma]; simp [hz]
          · simp [go_sem, m5, m8, hvl, hlt', p1, p2, hz]
            refine hR _ _ _ (.inr rfl) ⟨_, rfl, ?_⟩
            have hall : l.all (· == 0) = false := by
              rw [Bool.eq_false_iff]
              intro hh
              rw [List.all_eq_true] at hh
              exact hz (by simpa using hh _ (List.getElem_mem hlt))
            have hf : fitsB c o = false := by rw [fitsB, ← kk]; exact hall
            rw [hf]
            simp [go_sem]
            exact snap_dat rfl rfl
        · have : i = l.length := by omega
          subst this
          rw [List.take_length] at ma
          simp [go_sem, m5, m8, hvl]
          refine hR _ _ _ (.inr rfl) ⟨_, rfl, ?_⟩
          have hf : fitsB c o = true := by rw [fitsB, ← kk]; exact ma
          rw [hf]
          simp [go_sem]
          exact snap_dat rfl rfl
theorem call27 (c o : List Int) (h : H) (ho : o.length ≤ 1000000) (hc : Vec c) : callV C h (.func 27 []) (some [ints c, ints o]) = some (.bool (fitsB c o), h) :=
  callV_strip (by kernel_rfl) rfl rfl rfl (by simp) (fits_call c o ho hc)
def R12 (c o : List Int) (n : Nat) (s : PT) (h : H) : Prop := ∃ (i : Nat) (l : List Int) (a : Int) (v : AV), n = o.length - i ∧ i ≤ o.length ∧ s.get 8 = v ∧ RowM h v l ∧ s.get 1 = ints o ∧ s.get 9 = .int .i64 i ∧ s.get 7 = .int .i64 a ∧ Vec l ∧ l.length = c.length ∧ rank l (o.drop i) a = rank c o 0
def I12 (o : List Int) (i : Nat) (l : List Int) (x a : Int) (v : AV) (n : Nat) (s : PT) (h : H) : Prop := ∃ (k : Nat) (a' : Int), n = x.toNat - k ∧ k ≤ x.toNat ∧ s.get 8 = v ∧ RowM h v l ∧ s.get 1 = ints o ∧ s.get 9 = .int .i64 i ∧ s.get 10 = .int .i64 k ∧ s.get 7 = .int .i64 a' ∧ bel l k (x.toNat - k) a' = bel l 0 x.toNat a
/-- What the document's Rank answers. -/
def rankS (c o : List Int) : Int × Int := if check c ≠ 0 then (0, check c) else if fitsB c o = true then (match rank c o 0 with
  | some (a, _) => (a, 0)
  | none => (0, 1)) else (0, 1)
set_option maxHeartbeats 2000000 in
theorem refRank_call (c o : List Int) (ho : o.length ≤ 1000000) : CallP C 12 [ints c, ints o] = some (pairI (rankS c o)) := by
  refine CallP_W rfl Try.func12 rfl (by kernel_rfl) (by simp [Try.f12]) fun R hR => ?_
  have c24 := fun h => call24 c h
  by_cases hc : check c = 0
  · have hvec := vec_of_check c hc
    have c27 := fun h => call27 c o h ho hvec
    by_cases hf : fitsB c o = true
    · obtain ⟨v, h1, e1, r1, f1, n1⟩ := append_wr [] c .unk (by have := hvec.1; omega)
      have hw : C.wr 12 22 = true := rfl
      simp only [ints] at e1 c24 c27
      simp [go_sem, ints, c24, hc, c27, hf, build_nil, hw, e1]
      refine W_loop (R12 c o) o.length ⟨0, c, 0, v, ?_⟩ ?_
      · simp [go_sem, r1, hvec, ints]
      · rintro n s2 h2 ⟨j, l, a, v2, rfl, hj, k7, kr, k36, k38, k11, kv, kl, kk⟩
        by_cases hjt : j < o.length
        · have hjt' : (j : Int) < o.length := by omega
          have hox := idx o j hjt .unk
          simp only [ints] at k36
          rw [List.drop_eq_getElem_cons hjt, rank] at kk
          have hok : okAt l o[j] := by
            by_cases hh : okAt l o[j]
            · exact hh
            · rw [if_neg hh] at kk
              rw [fitsB, ← kk] at hf; cases hf
          rw [if_pos hok] at kk
          obtain ⟨b1, b2, b3⟩ := hok
          have hxl : o[j].toNat < l.length := by omega
          have hxe : ((o[j].toNat : Nat) : Int) = o[j] := by omega
          have hg := vec_get kv o[j].toNat
          have hsm := kv.sm
          have hg2 : l.getD o[j].toNat 0 ≤ 12 := by rw [getD_lt hxl]; exact hsm.2 _ (List.getElem_mem hxl)
          generalize hgx : l.getD o[j].toNat 0 = gx at b3 hg hg2
          simp [go_sem, k36, k38, hjt', len_ints]
          refine W_loop (I12 o j l o[j] a v2) o[j].toNat ⟨0, a, ?_⟩ ?_
          · simp [go_sem, k7, kr, k36, k38, k11, ints]
          · clear k7 k38
            have hl4 := kv.1
            rintro n s3 h3 ⟨k, a', rfl, hk, m7, mr, m36, m38, m58, m11, mb⟩
            simp only [ints] at m36
            by_cases hkt : k < o[j].toNat
            · have hkt' : (k : Int) < o[j] := by omega
              have hkl : k < l.length := by omega
              obtain ⟨q, q1, q2, q3⟩ := mr.at hkl
              have e2 : o[j].toNat - k = (o[j].toNat - (k + 1)) + 1 := by omega
              rw [e2, bel] at mb
              have w1 : IntKind.i64.wrap ((k : Int) + 1) = k + 1 := wrap_in (by omega)
              have hgk := vec_get kv k
              have hgk2 : l.getD k 0 ≤ 12 := by rw [getD_lt hkl]; exact hsm.2 _ (List.getElem_mem hkl)
              have hvd := fun hz => vec_dec (l := l) (k := k) kv hz
              have c29 := call29 mr (by have := kv.1; omega) hkl (by omega) (by omega)
              generalize hgy : l.getD k 0 = gy at q2 mb hgk hgk2 hvd
              by_cases hp : 0 < gy
              · rw [if_pos hp] at mb
                have c28 := fun h => call28 (h := h) (hvd (by omega)).sm
                simp only [wr64] at mb
                simp [go_sem, m7, m36, m38, m58, hox, ldi, hkt', q1, q2, hp, m11, c29, c28, w1]
                refine ⟨o[j].toNat - (k + 1), by omega, k + 1, _, rfl, by omega, ?_, mr, ?_, ?_, ?_, ?_, mb⟩
                · simp [go_sem, m7]
                · simp [go_sem, m36, ints]
                · simp [go_sem, m38]
                · simp [go_sem]
                · simp [go_sem]
              · rw [if_neg hp] at mb
                simp [go_sem, m7, m36, m38, m58, hox, ldi, hkt', q1, q2, hp, w1]
                refine ⟨o[j].toNat - (k + 1), by omega, k + 1, a', rfl, by omega, ?_, mr, ?_, ?_, ?_, ?_, mb⟩
                · simp [go_sem, m7]
                · simp [go_sem, m36, ints]
                · simp [go_sem, m38]
                · simp [go_sem]
                · simp [go_sem, m11]
            · have hk0 : k = o[j].toNat := by omega
              have hkt' : ¬ (k : Int) < o[j] := by omega
              rw [hk0, Nat.sub_self, bel] at mb
              obtain ⟨q, q1, q2, q3⟩ := mr.at hxl
              rw [hxe] at q1
              rw [hgx] at q2
              obtain ⟨h4, q4, q5, q6, q7⟩ := q3 (gx - 1)
              have w1 : IntKind.i64.wrap ((j : Int) + 1) = j + 1 := wrap_in (by omega)
              have w2 : IntKind.i64.wrap (gx - 1) = gx - 1 := wrap_in (by omega)
              simp [go_sem, m7, m36, m38, m58, hox, ldi, hkt', q1, q2, w2, q4, w1]
              have hd : l.set o[j].toNat (gx - 1) = dec l o[j].toNat := by unfold dec; rw [hgx]
              rw [hd] at q5
              refine ⟨o.length - (j + 1), by omega, j + 1, dec l o[j].toNat, a', v2, rfl, by omega, ?_, q5, ?_, ?_, ?_, vec_dec kv (by rw [hgx]; exact b3), by rw [dec_length]; exact kl, by rw [mb]; exact kk⟩
              · simp [go_sem, m7]
              · simp [go_sem, m36, ints]
              · simp [go_sem]
              · simp [go_sem, m11]
        · have : j = o.length := by omega
          subst this
          simp only [List.drop_length, rank] at kk
          simp [go_sem, k36, k38, k11, len_ints]
          refine hR _ _ _ (.inr rfl) ⟨_, rfl, ?_⟩
          simp [go_sem, rankS, hc, hf, ← kk, pairI]
          exact snap_dat rfl rfl
    · simp [go_sem, c24, hc, c27, hf]
      refine hR _ _ _ (.inr rfl) ⟨_, rfl, ?_⟩
      simp [go_sem, rankS, hc, hf, pairI]
      exact snap_dat rfl rfl
  · simp [go_sem, c24, hc]
    refine hR _ _ _ (.inr rfl) ⟨_, rfl, ?_⟩
    simp [go_sem, rankS, hc, pairI]
    exact snap_dat rfl rfl
theorem zero_sum : ∀ l : List Int, (∀ x ∈ l, 0 ≤ x) → (l.all (· == 0) = true ↔ l.sum = 0) := by
  intro l
  induction l with
  | nil => intro _; simp
  | cons a l ih =>
    intro h
    have h0 := sum_nonneg l fun y hy => h y (by simp [hy])
    have ha := h a (by simp)
    have := ih fun y hy => h y (by simp [hy])
    simp only [List.all_cons, Bool.and_eq_true, beq_iff_eq, List.sum_cons, this]
    omega
/-- Both answer alike. -/
theorem rank_same (c o : List Int) : rankR c o = rankS c o := by
  unfold rankR rankS
  by_cases hc : check c = 0
  · have e : ¬ check c ≠ 0 := by simp [hc]
    rw [if_neg e, if_neg e]
    have hv := vec_of_check c hc
    unfold fitsB
    cases hr : rank c o 0 with
    | none => by_cases hl : (o.length : Int) = c.sum <;> simp [hl]
    | some x =>
      obtain ⟨a, l⟩ := x
      obtain ⟨h1, h2, h3⟩ := rank_sum o c 0 a l hv hr
      have hz := zero_sum l h2.2.1
      by_cases hl : (o.length : Int) = c.sum
      · have : l.all (· == 0) = true := hz.2 (by omega)
        simp only [this, hl]; simp
      · have : ¬ l.all (· == 0) = true := fun e => hl (by have := hz.1 e; omega)
        rw [if_pos hl, if_neg this]
  · rw [if_pos hc, if_pos hc]
end Go.V37

/- The two Unranks. -/
namespace Go.V37
open Go Go.V Go.Proofs
theorem RowM.lt {h : H} {v : AV} {l : List Int} (r : RowM h v l) {i : Nat} (hi : idOf v = some i) : i < h.length := by
  rcases r with ⟨_, rfl⟩ | ⟨id, cap, rfl, hid⟩
  · cases hi
  · simp only [idOf, Option.some.injEq] at hi; subst hi; exact (List.getElem?_eq_some_iff.1 hid).1
/-- Two rows that lie apart. -/
def Apart (v w : AV) : Prop := ∀ i, idOf v = some i → idOf w ≠ some i
theorem Apart.symm {v w : AV} (a : Apart v w) : Apart w v := fun i hi hw => a i hw hi
def O13 (c t : List Int) (n : Nat) (s : PT) (h : H) : Prop := ∃ (l out r : List Int) (x : Int) (v w : AV), n = l.sum.toNat ∧ s.get 1 = .int .i64 x ∧ s.get 7 = v ∧ RowM h v l ∧ s.get 8 = w ∧ OwnR 3 h w (out.map (AV.int .i64)) ∧ Apart v w ∧ Vec l ∧ l.length = c.length ∧ 0 ≤ x ∧ x < count l ∧ unr l.sum.toNat l x = some r ∧ out ++ r = t ∧ out.length + l.sum ≤ 12
def P13 (l out : List Int) (p : Option (Nat × Int)) (v w : AV) (n : Nat) (s : PT) (h : H) : Prop := ∃ (k : Nat) (x : Int), n = l.length - k ∧ k ≤ l.length ∧ s.get 1 = .int .i64 x ∧ s.get 7 = v ∧ RowM h v l ∧ s.get 8 = w ∧ OwnR 3 h w (out.map (AV.int .i64)) ∧ s.get 29 = .int .i64 l.length ∧ s.get 30 = .int .i64 k ∧ pick l k (l.length - k) x = p
/-- What Unrank answers. -/
def unrR (c : List Int) (n : Int) : List Int × Int := if check c ≠ 0 then ([], check c) else if n < 0 ∨ count c ≤ n then ([], 7) else match unr c.sum.toNat c n with
  | some r => (r, 0)
  | none => ([], 0)
def unrA (p : List Int × Int) : AV := .tuple [ints p.1, .int .i64 p.2]
theorem sum_dec {l : List Int} (h : Vec l) {k : Nat} (hk : l.getD k 0 ≠ 0) : (dec l k).sum.toNat + 1 = l.sum.toNat := by
  have h1 := dec_sum l k hk
  have h2 := sum_nonneg _ (vec_dec h hk).2.1
  omega
set_option maxHeartbeats 2000000 in
theorem unrank_call (c : List Int) (n : Int) : CallP C 13 [ints c, .int .i64 n] = some (unrA (unrR c n)) := by
  refine CallP_W rfl Try.func13 rfl (by kernel_rfl) (by simp [Try.f13]) fun R hR => ?_
  have c23 := fun h => call23 c h
  by_cases hc : check c = 0
  · have hvec := vec_of_check c hc
    by_cases hn : n < 0
    · simp [go_sem, c23, hc, hn]
      refine hR _ _ _ (.inr rfl) ⟨_, rfl, ?_⟩
      simp [go_sem, unrR, hc, hn, unrA]
      exact snap_dat rfl rfl
    · have c26 := fun h => call26i (h := h) hvec.sm
      by_cases hn2 : count c ≤ n
      · simp [go_sem, c23, hc, hn, c26, hn2]
        refine hR _ _ _ (.inr rfl) ⟨_, rfl, ?_⟩
        simp [go_sem, unrR, hc, hn2, unrA]
        exact snap_dat rfl rfl
      · obtain ⟨r, hr⟩ := unr_some c.sum.toNat c n hvec (by omega) (by omega) (by omega)
        have hres : unrR c n = (r, 0) := by simp [unrR, hc, hn, hn2, hr]
        rw [hres] at hR
        obtain ⟨v, h1, e1, r1, f1, n1⟩ := clone_wr [.tok 0 3] c (by have := hvec.1; omega)
        simp [go_sem, c23, hc, hn, c26, hn2, e1]
        refine W_loop (O13 c r) c.sum.toNat ⟨c, [], r, n, v, .isl [] (.tok h1.length), ?_⟩ ?_
        · refine ⟨rfl, ?_, ?_, ?_, ?_, ?_, ?_, hvec, rfl, by omega, by omega, hr, rfl, by simpa using hvec.2.2⟩
          · simp [go_sem]
          · simp [go_sem]
          · exact r1.keep (.append _ _ none) (by simp)
          · simp [go_sem]
          · exact .new 3 h1
          · intro i hi e; have := r1.lt hi; simp only [idOf, Option.some.injEq] at e; omega
        · rintro m s h ⟨l, out, rr, x, v2, w, rfl, g1, g7, gr, g8, go, ga, gv, gl, gx0, gx1, gu, gt, gs⟩
          have c30 := call30 gr (by have := gv.1; omega)
          have hlen := gr.len
          cases hp : anyPos l with
          | false =>
            rw [hp] at c30
            simp [go_sem, g7, c30, g8]
            refine hR _ _ _ (.inr rfl) ⟨_, rfl, ?_⟩
            have hrr : rr = [] := by
              cases hs : l.sum.toNat with
              | zero => rw [hs] at gu; simp [unr, hp] at gu; exact gu
              | succ f => rw [hs] at gu; simp [unr, hp] at gu; exact gu
            subst hrr
            obtain ⟨x8, rfl⟩ := go.isl
            simp only [List.append_nil] at gt
            subst gt
            simp [go_sem, unrA]
            exact snap_dat rfl rfl
          | true =>
            rw [hp] at c30
            obtain ⟨kk, hkk⟩ := (anyPos_iff l).1 hp
            have hsp := sum_pos gv hkk
            obtain ⟨f, hf⟩ : ∃ f, l.sum.toNat = f + 1 := ⟨l.sum.toNat - 1, by omega⟩
            have hcs := count_sum gv hkk
            obtain ⟨i, ρ, a1, a2, a3, a4, a5⟩ := pick_some l gv l.length 0 x (by omega) gx0 (by simp only [sumB]; omega)
            rw [hf] at gu
            simp only [unr, hp, if_true, a1] at gu
            obtain ⟨r', hr', rfl⟩ := Option.map_eq_some_iff.1 gu
            simp [go_sem, g7, c30, hlen]
            refine W_loop (P13 l out (some (i, ρ)) v2 w) l.length ⟨0, x, ?_⟩ ?_
            · refine ⟨rfl, by omega, ?_, ?_, gr, ?_, go, ?_, ?_, a1⟩ <;> simp [go_sem, g1, g7, g8]
            · rintro m s3 h3 ⟨k, y, rfl, hk, m1, m7, mr, m8, mo, m29, m30, mp⟩
              have hkl : k < l.length := by
                by_cases e : k < l.length
                · exact e
                · have : l.length - k = 0 := by omega
                  rw [this, pick] at mp; cases mp
              have hkt' : (k : Int) < l.length := by omega
              have hl4 := gv.1
              obtain ⟨q, q1, q2, q3⟩ := mr.at hkl
              have e2 : l.length - k = (l.length - (k + 1)) + 1 := by omega
              rw [e2, pick] at mp
              have w1 : IntKind.i64.wrap ((k : Int) + 1) = k + 1 := wrap_in (by omega)
              have hgk := vec_get gv k
              have hsm := gv.sm
              have hgk2 : l.getD k 0 ≤ 12 := by rw [getD_lt hkl]; exact hsm.2 _ (List.getElem_mem hkl)
              have hdec : l.set k (l.getD k 0 - 1) = dec l k := rfl
              have hback := set_back l k
              have hvd := fun hz => vec_dec (l := l) (k := k) gv hz
              have hsd := fun hz => sum_dec (l := l) (k := k) gv hz
              generalize hgy : l.getD k 0 = gy at q2 mp hgk hgk2 hdec hback hvd hsd
              by_cases hz : gy = 0
              · rw [if_pos hz] at mp
                simp [go_sem, m7, m29, m30, hkt', q1, q2, hz, w1]
                refine ⟨l.length - (k + 1), by omega, k + 1, y, rfl, by omega, ?_, ?_, mr, ?_, mo, ?_, ?_, mp⟩
                · simp [go_sem, m1]
                · simp [go_sem, m7]
                · simp [go_sem, m8]
                · simp [go_sem, m29]
                · simp [go_sem]
              · rw [if_neg hz] at mp
                obtain ⟨h4, q4, q5, q6, q7⟩ := q3 (gy - 1)
                rw [hdec] at q5
                have c26' := call26 q5 (hvd hz).sm
                have w2 : IntKind.i64.wrap (gy - 1) = gy - 1 := wrap_in (by omega)
                have mo4 := mo.keep q6 (fun i hi e => ga i e hi)
                by_cases hy : y < count (dec l k)
                · rw [if_pos hy] at mp
                  simp only [Option.some.injEq, Prod.mk.injEq] at mp
                  obtain ⟨rfl, rfl⟩ := mp
                  obtain ⟨w', h5, e5, o5, f5, i5⟩ := append3 (ys := [(k : Int)]) (x := .full) mo4 (by simp; have := gv.2.2; omega)
                  have hw : C.wr 13 52 = false := rfl
                  have hr5 := q5.keep f5 (fun i hi e => ga i hi e)
                  have hap : Apart v2 w' := by
                    intro i hi e
                    rcases i5 with e1 | ⟨e1, e2⟩
                    · exact ga i hi (by rw [← e1, e])
                    · have := q5.lt hi; rw [e2] at e; simp only [Option.some.injEq] at e; omega
                  simp only [List.map_cons, List.map_nil] at e5
                  simp [go_sem, m1, m7, m8, m29, m30, hkt', q1, q2, hz, w2, q4, c26', hy, build_ints, notTuple, hw, e5]
                  have hs' := hsd hz
                  refine ⟨(dec l k).sum.toNat, by omega, dec l k, out ++ [(k : Int)], r', y, v2, w', rfl, ?_, ?_, hr5, ?_, o5, hap, hvd hz, by rw [dec_length]; exact gl, a2, hy, ?_, ?_, ?_⟩
                  · simp [go_sem, m1]
                  · simp [go_sem, m7]
                  · simp [go_sem]
                  · have : (dec l k).sum.toNat = f := by omega
                    rw [this]; exact hr'
                  · rw [← gt]; simp
                  · have h2 := sum_nonneg _ (hvd hz).2.1
                    simp; omega
                · rw [if_neg hy] at mp
                  obtain ⟨q', q1', q2', q3'⟩ := q5.at (k := k) (by rw [dec_length]; exact hkl)
                  rw [q1] at q1'
                  simp only [Option.some.injEq] at q1'
                  subst q1'
                  obtain ⟨h5, q8, q9, q10, q11⟩ := q3' gy
                  rw [hback] at q9
                  have mo5 := mo4.keep q10 (fun i hi e => ga i e hi)
                  have w3 : IntKind.i64.wrap gy = gy := wrap_in (by omega)
                  simp only [wr64] at mp
                  simp [go_sem, m1, m7, m8, m29, m30, hkt', q1, q2, hz, w2, q4, c26', hy, q7, w3, q8, w1]
                  refine ⟨l.length - (k + 1), by omega, k + 1, _, rfl, by omega, ?_, ?_, q9, ?_, mo5, ?_, ?_, mp⟩
                  · simp [go_sem]
                  · simp [go_sem, m7]
                  · simp [go_sem, m8]
                  · simp [go_sem, m29]
                  · simp [go_sem]
  · simp [go_sem, c23, hc]
    refine hR _ _ _ (.inr rfl) ⟨_, rfl, ?_⟩
    simp [go_sem, unrR, hc, unrA]
    exact snap_dat rfl rfl
theorem pick_skip (l : List Int) : ∀ (d k m : Nat) (n : Int), l.length = k + d + m → (∀ i, k ≤ i → i < k + d → l.getD i 0 = 0) → pick l k (d + m) n = pick l (k + d) m n := by
  intro d
  induction d with
  | zero => intro k m n _ _; rw [Nat.zero_add, Nat.add_zero]
  | succ d ih =>
    intro k m n hl hz
    rw [show d + 1 + m = (d + m) + 1 by omega, pick, if_pos (hz k (by omega) (by omega)), ih (k + 1) m n (by omega) (fun i h1 h2 => hz i (by omega) (by omega))]
    congr 1; omega
def O15 (c t : List Int) (n : Nat) (s : PT) (h : H) : Prop := ∃ (l out r : List Int) (x : Int) (v w : AV), n = l.sum.toNat ∧ s.get 1 = .int .i64 x ∧ s.get 7 = v ∧ RowM h v l ∧ s.get 8 = w ∧ OwnR 3 h w (out.map (AV.int .i64)) ∧ Apart v w ∧ Vec l ∧ l.length = c.length ∧ 0 ≤ x ∧ x < count l ∧ unr l.sum.toNat l x = some r ∧ out ++ r = t ∧ out.length + l.sum ≤ 12
def P15 (l out : List Int) (p : Option (Nat × Int)) (v w : AV) (n : Nat) (s : PT) (h : H) : Prop := ∃ (k : Nat) (x : Int), n = l.length - k ∧ k ≤ l.length ∧ s.get 1 = .int .i64 x ∧ s.get 7 = v ∧ RowM h v l ∧ s.get 8 = w ∧ OwnR 3 h w (out.map (AV.int .i64)) ∧ s.get 9 = .int .i64 k ∧ pick l k (l.length - k) x = p
set_option maxHeartbeats 2000000 in
theorem refUnrank_call (c : List Int) (n : Int) : CallP C 15 [ints c, .int .i64 n] = some (unrA (unrR c n)) := by
  refine CallP_W rfl Try.func15 rfl (by kernel_rfl) (by simp [Try.f15]) fun R hR => ?_
  have c24 := fun h => call24 c h
  by_cases hc : check c = 0
  · have hvec := vec_of_check c hc
    by_cases hn : n < 0
    · simp [go_sem, c24, hc, hn]
      refine hR _ _ _ (.inr rfl) ⟨_, rfl, ?_⟩
      simp [go_sem, unrR, hc, hn, unrA]
      exact snap_dat rfl rfl
    · have c28 := fun h => call28 (h := h) hvec.sm
      by_cases hn2 : count c ≤ n
      · simp [go_sem, c24, hc, hn, c28, hn2]
        refine hR _ _ _ (.inr rfl) ⟨_, rfl, ?_⟩
        simp [go_sem, unrR, hc, hn2, unrA]
        exact snap_dat rfl rfl
      · obtain ⟨r, hr⟩ := unr_some c.sum.toNat c n hvec (by omega) (by omega) (by omega)
        have hres : unrR c n = (r, 0) := by simp [unrR, hc, hn, hn2, hr]
        rw [hres] at hR
        obtain ⟨v, h1, e1, r1, f1, n1⟩ := append_wr [.tok 0 3] c .unk (by have := hvec.1; omega)
        have hw : C.wr 15 25 = true := rfl
        have e1' : appendW C.P true [.tok 0 3] 22 (.isl [] .full) (ints c) = some (v, h1) := e1
        simp [go_sem, c24, hc, hn, c28, hn2, build_nil, hw, e1']
        refine W_loop (O15 c r) c.sum.toNat ⟨c, [], r, n, v, .isl [] (.tok h1.length), ?_⟩ ?_
        · refine ⟨rfl, ?_, ?_, ?_, ?_, ?_, ?_, hvec, rfl, by omega, by omega, hr, rfl, by simpa using hvec.2.2⟩
          · simp [go_sem]
          · simp [go_sem]
          · exact r1.keep (.append _ _ none) (by simp)
          · simp [go_sem]
          · exact .new 3 h1
          · intro i hi e; have := r1.lt hi; simp only [idOf, Option.some.injEq] at e; omega
        · rintro m s h ⟨l, out, rr, x, v2, w, rfl, g1, g7, gr, g8, go, ga, gv, gl, gx0, gx1, gu, gt, gs⟩
          have c32 := call32 gr (by have := gv.1; omega)
          rcases nxt_spec l with ⟨z1, hp⟩ | ⟨k0, z1, z2, z3, hp, z5⟩
          · have hi : nxtI l = -1 := by simp [nxtI, z1]
            rw [hi] at c32
            simp [go_sem, g7, c32, g8]
            refine hR _ _ _ (.inr rfl) ⟨_, rfl, ?_⟩
            have hrr : rr = [] := by
              cases hs : l.sum.toNat with
              | zero => rw [hs] at gu; simp [unr, hp] at gu; exact gu
              | succ f => rw [hs] at gu; simp [unr, hp] at gu; exact gu
            subst hrr
            obtain ⟨x8, rfl⟩ := go.isl
            simp only [List.append_nil] at gt
            subst gt
            simp [go_sem, unrA, ints]
            exact snap_dat rfl rfl
          · have hi : nxtI l = k0 := by simp [nxtI, z1]
            rw [hi] at c32
            have hsp := sum_pos gv z3
            obtain ⟨f, hf⟩ : ∃ f, l.sum.toNat = f + 1 := ⟨l.sum.toNat - 1, by omega⟩
            have hcs := count_sum gv z3
            obtain ⟨i, ρ, a1, a2, a3, a4, a5⟩ := pick_some l gv l.length 0 x (by omega) gx0 (by simp only [sumB]; omega)
            rw [hf] at gu
            simp only [unr, hp, if_true, a1] at gu
            obtain ⟨r', hr', rfl⟩ := Option.map_eq_some_iff.1 gu
            have hk0' : ¬ (k0 : Int) < 0 := by omega
            simp [go_sem, g7, c32]
            refine W_loop (P15 l out (some (i, ρ)) v2 w) (l.length - k0) ⟨k0, x, ?_⟩ ?_
            · have hsk := pick_skip l k0 0 (l.length - k0) x (by omega) (fun i h1 h2 => by have := z5 i (by omega); have := vec_get gv i; omega)
              rw [show k0 + (l.length - k0) = l.length by omega, Nat.zero_add] at hsk
              rw [hsk] at a1
              have hle : l.length - k0 ≤ l.length := by omega
              refine ⟨?_, by omega, ?_, ?_, gr, ?_, go, ?_, a1⟩
              · rfl
              · simp [go_sem, g1]
              · simp [go_sem, g7]
              · simp [go_sem, g8]
              · simp [go_sem]
            · rintro m s3 h3 ⟨k, y, rfl, hk, m1, m7, mr, m8, mo, m9, mp⟩
              have hkl : k < l.length := by
                by_cases e : k < l.length
                · exact e
                · have : l.length - k = 0 := by omega
                  rw [this, pick] at mp; cases mp
              have hkt' : (k : Int) < l.length := by omega
              have hl4 := gv.1
              obtain ⟨q, q1, q2, q3⟩ := mr.at hkl
              have e2 : l.length - k = (l.length - (k + 1)) + 1 := by omega
              rw [e2, pick] at mp
              have w1 : IntKind.i64.wrap ((k : Int) + 1) = k + 1 := wrap_in (by omega)
              have hgk := vec_get gv k
              have hsm := gv.sm
              have hgk2 : l.getD k 0 ≤ 12 := by rw [getD_lt hkl]; exact hsm.2 _ (List.getElem_mem hkl)
              have hdec : l.set k (l.getD k 0 - 1) = dec l k := rfl
              have hvd := fun hz => vec_dec (l := l) (k := k) gv hz
              have hsd := fun hz => sum_dec (l := l) (k := k) gv hz
              have c29 := call29 mr (by omega) hkl (by omega) (by omega)
              generalize hgy : l.getD k 0 = gy at q2 mp hgk hgk2 hdec hvd hsd
              by_cases hz : gy = 0
              · rw [if_pos hz] at mp
                simp [go_sem, m7, m9, q1, q2, hz, w1]
                refine ⟨l.length - (k + 1), by omega, k + 1, y, rfl, by omega, ?_, ?_, mr, ?_, mo, ?_, mp⟩
                · simp [go_sem, m1]
                · simp [go_sem, m7]
                · simp [go_sem, m8]
                · simp [go_sem]
              · rw [if_neg hz] at mp
                have hpos : 0 < gy := by omega
                have c28 := fun h => call28 (h := h) (hvd hz).sm
                by_cases hy : y < count (dec l k)
                · rw [if_pos hy] at mp
                  simp only [Option.some.injEq, Prod.mk.injEq] at mp
                  obtain ⟨rfl, rfl⟩ := mp
                  obtain ⟨w', h5, e5, o5, f5, i5⟩ := append3 (ys := [(k : Int)]) (x := .full) mo (by simp; have := gv.2.2; omega)
                  have hr5 := mr.keep f5 (fun i hi e => ga i hi e)
                  obtain ⟨q', q1', q2', q3'⟩ := hr5.at hkl
                  rw [q1] at q1'
                  simp only [Option.some.injEq] at q1'
                  subst q1'
                  rw [hgy] at q2'
                  obtain ⟨h6, q4, q5, q6, q7⟩ := q3' (gy - 1)
                  rw [hdec] at q5
                  have w2 : IntKind.i64.wrap (gy - 1) = gy - 1 := wrap_in (by omega)
                  have hw : C.wr 15 60 = false := rfl
                  have hap : Apart v2 w' := by
                    intro i hi e
                    rcases i5 with e1 | ⟨e1, e2⟩
                    · exact ga i hi (by rw [← e1, e])
                    · have := mr.lt hi; rw [e2] at e; simp only [Option.some.injEq] at e; omega
                  have o6 := o5.keep q6 (fun i hi e => hap i e hi)
                  simp only [List.map_cons, List.map_nil] at e5
                  have hy' : ¬ count (dec l k) ≤ y := by omega
                  simp [go_sem, m1, m7, m8, m9, q1, q2, q2', hz, w2, q4, c29, c28, hy', build_ints, notTuple, hw, e5]
                  have hs' := hsd hz
                  refine ⟨(dec l k).sum.toNat, by omega, dec l k, out ++ [(k : Int)], r', y, v2, w', rfl, ?_, ?_, q5, ?_, o6, hap, hvd hz, by rw [dec_length]; exact gl, a2, hy, ?_, ?_, ?_⟩
                  · simp [go_sem, m1]
                  · simp [go_sem, m7]
                  · simp [go_sem]
                  · have : (dec l k).sum.toNat = f := by omega
                    rw [this]; exact hr'
                  · rw [← gt]; simp
                  · have h2 := sum_nonneg _ (hvd hz).2.1
                    simp; omega
                · rw [if_neg hy] at mp
                  have hy' : count (dec l k) ≤ y := by omega
                  simp only [wr64] at mp
                  simp [go_sem, m1, m7, m9, q1, q2, hz, c29, c28, hy', hpos, w1]
                  refine ⟨l.length - (k + 1), by omega, k + 1, _, rfl, by omega, ?_, ?_, mr, ?_, mo, ?_, mp⟩
                  · simp [go_sem]
                  · simp [go_sem, m7]
                  · simp [go_sem, m8]
                  · simp [go_sem]
  · simp [go_sem, c24, hc]
    refine hR _ _ _ (.inr rfl) ⟨_, rfl, ?_⟩
    simp [go_sem, unrR, hc, unrA]
    exact snap_dat rfl rfl
end Go.V37

/- The second and the third law, by the value machine. -/
namespace Go.V37
open Go Go.V Go.Proofs
theorem call11 (c o : List Int) (h : H) (ho : o.length ≤ 1000000) : callV C h (.func 11 []) (some [ints c, ints o]) = some (pairI (rankR c o), h) := callV_strip (by kernel_rfl) rfl rfl rfl (by simp) (rank_call c o ho)
theorem call12 (c o : List Int) (h : H) (ho : o.length ≤ 1000000) : callV C h (.func 12 []) (some [ints c, ints o]) = some (pairI (rankR c o), h) := callV_strip (by kernel_rfl) rfl rfl rfl (by simp) (by rw [rank_same]; exact refRank_call c o ho)
theorem call13 (c : List Int) (n : Int) (h : H) : callV C h (.func 13 []) (some [ints c, .int .i64 n]) = some (unrA (unrR c n), h) := callV_strip (by kernel_rfl) rfl rfl rfl (by simp) (unrank_call c n)
theorem call15 (c : List Int) (n : Int) (h : H) : callV C h (.func 15 []) (some [ints c, .int .i64 n]) = some (unrA (unrR c n), h) := callV_strip (by kernel_rfl) rfl rfl rfl (by simp) (refUnrank_call c n)
theorem rankR_back (c o : List Int) (h : (rankR c o).2 = 0) : unrR c (rankR c o).1 = (o, 0) := by
  unfold rankR at h ⊢
  by_cases hc : check c = 0
  · have e : ¬ check c ≠ 0 := by simp [hc]
    rw [if_neg e] at h ⊢
    have hv := vec_of_check c hc
    by_cases hl : (o.length : Int) = c.sum
    · have e2 : ¬ (o.length : Int) ≠ c.sum := by simp [hl]
      rw [if_neg e2] at h ⊢
      cases hr : rank c o 0 with
      | none => rw [hr] at h; simp at h
      | some x =>
        obtain ⟨a, l⟩ := x
        obtain ⟨h1, h2, h3⟩ := rank_sum o c 0 a l hv hr
        obtain ⟨ρ, e1, e2, e3, e4⟩ := rank_unr o c 0 a l hv (by omega) (by have := (count_pos hv).2; omega) hr (by omega)
        have hu := e4 c.sum.toNat (by omega)
        have : a = ρ := by omega
        subst this
        have hn : ¬ (a < 0 ∨ count c ≤ a) := by omega
        simp only [unrR, if_neg e, if_neg hn, hu]
    · rw [if_pos hl] at h; cases h
  · rw [if_pos hc] at h; exact absurd h hc
theorem law2 (c o : List Int) : CallP C 4 [ints c, ints o] = some (.bool true) := by
  refine CallP_W rfl Try.func4 rfl (by kernel_rfl) (by simp [Try.f4]) fun R hR => ?_
  have c7 := fun h => call7 h
  by_cases hl : c.length > 10
  · have hl' : 10 < (c.length : Int) := by omega
    simp [go_sem, c7, len_ints, hl']
    refine hR _ _ _ (.inr rfl) ⟨_, rfl, ?_⟩
    simp [go_sem]
    exact snap_dat rfl rfl
  · have hl' : ¬ 10 < (c.length : Int) := by omega
    by_cases hl2 : o.length > 20
    · have hl2' : 20 < (o.length : Int) := by omega
      simp [go_sem, c7, len_ints, hl', hl2']
      refine hR _ _ _ (.inr rfl) ⟨_, rfl, ?_⟩
      simp [go_sem]
      exact snap_dat rfl rfl
    · have hl2' : ¬ 20 < (o.length : Int) := by omega
      have c11 := fun h => call11 c o h (by omega)
      have c12 := fun h => call12 c o h (by omega)
      have hb := rankR_back c o
      generalize rankR c o = p at c11 c12 hb
      obtain ⟨n, e⟩ := p
      simp only [pairI] at c11 c12
      by_cases he : e = 0
      · have hu := hb he
        have c13 := fun h => call13 c n h
        simp only [] at hu
        simp only [hu, unrA] at c13
        have c14 := fun h => call14 o o h (by omega)
        simp [go_sem, c7, len_ints, hl', hl2', c11, c12, he, c13, c14]
        refine hR _ _ _ (.inr rfl) ⟨_, rfl, ?_⟩
        simp [go_sem]
        exact snap_dat rfl rfl
      · simp [go_sem, c7, len_ints, hl', hl2', c11, c12, he]
        refine hR _ _ _ (.inr rfl) ⟨_, rfl, ?_⟩
        simp [go_sem]
        exact snap_dat rfl rfl
theorem unr_length : ∀ (f : Nat) (l : List Int) (n : Int) (r : List Int), unr f l n = some r → r.length ≤ f := by
  intro f
  induction f with
  | zero => intro l n r h; simp only [unr] at h; split at h <;> first | (cases h; done) | skip
            simp only [Option.some.injEq] at h; subst h; simp
  | succ f ih =>
    intro l n r h
    simp only [unr] at h
    split at h
    · split at h <;> first | (cases h; done) | skip
      obtain ⟨r', hr, rfl⟩ := Option.map_eq_some_iff.1 h
      have := ih _ _ _ hr
      simp; omega
    · simp only [Option.some.injEq] at h; subst h; simp
theorem unrR_length (c : List Int) (n : Int) : (unrR c n).1.length ≤ 100 := by
  unfold unrR
  by_cases hc : check c = 0
  · have e : ¬ check c ≠ 0 := by simp [hc]
    rw [if_neg e]
    have hv := vec_of_check c hc
    split
    · simp
    · split
      · rename_i r hr
        have := unr_length _ _ _ _ hr
        have := hv.2.2
        simp only; omega
      · simp
  · rw [if_pos hc]; simp
theorem law3 (c : List Int) (n : Int) : CallP C 5 [ints c, .int .i64 n] = some (.bool true) := by
  refine CallP_W rfl Try.func5 rfl (by kernel_rfl) (by simp [Try.f5]) fun R hR => ?_
  have c7 := fun h => call7 h
  by_cases hl : c.length > 10
  · have hl' : 10 < (c.length : Int) := by omega
    simp [go_sem, c7, len_ints, hl']
    refine hR _ _ _ (.inr rfl) ⟨_, rfl, ?_⟩
    simp [go_sem]
    exact snap_dat rfl rfl
  · have hl' : ¬ 10 < (c.length : Int) := by omega
    have c13 := fun h => call13 c n h
    have c15 := fun h => call15 c n h
    have hb := unrR_length c n
    generalize unrR c n = p at c13 c15 hb
    obtain ⟨r, e⟩ := p
    simp only [unrA] at c13 c15 hb
    have c14 := fun h => call14 r r h (by omega)
    simp [go_sem, c7, len_ints, hl', c13, c15, c14]
    refine hR _ _ _ (.inr rfl) ⟨_, rfl, ?_⟩
    simp [go_sem]
    exact snap_dat rfl rfl
end Go.V37

/- All orders of a vector, ascending: the plain law. -/
namespace Go.V37
open Go Go.V
/-- All orders of a vector. -/
def ordL : Nat → List Int → List (List Int)
  | 0, _ => [[]]
  | f + 1, l => if anyPos l then (List.range l.length).flatMap fun i => if l.getD i 0 = 0 then [] else (ordL f (dec l i)).map ((i : Int) :: ·) else [[]]
def orders (l : List Int) : List (List Int) := ordL l.sum.toNat l
theorem orders_none {l : List Int} (h : anyPos l = false) : orders l = [[]] := by
  unfold orders
  cases l.sum.toNat with
  | zero => rfl
  | succ f => simp [ordL, h]
theorem orders_pos {l : List Int} (hv : Vec l) (h : anyPos l = true) : orders l = (List.range l.length).flatMap fun i => if l.getD i 0 = 0 then [] else (orders (dec l i)).map ((i : Int) :: ·) := by
  obtain ⟨k, hk⟩ := (anyPos_iff l).1 h
  have hs := sum_pos hv hk
  obtain ⟨f, hf⟩ : ∃ f, l.sum.toNat = f + 1 := ⟨l.sum.toNat - 1, by omega⟩
  have : orders l = ordL (f + 1) l := by unfold orders; rw [hf]
  rw [this, ordL, if_pos h]
  congr 1
  funext i
  by_cases hz : l.getD i 0 = 0
  · rw [if_pos hz, if_pos hz]
  · rw [if_neg hz, if_neg hz]
    have := sum_dec hv hz
    have e : (dec l i).sum.toNat = f := by omega
    unfold orders; rw [e]
theorem length_to (l : List Int) (hv : Vec l) (g : Nat → List (List Int)) (hg : ∀ i, l.getD i 0 ≠ 0 → ((g i).length : Int) = count (dec l i)) (n : Nat) :
    ((((List.range n).flatMap fun i => if l.getD i 0 = 0 then [] else (g i).map ((i : Int) :: ·)).length : Nat) : Int) = sumB l n := by
  induction n with
  | zero => simp [sumB]
  | succ n ih =>
    rw [List.range_succ, List.flatMap_append, List.length_append]
    simp only [List.flatMap_cons, List.flatMap_nil, List.append_nil, sumB]
    have h0 := vec_get hv n
    by_cases hz : l.getD n 0 = 0
    · rw [if_pos hz, if_neg (by omega)]; simp only [List.length_nil, Nat.add_zero, Int.add_zero]; exact ih
    · rw [if_neg hz, if_pos (by omega)]
      have := hg n hz
      simp only [List.length_map]
      omega
theorem orders_length : ∀ (f : Nat) (l : List Int), Vec l → l.sum.toNat = f → ((orders l).length : Int) = count l := by
  intro f
  induction f with
  | zero =>
    intro l hv hs
    have h0 := sum_nonneg l hv.2.1
    have hn := none_zero hv (by omega)
    rw [orders_none hn]
    -- the count of nothing is one
    have hz : ∀ (l : List Int), (∀ x ∈ l, 0 ≤ x) → l.sum = 0 → ∀ r t, cnt l r t = r := by
      intro l
      induction l with
      | nil => intro _ _ r t; rfl
      | cons a l ih =>
        intro hp hs r t
        have h1 := hp a (by simp)
        have h2 := sum_nonneg l fun y hy => hp y (by simp [hy])
        simp only [List.sum_cons] at hs
        have : a.toNat = 0 := by omega
        simp only [cnt, this, crow]
        exact ih (fun y hy => hp y (by simp [hy])) (by omega) r t
    have := hz l hv.2.1 (by omega) 1 0
    simp [count, this]
  | succ f ih =>
    intro l hv hs
    cases ha : anyPos l with
    | false =>
      have hz : l.sum = 0 := by
        have : ∀ (l : List Int), (∀ x ∈ l, 0 ≤ x) → (∀ x ∈ l, ¬ x > 0) → l.sum = 0 := by
          intro l
          induction l with
          | nil => intro _ _; rfl
          | cons a l ih =>
            intro h1 h2
            have a1 := h1 a (by simp)
            have a2 := h2 a (by simp)
            have := ih (fun y hy => h1 y (by simp [hy])) (fun y hy => h2 y (by simp [hy]))
            simp only [List.sum_cons]; omega
        refine this l hv.2.1 fun x hx hp => ?_
        have : anyPos l = true := List.any_eq_true.2 ⟨x, hx, by simpa using hp⟩
        rw [this] at ha; cases ha
      omega
    | true =>
      obtain ⟨k, hk⟩ := (anyPos_iff l).1 ha
      rw [orders_pos hv ha, count_sum hv hk]
      exact length_to l hv (fun i => orders (dec l i)) (fun i hi => ih _ (vec_dec hv hi) (by have := sum_dec hv hi; omega)) l.length
/-- Which of two rows comes first. -/
def cmpL : List Int → List Int → Int
  | [], [] => 0
  | [], _ :: _ => -1
  | _ :: _, [] => 1
  | a :: x, b :: y => if a < b then -1 else if a > b then 1 else cmpL x y
theorem cmpL_self : ∀ a : List Int, cmpL a a = 0 := by
  intro a
  induction a with
  | nil => rfl
  | cons x a ih => simp [cmpL, ih]
theorem sorted_to (l : List Int) (g : Nat → List (List Int)) (hg : ∀ i, (g i).Pairwise fun a b => cmpL b a ≥ 0) (n : Nat) :
    ((List.range n).flatMap fun i => if l.getD i 0 = 0 then [] else (g i).map ((i : Int) :: ·)).Pairwise fun a b => cmpL b a ≥ 0 := by
  induction n with
  | zero => simp
  | succ n ih =>
    rw [List.range_succ, List.flatMap_append, List.pairwise_append]
    refine ⟨ih, ?_, ?_⟩
    · simp only [List.flatMap_cons, List.flatMap_nil, List.append_nil]
      split
      · simp
      · rw [List.pairwise_map]
        refine (hg n).imp fun {a b} h => ?_
        simp [cmpL]; exact h
    · intro a ha b hb
      simp only [List.flatMap_cons, List.flatMap_nil, List.append_nil] at hb
      split at hb
      · simp at hb
      · obtain ⟨y, _, rfl⟩ := List.mem_map.1 hb
        rw [List.mem_flatMap] at ha
        obtain ⟨i, hi, ha⟩ := ha
        split at ha
        · simp at ha
        · obtain ⟨x, _, rfl⟩ := List.mem_map.1 ha
          rw [List.mem_range] at hi
          have h1 : ¬ (n : Int) < i := by omega
          have h2 : (i : Int) < n := by omega
          simp [cmpL, h1, h2]
theorem orders_sorted : ∀ (f : Nat) (l : List Int), (ordL f l).Pairwise fun a b => cmpL b a ≥ 0 := by
  intro f
  induction f with
  | zero => intro l; simp [ordL]
  | succ f ih =>
    intro l
    simp only [ordL]
    split
    · exact sorted_to l (fun i => ordL f (dec l i)) (fun i => ih _) l.length
    · simp
theorem orders_len : ∀ (f : Nat) (l : List Int), ∀ x ∈ ordL f l, x.length ≤ f := by
  intro f
  induction f with
  | zero => intro l x hx; simp [ordL] at hx; subst hx; simp
  | succ f ih =>
    intro l x hx
    simp only [ordL] at hx
    split at hx
    · rw [List.mem_flatMap] at hx
      obtain ⟨i, _, hx⟩ := hx
      split at hx
      · simp at hx
      · obtain ⟨y, hy, rfl⟩ := List.mem_map.1 hx
        have := ih _ y hy
        simp; omega
    · simp at hx; subst hx; simp
end Go.V37

/- Rows compared for their order; the document's Orders. -/
namespace Go.V37
open Go Go.V Go.Proofs
theorem nan_call (n : Int) : CallP C 38 [.int .i64 n] = some (.bool false) := by
  refine CallP_W rfl Try.func38 rfl (by kernel_rfl) (by simp [Try.f38]) fun R hR => ?_
  simp [go_sem]
  refine hR _ _ _ (.inr rfl) ⟨_, rfl, ?_⟩
  simp [go_sem]
  exact snap_dat rfl rfl
theorem call38 (n : Int) (h : H) : callV C h (.func 38 []) (some [.int .i64 n]) = some (.bool false, h) := callV_strip (by kernel_rfl) rfl rfl rfl (by simp) (nan_call n)
def cmpI (a b : Int) : Int := if a < b then -1 else if a > b then 1 else 0
theorem cmp_call (a b : Int) : CallP C 34 [.int .i64 a, .int .i64 b] = some (.int .i64 (cmpI a b)) := by
  refine CallP_W rfl Try.func34 rfl (by kernel_rfl) (by simp [Try.f34]) fun R hR => ?_
  by_cases h1 : a < b
  · simp [go_sem, call38, h1]
    refine hR _ _ _ (.inr rfl) ⟨_, rfl, ?_⟩
    simp [go_sem, cmpI, h1]
    exact snap_dat rfl rfl
  · by_cases h2 : b < a
    · simp [go_sem, call38, h1, h2]
      refine hR _ _ _ (.inr rfl) ⟨_, rfl, ?_⟩
      simp [go_sem, cmpI, h1, h2]
      exact snap_dat rfl rfl
    · simp [go_sem, call38, h1, h2]
      refine hR _ _ _ (.inr rfl) ⟨_, rfl, ?_⟩
      simp [go_sem, cmpI, h1, h2]
      exact snap_dat rfl rfl
theorem call34 (a b : Int) (h : H) : callV C h (.func 34 []) (some [.int .i64 a, .int .i64 b]) = some (.int .i64 (cmpI a b), h) := callV_strip (by kernel_rfl) rfl rfl rfl (by simp) (cmp_call a b)
def I21 (a b : List Int) (n : Nat) (s : PT) (h : H) : Prop := ∃ k : Nat, n = a.length - k ∧ k ≤ a.length ∧ h = [] ∧ s.get 0 = ints a ∧ s.get 1 = ints b ∧ s.get 9 = ints a ∧ s.get 10 = .int .i64 a.length ∧ s.get 11 = .int .i64 k ∧ k ≤ b.length ∧ cmpL (a.drop k) (b.drop k) = cmpL a b
theorem compare_call (a b : List Int) (ha : a.length ≤ 1000000) (hb : b.length ≤ 1000000) : CallP C 21 [ints a, ints b] = some (.int .i64 (cmpL a b)) := by
  refine CallP_W rfl Try.func21 rfl (by kernel_rfl) (by simp [Try.f21]) fun R hR => ?_
  simp [go_sem, len_ints]
  refine W_loop (I21 a b) a.length ⟨0, by simp [go_sem]⟩ ?_
  rintro n s h ⟨k, rfl, hk, rfl, g0, g1, g9, g10, g11, hkb, hc⟩
  by_cases hlt : k < a.length
  · have hlt' : (k : Int) < a.length := by omega
    have hix := idx a k hlt .unk
    simp only [ints] at g9
    rw [List.drop_eq_getElem_cons hlt] at hc
    by_cases hlb : k < b.length
    · have hlb' : ¬ (b.length : Int) ≤ k := by omega
      have hixb := idx b k hlb .unk
      rw [List.drop_eq_getElem_cons hlb] at hc
      simp only [cmpL] at hc
      have hlb2 := len_ints b
      simp only [ints] at g1 hlb2
      by_cases e1 : a[k] < b[k]
      · rw [if_pos e1] at hc
        have hci : cmpI a[k] b[k] = -1 := by simp [cmpI, e1]
        simp [go_sem, g1, g9, g10, g11, hlt', hix, ldi, hlb2, hlb', hixb, call34, hci]
        refine hR _ _ _ (.inr rfl) ⟨_, rfl, ?_⟩
        simp [go_sem, ← hc]
        exact snap_dat rfl rfl
      · rw [if_neg e1] at hc
        by_cases e2 : a[k] > b[k]
        · rw [if_pos e2] at hc
          have hci : cmpI a[k] b[k] = 1 := by simp only [cmpI]; rw [if_neg e1, if_pos e2]
          simp [go_sem, g1, g9, g10, g11, hlt', hix, ldi, hlb2, hlb', hixb, call34, hci]
          refine hR _ _ _ (.inr rfl) ⟨_, rfl, ?_⟩
          simp [go_sem, ← hc]
          exact snap_dat rfl rfl
        · rw [if_neg e2] at hc
          have hci : cmpI a[k] b[k] = 0 := by simp only [cmpI]; rw [if_neg e1, if_neg e2]
          have w1 : IntKind.i64.wrap ((k : Int) + 1) = k + 1 := wrap_in (by omega)
          simp [go_sem, g1, g9, g10, g11, hlt', hix, ldi, hlb2, hlb', hixb, call34, hci, w1]
          refine ⟨a.length - (k + 1), by omega, k + 1, rfl, by omega, rfl, ?_, ?_, ?_, ?_, ?_, by omega, hc⟩
          · simp [go_sem, g0]
          · simp [go_sem, g1, ints]
          · simp [go_sem, g9, ints]
          · simp [go_sem, g10]
          · simp [go_sem]
    · have hlb' : (b.length : Int) ≤ k := by omega
      have hlb2 := len_ints b
      have hbd : b.drop k = [] := List.drop_eq_nil_of_le (by omega)
      rw [hbd] at hc
      simp only [cmpL] at hc
      simp only [ints] at g1 hlb2
      simp [go_sem, g1, g9, g10, g11, hlt', hix, ldi, hlb2, hlb']
      refine hR _ _ _ (.inr rfl) ⟨_, rfl, ?_⟩
      simp [go_sem, ← hc]
      exact snap_dat rfl rfl
  · have : k = a.length := by omega
    subst this
    rw [List.drop_length] at hc
    by_cases hlb : a.length < b.length
    · have hlb' : (a.length : Int) < b.length := by omega
      rw [List.drop_eq_getElem_cons hlb, cmpL] at hc
      simp [go_sem, g0, g1, g10, g11, len_ints, hlb']
      refine hR _ _ _ (.inr rfl) ⟨_, rfl, ?_⟩
      simp [go_sem, ← hc]
      exact snap_dat rfl rfl
    · have hlb' : ¬ (a.length : Int) < b.length := by omega
      have hbd : b.drop a.length = [] := List.drop_eq_nil_of_le (by omega)
      rw [hbd] at hc
      simp only [cmpL] at hc
      simp [go_sem, g0, g1, g10, g11, len_ints, hlb']
      refine hR _ _ _ (.inr rfl) ⟨_, rfl, ?_⟩
      simp [go_sem, ← hc]
      exact snap_dat rfl rfl
theorem call21 (a b : List Int) (h : H) (ha : a.length ≤ 1000000) (hb : b.length ≤ 1000000) : callV C h (.func 21 []) (some [ints a, ints b]) = some (.int .i64 (cmpL a b), h) := callV_strip (by kernel_rfl) rfl rfl rfl (by simp) (compare_call a b ha hb)
def I20 (l : List (List Int)) (n : Nat) (s : PT) (h : H) : Prop := ∃ k : Nat, n = k ∧ k < l.length ∧ h = [] ∧ s.get 0 = rows l ∧ s.get 1 = .func 21 [] ∧ s.get 5 = .int .i64 k
theorem sorted_call (l : List (List Int)) (hl : l.length ≤ 1000000) (hx : ∀ x ∈ l, x.length ≤ 1000000) (hs : l.Pairwise fun a b => cmpL b a ≥ 0) : CallP C 20 [rows l, .func 21 []] = some (.bool true) := by
  refine CallP_W rfl Try.func20 rfl (by kernel_rfl) (by simp [Try.f20]) fun R hR => ?_
  have hll : lenV C.P 24 (rows l) = some (.int .i64 l.length) := len24' l .unk
  have w0 : IntKind.i64.wrap ((l.length : Int) - 1) = l.length - 1 := wrap_in (by omega)
  cases hl0 : l.length with
  | zero =>
    rw [hl0] at hll w0
    have : l = [] := List.length_eq_zero_iff.1 hl0
    subst this
    simp [go_sem, hll]
    refine W_loop (fun _ s h => s.get 5 = .int .i64 (-1) ∧ h = []) 0 ?_ ?_
    · simp [go_sem]; exact w0
    · rintro n s h ⟨g5, rfl⟩
      simp [go_sem, g5]
      refine hR _ _ _ (.inr rfl) ⟨_, rfl, ?_⟩
      simp [go_sem]
      exact snap_dat rfl rfl
  | succ m =>
    have w0' : IntKind.i64.wrap (((m + 1 : Nat) : Int) - 1) = m := by rw [← hl0, w0]; omega
    rw [hl0] at hll
    simp [go_sem, hll]
    refine W_loop (I20 l) m ⟨m, ?_⟩ ?_
    · refine ⟨rfl, by omega, rfl, ?_, ?_, ?_⟩
      · simp [go_sem]
      · simp [go_sem]
      · simp [go_sem]; have := w0'; simpa using this
    · rintro n s h ⟨k, rfl, hk, rfl, g0, g1, g5⟩
      cases n with
      | zero =>
        simp [go_sem, g5]
        refine hR _ _ _ (.inr rfl) ⟨_, rfl, ?_⟩
        simp [go_sem]
        exact snap_dat rfl rfl
      | succ j =>
        have hj' : (0 : Int) < (j : Int) + 1 := by omega
        have hix := idxr l (j + 1) hk .unk
        have hix2 := idxr l j (by omega) .unk
        have w1 : IntKind.i64.wrap ((j : Int) + 1 - 1) = j := by rw [show (j : Int) + 1 - 1 = j by omega]; exact wrap_in (by omega)
        have w1' : IntKind.i64.wrap (j : Int) = j := wrap_in (by omega)
        have hge : ¬ cmpL l[j + 1] l[j] < 0 := by
          have := (List.pairwise_iff_getElem.1 hs) j (j + 1) (by omega) hk (by omega)
          omega
        have c21 := fun h => call21 l[j + 1] l[j] h (hx _ (List.getElem_mem _)) (hx _ (List.getElem_mem _))
        have hlr := fun l (h : H) => ldr l h
        simp only [rows] at g0
        simp at hix
        simp [go_sem, g0, g1, g5, hj', hix, hix2, hlr, c21, hge, w1, w1']
        refine ⟨j, by omega, j, rfl, by omega, rfl, ?_, ?_, ?_⟩
        · simp [go_sem, g0, rows]
        · simp [go_sem, g1]
        · simp [go_sem]
theorem call20 (l : List (List Int)) (h : H) (hl : l.length ≤ 1000000) (hx : ∀ x ∈ l, x.length ≤ 1000000) (hs : l.Pairwise fun a b => cmpL b a ≥ 0) : callV C h (.func 20 []) (some [rows l, .func 21 []]) = some (.bool true, h) :=
  callV_strip (by kernel_rfl) rfl rfl rfl (by simp) (sorted_call l hl hx hs)
end Go.V37

/- The document's Orders. -/
namespace Go.V37
open Go Go.V Go.Proofs
theorem call29i {h : H} {l : List Int} (hs : l.length ≤ 10000) {k : Nat} (hk : k < l.length) (hb : -1000 ≤ l.getD k 0) (hb2 : l.getD k 0 ≤ 1000) : callV C h (.func 29 []) (some [ints l, .int .i64 k]) = some (ints (dec l k), h) := by
  cases l with
  | nil => simp at hk
  | cons a t =>
    have hc := less_call a t k (by omega) hk hb hb2
    obtain ⟨e1, e2⟩ := dats_snap (h := h) (l := [ints (a :: t), .int .i64 k]) (l' := [ints (a :: t), .int .i64 k]) rfl rfl deep (by simp [deep])
    have hbd : hasBody C.P 29 = true := by kernel_rfl
    simp only [callV, hbd, if_true, List.append_nil]
    unfold applyCall
    rw [show C.mode 29 = .ownT from rfl]
    dsimp only
    rw [e2]
    simp only [Go.V.freeze, e1]
    rw [hc]
    dsimp only
    unfold finishV adoptR adopt
    dsimp only
    have hsc := scalars_ints (dec (a :: t) k)
    have hl : ((dec (a :: t) k).map (AV.int .i64)).length = (a :: t).length := by simp [dec_length]
    simp only [List.getElem?_cons_succ, List.getElem?_cons_zero]
    rw [if_pos ⟨hsc, trivial, by omega⟩]
    have e : (((dec (a :: t) k).map (AV.int .i64)).drop 0).take (a :: t).length = (dec (a :: t) k).map (AV.int .i64) := by
      rw [List.drop_zero, List.take_of_length_le]; omega
    rw [e]; rfl
theorem call32i {h : H} {l : List Int} (hl : l.length ≤ 100) : callV C h (.func 32 []) (some [ints l]) = some (.int .i64 (nxtI l), h) := callV_strip (by kernel_rfl) rfl rfl rfl (by simp) (next_call l hl)
def part (l : List Int) (i : Nat) : List (List Int) := if l.getD i 0 = 0 then [] else (orders (dec l i)).map ((i : Int) :: ·)
def O22 (l : List Int) (n : Nat) (s : PT) (h : H) : Prop := ∃ i : Nat, n = l.length - i ∧ i ≤ l.length ∧ s.get 0 = ints l ∧ s.get 4 = .int .i64 i ∧ OwnR 22 h (s.get 3) (((List.range i).flatMap (part l)).map ints)
def I22 (l : List Int) (i : Nat) (sub : List (List Int)) (n : Nat) (s : PT) (h : H) : Prop := ∃ k : Nat, n = sub.length - k ∧ k ≤ sub.length ∧ s.get 0 = ints l ∧ s.get 4 = .int .i64 i ∧ s.get 5 = .isl (sub.map ints) .unk ∧ s.get 6 = .int .i64 k ∧ OwnR 22 h (s.get 3) (((List.range i).flatMap (part l) ++ (sub.take k).map ((i : Int) :: ·)).map ints)
theorem part_sum (l : List Int) (hv : Vec l) (i : Nat) : (((List.range i).flatMap (part l)).length : Int) = sumB l i :=
  length_to l hv (fun i => orders (dec l i)) (fun i hi => orders_length _ _ (vec_dec hv hi) rfl) i
set_option maxHeartbeats 2000000 in
theorem orders_call : ∀ (f : Nat) (l : List Int), Vec l → l.sum.toNat = f → count l ≤ 1000 → CallP C 22 [ints l] = some (rows (orders l)) := by
  intro f
  induction f using Nat.strongRecOn with
  | ind f ih =>
  intro l hv hf hcl
  refine CallP_W rfl Try.func22 rfl (by kernel_rfl) (by simp [Try.f22]) fun R hR => ?_
  have hl4 := hv.1
  have c32 := fun h => call32i (h := h) (l := l) (by omega)
  rcases nxt_spec l with ⟨z1, hp⟩ | ⟨k0, z1, z2, z3, hp, z5⟩
  · have hi : nxtI l = -1 := by simp [nxtI, z1]
    rw [hi] at c32
    have hbr := fun h => build_row h [] .full
    simp only [List.map_nil] at hbr
    simp [go_sem, c32, build_nil, notTuple, hbr]
    refine hR _ _ _ (.inr rfl) ⟨_, rfl, ?_⟩
    simp [go_sem, orders_none hp]
    exact snap_dat rfl rfl
  · have hi : nxtI l = k0 := by simp [nxtI, z1]
    rw [hi] at c32
    have hk0 : ¬ (k0 : Int) < 0 := by omega
    simp [go_sem, c32, hk0]
    refine W_loop (O22 l) l.length ⟨0, ?_⟩ ?_
    · refine ⟨rfl, by omega, ?_, ?_, ?_⟩
      · simp [go_sem]
      · simp [go_sem]
      · simp [go_sem]; exact OwnR.new 22 [.tok 0 22]
    · rintro n s h ⟨i, rfl, hi, g0, g4, go⟩
      by_cases hlt : i < l.length
      · have hlt' : (i : Int) < l.length := by omega
        have hix := idx l i hlt .unk
        have hg : l.getD i 0 = l[i] := getD_lt hlt
        have w1 : IntKind.i64.wrap ((i : Int) + 1) = i + 1 := wrap_in (by omega)
        have hps := part_sum l hv (i + 1)
        have hpl : (List.range (i + 1)).flatMap (part l) = (List.range i).flatMap (part l) ++ part l i := by rw [List.range_succ, List.flatMap_append]; simp
        have hmo := sumB_mono l hv (i := i + 1) (j := l.length) (by omega)
        rw [← count_sum hv z3] at hmo
        by_cases hz : l[i] = 0
        · simp only [ints] at g0
          simp [go_sem, g0, g4, hlt', hix, ldi, hz, w1]
          refine ⟨l.length - (i + 1), by omega, i + 1, rfl, by omega, ?_, ?_, ?_⟩
          · simp [go_sem, g0, ints]
          · simp [go_sem]
          · have : part l i = [] := by simp only [part]; rw [if_pos (by rw [hg]; exact hz)]
            rw [hpl, this, List.append_nil]
            simpa [go_sem] using go
        · have hne : l.getD i 0 ≠ 0 := by rw [hg]; exact hz
          have hg0 := vec_get hv i
          have hg2 : l.getD i 0 ≤ 12 := by rw [hg]; exact hv.sm.2 _ (List.getElem_mem hlt)
          have c29 := fun h => call29i (h := h) (l := l) (by omega) hlt (by omega) (by omega)
          have hvd := vec_dec hv hne
          have hsd := sum_dec hv hne
          have hpi : part l i = (orders (dec l i)).map ((i : Int) :: ·) := by simp only [part]; rw [if_neg hne]
          have hol := orders_length _ _ hvd rfl
          have hcd : count (dec l i) ≤ 1000 := by
            have h1 : sumB l (i + 1) = sumB l i + count (dec l i) := by simp only [sumB]; rw [if_pos (by omega)]
            have := sumB_nonneg l hv i
            omega
          have hx := ih (dec l i).sum.toNat (by omega) (dec l i) hvd rfl hcd
          have c22 : ∀ h, callV C h (.func 22 []) (some [ints (dec l i)]) = some (rows (orders (dec l i)), h) := fun h => callV_strip (by kernel_rfl) rfl rfl rfl (by simp) hx
          have hxl : ∀ x ∈ orders (dec l i), x.length ≤ 12 := fun x hx => by
            have h1 := orders_len _ _ x hx
            have h2 := hvd.2.2
            omega
          rw [hpl, hpi] at hps
          generalize hsub : orders (dec l i) = sub at hpi hol c22 hxl hps
          simp only [rows] at c22
          have hri := fun k (hk : k < sub.length) => idxr sub k hk .unk
          have hli := fun l (h : H) => ldr l h
          simp only [ints] at g0 c29 c22
          simp [go_sem, g0, g4, hlt', hix, ldi, hz, c29, c22]
          refine W_loop (I22 l i sub) sub.length ⟨0, ?_⟩ ?_
          · refine ⟨rfl, by omega, ?_, ?_, ?_, ?_, ?_⟩
            · simp [go_sem, g0, ints]
            · simp [go_sem, g4]
            · simp [go_sem]
            · simp [go_sem]
            · simpa [go_sem] using go
          · rintro n s2 h2 ⟨k, rfl, hk, m0, m4, m5, m6, mo⟩
            have hlsub := len24' sub .unk
            by_cases hkt : k < sub.length
            · have hkt' : (k : Int) < sub.length := by omega
              have w2 : IntKind.i64.wrap ((k : Int) + 1) = k + 1 := by
                simp only [List.length_append, List.length_map] at hps
                exact wrap_in (by omega)
              generalize g7 : s2.get 3 = v7 at mo
              have hsk := hxl sub[k] (List.getElem_mem hkt)
              obtain ⟨v1, h3, e1, o1, f1, i1⟩ := append3 (xs := [(i : Int)]) (ys := sub[k]) (x := .unk) (.inl rfl : OwnR 3 h2 (.isl [.int .i64 i] .full) [.int .i64 i]) (by simp; omega)
              obtain ⟨x1, rfl⟩ := o1.isl
              have o7 : OwnR 22 h3 v7 _ := mo.keep f1 (by simp [idOf])
              obtain ⟨v4, h5, e4, o4, f4, i4⟩ := append22 (ys := [(i : Int) :: sub[k]]) (x := .full) o7 (by
                simp only [List.length_append, List.length_map, List.length_take, List.length_cons, List.length_nil] at hps ⊢
                omega)
              have eo : (List.range i).flatMap (part l) ++ (sub.take k).map ((i : Int) :: ·) ++ [(i : Int) :: sub[k]] = (List.range i).flatMap (part l) ++ (sub.take (k + 1)).map ((i : Int) :: ·) := by
                rw [← List.take_append_getElem hkt, List.map_append, List.append_assoc]; rfl
              rw [eo] at o4
              have hbr := fun h => build_row h ((i : Int) :: sub[k]) x1
              have hwr : C.wr 22 40 = false ∧ C.wr 22 42 = false := ⟨rfl, rfl⟩
              have hrk := hri k hkt
              simp only [ints, List.map_cons, List.map_nil, List.nil_append, List.map_append, List.cons_append] at m0 e1 e4 hbr hrk hli
              simp [go_sem, m0, m4, m5, m6, hlsub, hkt', build_ints, notTuple, hrk, hli, e1, hbr, g7, e4, hwr, w2]
              refine ⟨sub.length - (k + 1), by omega, k + 1, rfl, by omega, ?_, ?_, ?_, ?_, ?_⟩
              · simp [go_sem, m0, ints]
              · simp [go_sem, m4]
              · simp [go_sem, m5]
              · simp [go_sem]
              · simp only [go_sem, reduceIte]
                exact o4
            · have : k = sub.length := by omega
              subst this
              simp [go_sem, m4, m5, m6, hlsub, w1]
              refine ⟨l.length - (i + 1), by omega, i + 1, rfl, by omega, ?_, ?_, ?_⟩
              · simp [go_sem, m0]
              · simp [go_sem]
              · rw [List.take_length] at mo
                rw [hpl, hpi]
                simpa [go_sem] using mo
      · have : i = l.length := by omega
        subst this
        simp [go_sem, g0, g4, len_ints]
        refine hR _ _ _ (.inr rfl) ⟨_, rfl, ?_⟩
        obtain ⟨x7, h7⟩ := go.isl
        have ho : orders l = (List.range l.length).flatMap (part l) := orders_pos hv hp
        rw [ho]
        simp [go_sem, h7]
        exact snap_dat rfl rfl
end Go.V37

/- The program's All: the recursion that yields. -/
namespace Go.V37
open Go Go.V Go.Proofs
theorem a29 : isAggB C.P 29 = some false := by kernel_rfl
theorem s29 : sizeV C.P 29 = some 1 := by kernel_rfl
theorem chunk1_take : ∀ (n : Nat) (cs : List AV), n ≤ cs.length → chunk 1 n cs = cs.take n := by
  intro n
  induction n with
  | zero => intro cs _; rfl
  | succ n ih =>
    intro cs h
    cases cs with
    | nil => simp at h
    | cons c cs => simp only [chunk, List.drop_succ_cons, List.drop_zero, List.take_succ_cons, ih cs (by simpa using h)]
/-- A copy of the first part of a row of one's own. -/
theorem clone_part {h : H} {id n : Nat} {cap : Option Nat} {a p : List Int} (hid : h[id]? = some (.cells (a.map (AV.int .i64)) .live)) (hn : n ≤ a.length) (hp : a.take n = p) (hs : a.length ≤ 10000) :
    ∃ v h', callV C h (.func 19 []) (some [.msl id 0 1 n cap]) = some (v, h') ∧ RowM h' v p ∧ Keep h h' none ∧ (∀ i, idOf v = some i → h.length ≤ i) := by
  have hb : hasBody C.P 19 = true := by kernel_rfl
  obtain ⟨e1, e2⟩ := snap_msl_cons (rest := []) (rest' := []) (cap := cap) (len := n) hid (by simpa using hn) (dats1_ints a) (by simp; omega) rfl rfl (by simp)
  rw [chunk1_take n _ (by simpa using hn), ← List.map_take, hp] at e2
  have hpl : p.length ≤ 10000 := by rw [← hp]; simp; omega
  have hcall : ∃ v h', applyCall C (Go.V.Call C) 19 [.msl id 0 1 n cap] h = some (v, h') ∧ RowM h' v p ∧ Keep h h' none ∧ (∀ i, idOf v = some i → h.length ≤ i) := by
    unfold applyCall
    rw [show C.mode 19 = .ownM from rfl]
    dsimp only
    rw [e1, e2]
    dsimp only
    by_cases hl : p = []
    · rw [hl]
      have hpr : Go.V.Call C 19 [.isl (([] : List Int).map (AV.int .i64)) .unk] [] = some (.isl [] .full, []) := Call_prim Try.func19 rfl
      rw [hpr]
      exact ⟨.isl [] .full, h, rfl, .inl ⟨rfl, rfl⟩, .refl _ _, fun i hi => by cases hi⟩
    · rw [show Go.V.Call C 19 [.isl (p.map (AV.int .i64)) .unk] [] = _ from clone_call p [] hl (by omega)]
      refine ⟨.msl h.length 0 1 p.length none, h ++ [.cells (p.map (AV.int .i64)) .live], ?_, .inr ⟨_, _, rfl, by simp⟩, .append _ _ _, fun i hi => by simp [idOf] at hi; omega⟩
      have hsc := scalars_ints p
      cases p with
      | nil => exact absurd rfl hl
      | cons a l =>
        simp only [List.map_cons] at hsc
        simp [finishV, adoptR, adopt, hsc, s3]
  simpa only [callV, hb, if_true, List.append_nil] using hcall
/-- What the heap holds while All goes on. -/
def HI (L : LoopV) (most : Nat) (l : List Int) (st : LSt) (out : List (List Int)) (a : List Int) (h : H) : Prop :=
  h[0]? = some (.cells [.int .i64 most] .live) ∧ (∃ outv, h[2]? = some (.cells [outv] .live) ∧ OwnR 22 h outv (out.map ints) ∧ ∀ i, idOf outv = some i → 11 ≤ i) ∧ h[5]? = some (.loop L st) ∧ h[6]? = some (.cells [.yield 5] .live) ∧
  h[7]? = some (.cells (l.map (AV.int .i64)) .live) ∧ h[8]? = some (.cells [.msl 7 0 1 l.length none] .live) ∧ h[9]? = some (.cells [.func 37 [.ptr 8 0, .ptr 9 0, .ptr 6 0]] .live) ∧ h[10]? = some (.cells (a.map (AV.int .i64)) .live) ∧ 11 ≤ h.length
theorem own_set {e : TypeId} {h : H} {v : AV} {xs : List AV} (o : OwnR e h v xs) {j : Nat} {x : VObj} (hn : ∀ i, idOf v = some i → 11 ≤ i) (hj : j < 11) : OwnR e (h.set j x) v xs :=
  o.keep (.set h j x) fun i hi e => by have := hn i hi; simp only [Option.some.injEq] at e; omega
theorem HI.set7 {L : LoopV} {most : Nat} {l l' : List Int} {st : LSt} {out : List (List Int)} {a : List Int} {h : H} (i : HI L most l st out a h) (hl : l'.length = l.length) : HI L most l' st out a (h.set 7 (.cells (l'.map (AV.int .i64)) .live)) := by
  obtain ⟨h0, ⟨v, h2, o, n⟩, h5, h6, h7, h8, h9, h10, hL⟩ := i
  have : 7 < h.length := by omega
  refine ⟨by simp [h0], ⟨v, by simp [h2], own_set o n (by omega), n⟩, by simp [h5], by simp [h6], by simp [this], by simp [h8, hl], by simp [h9], by simp [h10], by simp [hL]⟩
theorem HI.set10 {L : LoopV} {most : Nat} {l : List Int} {st : LSt} {out : List (List Int)} {a a' : List Int} {h : H} (i : HI L most l st out a h) : HI L most l st out a' (h.set 10 (.cells (a'.map (AV.int .i64)) .live)) := by
  obtain ⟨h0, ⟨v, h2, o, n⟩, h5, h6, h7, h8, h9, h10, hL⟩ := i
  have : 10 < h.length := by omega
  refine ⟨by simp [h0], ⟨v, by simp [h2], own_set o n (by omega), n⟩, by simp [h5], by simp [h6], by simp [h7], by simp [h8], by simp [h9], by simp [this], by simp [hL]⟩
theorem HI.keep {L : LoopV} {most : Nat} {l : List Int} {st : LSt} {out : List (List Int)} {a : List Int} {h h' : H} (i : HI L most l st out a h) (k : Keep h h' none) : HI L most l st out a h' := by
  obtain ⟨h0, ⟨v, h2, o, n⟩, h5, h6, h7, h8, h9, h10, hL⟩ := i
  exact ⟨k.get h0 (by simp), ⟨v, k.get h2 (by simp), o.keep k (by simp), n⟩, k.get h5 (by simp), k.get h6 (by simp), k.get h7 (by simp), k.get h8 (by simp), k.get h9 (by simp), k.get h10 (by simp), Nat.le_trans hL k.1⟩
/-- What a round of collect does. -/
def RoundOk (L : LoopV) (most : Nat) : Prop := ∀ (h : H) (out : List (List Int)) (l a p : List Int) (v : AV), HI L most l .ready out a h → RowM h v p → (∀ i, idOf v = some i → 11 ≤ i) → out.length ≤ most → p.length ≤ 100 →
  ∃ ok h', Go.V.Call C (yb C.P + 5) [v] h = some (.bool ok, h') ∧ ((ok = true ∧ out.length + 1 ≤ most ∧ HI L most l .ready (out ++ [p]) a h') ∨ (ok = false ∧ most < out.length + 1 ∧ HI L most l (.done (.exit 0)) out a h'))
def pre (l p : List Int) (i : Nat) : List (List Int) := ((List.range i).flatMap (part l)).map (p ++ ·)
def I37 (L : LoopV) (most : Nat) (l p : List Int) (out : List (List Int)) (n : Nat) (s : PT) (h : H) : Prop := ∃ (i : Nat) (a : List Int) (e : Bool), n = l.length - i ∧ i ≤ l.length ∧ s.get 0 = .msl 10 0 1 p.length (some 12) ∧ s.get 1 = .ptr 8 0 ∧ s.get 2 = .ptr 9 0 ∧ s.get 3 = .ptr 6 0 ∧ s.get 10 = .int .i64 l.length ∧ s.get 11 = .int .i64 i ∧
  s.get 6 = .bool e ∧ (e = true ↔ ∀ j, j < i → l.getD j 0 = 0) ∧ HI L most l .ready (out ++ pre l p i) a h ∧ out.length + (pre l p i).length ≤ most ∧ a.length = 12 ∧ a.take p.length = p
def Q37 (L : LoopV) (most : Nat) (l p : List Int) (out : List (List Int)) (r : AV) (h' : H) : Prop := ∃ (ok : Bool) (a' : List Int), r = .bool ok ∧ a'.length = 12 ∧ a'.take p.length = p ∧
  ((ok = true ∧ out.length + (orders l).length ≤ most ∧ HI L most l .ready (out ++ (orders l).map (p ++ ·)) a' h') ∨ (ok = false ∧ most < out.length + (orders l).length ∧ HI L most l (.done (.exit 0)) ((out ++ (orders l).map (p ++ ·)).take most) a' h'))
theorem pre_succ (l p : List Int) (i : Nat) : pre l p (i + 1) = pre l p i ++ (part l i).map (p ++ ·) := by
  simp only [pre, List.range_succ, List.flatMap_append, List.map_append]; simp
theorem pre_le (l p : List Int) {k n : Nat} (h : k ≤ n) : ∃ x, pre l p n = pre l p k ++ x := by
  induction n with
  | zero => have : k = 0 := by omega
            subst this; exact ⟨[], by simp⟩
  | succ n ih =>
    by_cases e : k = n + 1
    · subst e; exact ⟨[], by simp⟩
    · obtain ⟨x, hx⟩ := ih (by omega)
      exact ⟨x ++ (part l n).map (p ++ ·), by rw [pre_succ, hx, List.append_assoc]⟩
theorem pre_nil (l p : List Int) (n : Nat) (h : ∀ j, j < n → l.getD j 0 = 0) : pre l p n = [] := by
  induction n with
  | zero => rfl
  | succ n ih =>
    rw [pre_succ, ih fun j hj => h j (by omega)]
    simp only [part]
    rw [if_pos (h n (by omega))]; rfl
theorem take_mid (a p : List Int) (i : Int) (ha : a.length = 12) (hp : a.take p.length = p) (hl : p.length < 12) : (a.take p.length ++ [i] ++ a.drop (p.length + 1)).length = 12 ∧ (a.take p.length ++ [i] ++ a.drop (p.length + 1)).take (p ++ [i]).length = p ++ [i] := by
  constructor
  · simp; omega
  · rw [hp]
    rw [List.take_left' rfl]
set_option maxHeartbeats 4000000 in
theorem walk37 (L : LoopV) (most : Nat) (hR : RoundOk L most) (hm : most ≤ 1001) : ∀ (f : Nat) (l : List Int), Vec l → l.sum.toNat = f → 0 < l.length → ∀ (h : H) (out : List (List Int)) (a p : List Int), HI L most l .ready out a h → a.length = 12 → a.take p.length = p → p.length + l.sum ≤ 12 → out.length ≤ most →
    ∃ r h', Go.V.Call C 37 [.msl 10 0 1 p.length (some 12), .ptr 8 0, .ptr 9 0, .ptr 6 0] h = some (r, h') ∧ Q37 L most l p out r h' := by
  intro f
  induction f using Nat.strongRecOn with
  | ind f ih =>
  intro l hv hf hlp h out a p hi ha hp hps hom
  have hl4 := hv.1
  have hs0 := sum_nonneg l hv.2.1
  refine Call_WQ rfl Try.func37 rfl (by kernel_rfl) (by simp [Try.f37]) fun R hRR => ?_
  have ld8 : ∀ {h : H} {l : List Int} {st : LSt} {out : List (List Int)} {a : List Int}, HI L most l st out a h → loadV C.P h 22 (.ptr 8 0) = some (.msl 7 0 1 l.length none) := fun i => by
    obtain ⟨h0, _, h5, h6, h7, h8, h9, h10, hL⟩ := i
    simp [loadV, h8, cellsAt, a22, s22]
  have ld9 : ∀ {h : H} {l : List Int} {st : LSt} {out : List (List Int)} {a : List Int}, HI L most l st out a h → loadV C.P h 29 (.ptr 9 0) = some (.func 37 [.ptr 8 0, .ptr 9 0, .ptr 6 0]) := fun i => by
    obtain ⟨h0, _, h5, h6, h7, h8, h9, h10, hL⟩ := i
    simp [loadV, h9, cellsAt, a29, s29]
  have ld6 : ∀ {h : H} {l : List Int} {st : LSt} {out : List (List Int)} {a : List Int}, HI L most l st out a h → loadV C.P h 29 (.ptr 6 0) = some (.yield 5) := fun i => by
    obtain ⟨h0, _, h5, h6, h7, h8, h9, h10, hL⟩ := i
    simp [loadV, h6, cellsAt, a29, s29]
  have ld7 : ∀ {h : H} {l : List Int} {st : LSt} {out : List (List Int)} {a : List Int} {k : Nat}, HI L most l st out a h → k < l.length → loadV C.P h 3 (.ptr 7 k) = some (.int .i64 (l.getD k 0)) := fun i hk => by
    obtain ⟨h0, _, h5, h6, h7, h8, h9, h10, hL⟩ := i
    simp [loadV, h7, cellsAt, a3, s3, hk]
  have st7 : ∀ {h : H} {l : List Int} {st : LSt} {out : List (List Int)} {a : List Int} {k : Nat} {x : Int}, HI L most l st out a h → k < l.length → storeV C.P h 3 (.ptr 7 k) (.int .i64 x) = some (h.set 7 (.cells ((l.set k x).map (AV.int .i64)) .live)) := fun i hk => by
    obtain ⟨h0, _, h5, h6, h7, h8, h9, h10, hL⟩ := i
    simp [storeV, h7, s3, hk, List.map_set]
  have e8 := ld8 hi
  simp [go_sem, e8]
  refine W_loop (I37 L most l p out) l.length ⟨0, a, true, ?_⟩ ?_
  · refine ⟨rfl, by omega, ?_, ?_, ?_, ?_, ?_, ?_, ?_, ?_, ?_, by simpa [pre] using hom, ha, hp⟩
    · simp [go_sem]
    · simp [go_sem]
    · simp [go_sem]
    · simp [go_sem]
    · simp [go_sem]
    · simp [go_sem]
    · simp [go_sem]
    · simp
    · simpa [pre] using hi
  · clear e8 hi ha hp
    rintro n s h ⟨i, a, e, rfl, hil, g0, g1, g2, g3, g10, g11, g6, ge, hi, ho, ha, hp⟩
    by_cases hlt : i < l.length
    · have hlt' : (i : Int) < l.length := by omega
      have e8 := ld8 hi
      have hix := idxm 7 l.length i none hlt
      have e7 := ld7 hi hlt
      have w1 : IntKind.i64.wrap ((i : Int) + 1) = i + 1 := wrap_in (by omega)
      have hg0 := vec_get hv i
      have hg2 : l.getD i 0 ≤ 12 := by rw [getD_lt hlt]; exact hv.sm.2 _ (List.getElem_mem hlt)
      have hd0 : l.set i (l.getD i 0 - 1) = dec l i := rfl
      have hback := set_back l i
      have hvd := fun hz => vec_dec (l := l) (k := i) hv hz
      have hsd := fun hz => sum_dec (l := l) (k := i) hv hz
      have hpart : part l i = if l.getD i 0 = 0 then [] else (orders (dec l i)).map ((i : Int) :: ·) := rfl
      generalize hgy : l.getD i 0 = gy at e7 hg0 hg2 hd0 hback hvd hsd hpart
      by_cases hz : gy = 0
      · rw [hz] at e7
        simp [go_sem, g1, g10, g11, hlt', e8, hix, e7, w1]
        refine ⟨l.length - (i + 1), by omega, i + 1, a, e, rfl, by omega, ?_, ?_, ?_, ?_, ?_, ?_, ?_, ?_, ?_, ?_, ha, hp⟩
        · simp [go_sem, g0]
        · simp [go_sem, g1]
        · simp [go_sem, g2]
        · simp [go_sem, g3]
        · simp [go_sem, g10]
        · simp [go_sem]
        · simp [go_sem, g6]
        · rw [ge]
          constructor
          · intro hh j hj
            by_cases ej : j = i
            · subst ej; rw [hgy]; exact hz
            · exact hh j (by omega)
          · intro hh j hj; exact hh j (by omega)
        · rw [pre_succ, hpart, if_pos hz]; simpa using hi
        · rw [pre_succ, hpart, if_pos hz]; simpa using ho
      · rw [if_neg hz] at hpart
        have w2 : IntKind.i64.wrap (gy - 1) = gy - 1 := wrap_in (by omega)
        have w3 : IntKind.i64.wrap gy = gy := wrap_in (by omega)
        have st1 := st7 (x := gy - 1) hi hlt
        rw [hd0] at st1
        have hi2 := hi.set7 (dec_length l i)
        have e9 := ld9 hi2
        have hlpos := sum_pos hv (k := i) (by omega)
        have hpl : p.length < 12 := by omega
        -- append within the array
        have hap : appendW C.P false (h.set 7 (.cells ((dec l i).map (AV.int .i64)) .live)) 22 (.msl 10 0 1 p.length (some 12)) (.isl [.int .i64 i] .full) = some (.msl 10 0 1 (p.length + 1) (some 12), (h.set 7 (.cells ((dec l i).map (AV.int .i64)) .live)).set 10 (.cells ((a.take p.length ++ [(i : Int)] ++ a.drop (p.length + 1)).map (AV.int .i64)) .live)) := by
          have h10 : (h.set 7 (.cells ((dec l i).map (AV.int .i64)) .live))[10]? = some (.cells (a.map (AV.int .i64)) .live) := hi2.2.2.2.2.2.2.2.1
          have hb : p.length + 1 ≤ 12 := hpl
          simp [appendW, appendV, u22, s3, b3, elemsV, z3, szOk, AV.cells, h10, ha, hb]
        obtain ⟨ha2, hp2⟩ := take_mid a p i ha hp hpl
        have hi3 := hi2.set10 (a' := a.take p.length ++ [(i : Int)] ++ a.drop (p.length + 1))
        generalize hA : a.take p.length ++ [(i : Int)] ++ a.drop (p.length + 1) = a2 at hap ha2 hp2 hi3
        obtain ⟨r, h4, hc, ok, a4, rfl, ha4, hp4, hq⟩ := ih (dec l i).sum.toNat (by have := hsd hz; omega) (dec l i) (hvd hz) rfl (by rw [dec_length]; exact hlp) _ (out ++ pre l p i) _ (p ++ [(i : Int)]) hi3 ha2 hp2 (by have := dec_sum l i (by rw [hgy]; exact hz); simp; omega) (by rw [List.length_append]; exact ho)
        have hcv : callV C ((h.set 7 (.cells ((dec l i).map (AV.int .i64)) .live)).set 10 (.cells (a2.map (AV.int .i64)) .live)) (.func 37 [.ptr 8 0, .ptr 9 0, .ptr 6 0]) (some [.msl 10 0 1 (p.length + 1) (some 12)]) = some (.bool ok, h4) := by
          have hb : hasBody C.P 37 = true := by kernel_rfl
          simp only [callV, hb, if_true]
          unfold applyCall
          rw [show C.mode 37 = .openH from rfl]
          rw [List.length_append] at hc
          exact hc
        have hp5 : a4.take p.length = p := by
          have := congrArg (List.take p.length) hp4
          rw [List.take_take, List.take_left' rfl] at this
          rwa [show min p.length (p ++ [(i : Int)]).length = p.length by simp] at this
        have hmap : (orders (dec l i)).map ((p ++ [(i : Int)]) ++ ·) = (part l i).map (p ++ ·) := by
          rw [hpart, List.map_map]; congr 1; funext x; simp
        rw [hmap] at hq
        have hlen : (orders (dec l i)).length = ((part l i).map (p ++ ·)).length := by rw [← hmap]; simp
        rw [hlen] at hq
        have hw : C.wr 37 29 = false := rfl
        obtain ⟨st, out4, hi4⟩ : ∃ st out4, HI L most (dec l i) st out4 a4 h4 := by
          rcases hq with ⟨_, _, hh⟩ | ⟨_, _, hh⟩ <;> exact ⟨_, _, hh⟩
        have e84 := ld8 hi4
        rw [dec_length] at e84
        have e74 := ld7 hi4 (k := i) (by rw [dec_length]; exact hlt)
        have hdg : (dec l i).getD i 0 = gy - 1 := by unfold dec; rw [hgy, getD_lt (by simpa using hlt)]; simp
        rw [hdg] at e74
        have st4 := st7 (x := gy) hi4 (k := i) (by rw [dec_length]; exact hlt)
        rw [hback] at st4
        have back : ∀ {st out}, HI L most (dec l i) st out a4 h4 → HI L most l st out a4 (h4.set 7 (.cells (l.map (AV.int .i64)) .live)) := fun hh => hh.set7 (by rw [dec_length])
        simp [go_sem, g1, g10, g11, hlt', e8, hix, e7, hz, w2, st1]
        refine W_regionS 8 _ rfl ?_
        simp [go_sem, g0, g1, g2, e9, build_ints, notTuple, hw, hap, hcv, idsOk, ldIds, apIds, ldId, appId, mslId, e84, hix, e74, w3, st4]
        rcases hq with ⟨rfl, q1, q2⟩ | ⟨rfl, q1, q2⟩
        · simp [go_sem, g11, w1]
          refine ⟨l.length - (i + 1), by omega, i + 1, a4, false, rfl, by omega, ?_, ?_, ?_, ?_, ?_, ?_, ?_, ?_, ?_, ?_, ha4, hp5⟩
          · simp [go_sem, g0]
          · simp [go_sem, g1]
          · simp [go_sem, g2]
          · simp [go_sem, g3]
          · simp [go_sem, g10]
          · simp [go_sem]
          · simp [go_sem]
          · constructor
            · intro hh; cases hh
            · intro hh; exact absurd (hh i (by omega)) (by rw [hgy]; exact hz)
          · rw [pre_succ, ← List.append_assoc]; exact back q2
          · rw [pre_succ, List.length_append]; rw [List.length_append] at q1; omega
        · simp [go_sem]
          refine hRR _ _ _ (.inr rfl) ⟨_, rfl, false, a4, ?_, ha4, hp5, .inr ⟨rfl, ?_, ?_⟩⟩
          · simp [go_sem]
          all_goals
            have hyes : anyPos l = true := (anyPos_iff l).2 ⟨i, by omega⟩
            have hol : (orders l).map (p ++ ·) = pre l p l.length := by rw [orders_pos hv hyes]; rfl
            obtain ⟨x, hx⟩ := pre_le l p (k := i + 1) (n := l.length) (by omega)
            rw [pre_succ] at hx
            have hlen := congrArg List.length (hol.trans hx)
            simp only [List.length_append, List.length_map] at hlen q1
          · omega
          · rw [hol, hx, ← List.append_assoc, ← List.append_assoc, List.take_append_of_le_length (by simp only [List.length_append, List.length_map]; omega)]
            exact back q2
    · have : i = l.length := by omega
      subst this
      simp [go_sem, g10, g11]
      cases e with
      | true =>
        have hno : anyPos l = false := by
          cases hb : anyPos l with
          | false => rfl
          | true =>
            obtain ⟨k, hk⟩ := (anyPos_iff l).1 hb
            have := ge.1 rfl k (lt_of_pos (by omega))
            omega
        have hpre : pre l p l.length = [] := by
          exact pre_nil l p _ (ge.1 rfl)
        rw [hpre, List.append_nil] at hi
        have h10 : h[10]? = some (.cells (a.map (AV.int .i64)) .live) := hi.2.2.2.2.2.2.2.1
        obtain ⟨v, h2, c1, c2, c3, c4⟩ := clone_part (n := p.length) (cap := some 12) h10 (by omega) hp (by omega)
        have hi2 := hi.keep c3
        obtain ⟨ok, h3, c5, c6⟩ := hR h2 out l a p v hi2 c2 (fun i e => by have := c4 i e; have := hi.2.2.2.2.2.2.2.2; omega) hom (by omega)
        have e6 := ld6 hi
        have hcy : callV C h2 (.yield 5) (some [v]) = some (.bool ok, h3) := c5
        have hol : orders l = [[]] := orders_none hno
        simp [go_sem, g0, g3, g6, e6, c1, hcy]
        refine hRR _ _ _ (.inr rfl) ⟨_, rfl, ok, a, ?_, ha, hp, ?_⟩
        · simp [go_sem]
        · rw [hol]
          rcases c6 with ⟨rfl, d1, d2⟩ | ⟨rfl, d1, d2⟩
          · exact .inl ⟨rfl, by simpa using d1, by simpa using d2⟩
          · refine .inr ⟨rfl, by simpa using d1, ?_⟩
            have : (out ++ [[]].map (p ++ ·)).take most = out := by
              rw [List.take_left' (by omega)]
            rw [this]; exact d2
      | false =>
        have hyes : anyPos l = true := by
          cases hb : anyPos l with
          | true => rfl
          | false =>
            have hall : ∀ j, j < l.length → l.getD j 0 = 0 := by
              intro j _
              have h0 := vec_get hv j
              by_cases hj : l.getD j 0 > 0
              · have := (anyPos_iff l).2 ⟨j, hj⟩; rw [hb] at this; cases this
              · omega
            have := ge.2 hall
            cases this
        have hol : (orders l).map (p ++ ·) = pre l p l.length := by rw [orders_pos hv hyes]; rfl
        simp [go_sem, g6]
        refine hRR _ _ _ (.inr rfl) ⟨_, rfl, true, a, ?_, ha, hp, .inl ⟨rfl, ?_, ?_⟩⟩
        · simp [go_sem]
        · have := congrArg List.length hol
          rw [List.length_map] at this
          omega
        · rw [hol]; exact hi
end Go.V37

/- collect, over the program's All. -/
namespace Go.V37
open Go Go.V Go.Proofs
theorem a24 : isAggB C.P 24 = some false := by kernel_rfl
theorem s24 : sizeV C.P 24 = some 1 := by kernel_rfl
theorem zv29 : zeroV C.P 29 = some .nilFunc := by kernel_rfl
theorem clone_ne (h : H) (l : List Int) (hl : l ≠ []) (hs : l.length ≤ 100000) : callV C h (.func 19 []) (some [ints l]) = some (.msl h.length 0 1 l.length none, h ++ [.cells (l.map (AV.int .i64)) .live]) := by
  have hb : hasBody C.P 19 = true := by kernel_rfl
  obtain ⟨e1, e2⟩ := dats_snap (h := h) (l := [ints l]) (l' := [ints l]) rfl rfl deep (by simp [deep])
  simp only [callV, hb, if_true, List.append_nil]
  unfold applyCall
  rw [show C.mode 19 = .ownM from rfl]
  dsimp only
  rw [e2]
  simp only [Go.V.freeze, e1]
  rw [clone_call l [] hl (by omega)]
  have hsc := scalars_ints l
  cases l with
  | nil => exact absurd rfl hl
  | cons a l =>
    simp only [List.map_cons] at hsc
    simp [finishV, adoptR, adopt, hsc, s3]
theorem row_own {h : H} {v w : AV} {l : List Int} {e : TypeId} {xs : List AV} (r : RowM h v l) (o : OwnR e h w xs) : Apart v w := by
  intro i hi hw
  rcases r with ⟨_, rfl⟩ | ⟨id, cap, rfl, hid⟩
  · cases hi
  · rcases o with rfl | ⟨j, rfl, hj⟩
    · cases hw
    · simp only [idOf, Option.some.injEq] at hi hw; subst hi; subst hw; rw [hid] at hj; cases hj
/-- A row of one's own is put into a list of rows: it is written no more. -/
theorem build_rowM {h : H} {v : AV} {p : List Int} (r : RowM h v p) (hp : p.length ≤ 1000) : ∃ h', buildSliceV C.P h 24 1 [(0, v)] = some (.isl [ints p] .full, h') ∧ Keep h h' (idOf v) := by
  rcases r with ⟨rfl, rfl⟩ | ⟨id, cap, rfl, hid⟩
  · exact ⟨h, build_row h [] .full, .refl _ _⟩
  · have := buildSlice_row (P := C.P) (t := 24) (e := 22) (len := p.length) (cap := cap) u24 s22 z22 hid (by simp) (dats1_ints p) (by simp; omega)
    rw [chunk_ints] at this
    refine ⟨_, this, ?_⟩
    have e : Go.V.freeze h [id] = h.set id (.cells (p.map (AV.int .i64)) .frozen) := by
      simp only [Go.V.freeze, freeze1, hid]
    rw [e]; exact .set _ _ _
theorem HI.set5 {L : LoopV} {most : Nat} {l : List Int} {st st' : LSt} {out : List (List Int)} {a : List Int} {h : H} (i : HI L most l st out a h) : HI L most l st' out a (h.set 5 (.loop L st')) := by
  obtain ⟨h0, ⟨v, h2, o, n⟩, h5, h6, h7, h8, h9, h10, hL⟩ := i
  have : 5 < h.length := by omega
  exact ⟨by simp [h0], ⟨v, by simp [h2], own_set o n (by omega), n⟩, by simp [this], by simp [h6], by simp [h7], by simp [h8], by simp [h9], by simp [h10], by simp [hL]⟩
/-- The rounds of collect. -/
theorem round_ok (L : LoopV) (most : Nat) (hm : most ≤ 1001) (hcf : L.cf = 18) (hps : L.ps = #[9]) (hn : L.n = 19) (hs3 : L.s.get 3 = .ptr 0 0) (hs5 : L.s.get 5 = .ptr 2 0)
    (hok : codeOk C 19 true L.assign = true ∧ codeOk C 19 true L.body = true)
    (ha : ∀ R s h, R .normal (s.set 6 (s.get 9)) h → W C 18 R L.assign [] s h)
    (hb : ∀ R s h (out : List (List Int)) outv (p : List Int) v, s.get 3 = .ptr 0 0 → s.get 5 = .ptr 2 0 → s.get 6 = v → h[0]? = some (.cells [.int .i64 most] .live) → h[2]? = some (.cells [outv] .live) → OwnR 22 h outv (out.map ints) → RowM h v p → out.length ≤ most → p.length ≤ 100 → (∀ i, idOf outv = some i → 11 ≤ i) → (∀ i, idOf v = some i → 11 ≤ i) → 11 ≤ h.length →
      (out.length = most → (∀ s', R (.exit 0) s' h)) → (out.length ≠ most → (∀ s' h' outv', OwnR 22 h' outv' ((out ++ [p]).map ints) → (∀ i, idOf outv' = some i → 11 ≤ i) → h.length ≤ h'.length → h'[2]? = some (.cells [outv'] .live) → (∀ j, j < 11 → j ≠ 2 → h'[j]? = h[j]?) → R .normal s' h')) → W C 18 R L.body [] s h) : RoundOk L most := by
  intro h out l a p v hi hv hv11 hom hp
  have hi0 := hi
  obtain ⟨h0, ⟨outv, h2, o, no⟩, h5, h6, h7, h8, h9, h10, hL⟩ := hi
  have hgo := round_W (C := C) (i := 5) (args := [v]) (Q := fun e L2 h2 => L2 = L ∧ ((e = .exit 0 ∧ most < out.length + 1 ∧ HI L most l .busy out a h2) ∨ (e = .normal ∧ out.length + 1 ≤ most ∧ HI L most l .busy (out ++ [p]) a h2))) h5
    ⟨by rw [hps]; rfl, by rw [hps, hn]; simp, by rw [hn]; exact hok.1, by rw [hn]; exact hok.2⟩ (by
      rw [hcf, hps]
      refine ha _ _ _ ⟨rfl, L, h5, ?_⟩
      have hib : HI L most l .busy out a (h.set 5 (.loop L .busy)) := hi0.set5
      have h5' := hib.2.2.1
      have hov : OwnR 22 (h.set 5 (.loop L .busy)) outv (out.map ints) := own_set o no (by omega)
      have hrv : RowM (h.set 5 (.loop L .busy)) v p := hv.keep (.set _ _ _) (fun i e h => by have := hv11 i e; simp only [Option.some.injEq] at h; omega)
      refine hb _ _ _ out outv p v ?_ ?_ ?_ hib.1 (by simp [h2]) hov hrv hom hp no hv11 (by simp [hL]) ?_ ?_
      · show ((PT.set L.s 9 v).set 6 _).get 3 = _
        simp [go_sem, hs3]
      · show ((PT.set L.s 9 v).set 6 _).get 5 = _
        simp [go_sem, hs5]
      · show ((PT.set L.s 9 v).set 6 ((PT.set L.s 9 v).get 9)).get 6 = _
        simp [go_sem]
      · exact fun e s' => ⟨L, h5', rfl, .inl ⟨rfl, by omega, hib⟩⟩
      · intro e s' h' outv' o' n' hl' h2' hj'
        have q := fun j (hj : j < 11) (h2 : j ≠ 2) => hj' j hj h2
        refine ⟨L, by rw [q 5 (by omega) (by omega)]; exact h5', rfl, .inr ⟨rfl, by omega, ?_⟩⟩
        obtain ⟨b0, _, b5, b6, b7, b8, b9, b10, bL⟩ := hib
        exact ⟨by rw [q 0 (by omega) (by omega)]; exact b0, ⟨outv', h2', o', n'⟩, by rw [q 5 (by omega) (by omega)]; exact b5, by rw [q 6 (by omega) (by omega)]; exact b6, by rw [q 7 (by omega) (by omega)]; exact b7, by rw [q 8 (by omega) (by omega)]; exact b8, by rw [q 9 (by omega) (by omega)]; exact b9, by rw [q 10 (by omega) (by omega)]; exact b10, by omega⟩)
  obtain ⟨e, L2, h2', hc, rfl, hq⟩ := hgo
  rcases hq with ⟨rfl, q1, q2⟩ | ⟨rfl, q1, q2⟩
  · exact ⟨false, _, hc, .inr ⟨rfl, q1, q2.set5⟩⟩
  · exact ⟨true, _, hc, .inl ⟨rfl, q1, q2.set5⟩⟩
/-- The loop's own state when All is called. -/
def H0 (most : Nat) (c : List Int) : H := [.cells [.int .i64 most] .live, .tok 0 22, .cells [.isl [] .full] .live, .cells [.msl 4 0 1 c.length none] .live, .cells (c.map (AV.int .i64)) .live]
def listed (c : List Int) : List (List Int) := if check c = 0 then orders c else []
def Q36 (L : LoopV) (most : Nat) (c : List Int) (_ : AV) (h' : H) : Prop := ∃ st outv, (st = .ready ∨ st = .done (.exit 0)) ∧ h'[5]? = some (.loop L st) ∧ h'[2]? = some (.cells [outv] .live) ∧ OwnR 22 h' outv (((listed c).take most).map ints) ∧ 11 ≤ h'.length + 11
theorem ld22 (x : AV) (hx : ∀ cs, x ≠ .agg cs) (h : H) (i : Nat) (hi : h[i]? = some (.cells [x] .live)) : loadV C.P h 22 (.ptr i 0) = some x := by
  simp [loadV, hi, cellsAt, a22, s22]
set_option maxHeartbeats 2000000 in
theorem all1_call (L : LoopV) (most : Nat) (hR : RoundOk L most) (hm : most ≤ 1001) (c : List Int) (hne : c ≠ []) (hcl : c.length ≤ 1000) : ∃ r h', Go.V.Call C 36 [.yield 5, .ptr 3 0] (H0 most c ++ [.loop L .ready]) = some (r, h') ∧ Q36 L most c r h' := by
  refine Call_WQ rfl Try.func36 rfl (by kernel_rfl) (by simp [Try.f36]) fun R hRR => ?_
  have hbx : boxV C.P (H0 most c ++ [.loop L .ready]) 29 (.yield 5) = some (.ptr 6 0, H0 most c ++ [.loop L .ready, .cells [.yield 5] .live]) := by simp [boxV, s29, H0, AV.cells, notTuple]
  have hl1 : loadV C.P (H0 most c ++ [.loop L .ready, .cells [.yield 5] .live]) 22 (.ptr 3 0) = some (.msl 4 0 1 c.length none) := by simp [loadV, H0, cellsAt, a22, s22]
  have c23 : callV C (H0 most c ++ [.loop L .ready, .cells [.yield 5] .live]) (.func 23 []) (some [.msl 4 0 1 c.length none]) = some (.int .i64 (check c), H0 most c ++ [.loop L .ready, .cells [.yield 5] .live]) := by
    refine callV_row (rest := []) (rest' := []) (cs := c.map (AV.int .i64)) (by kernel_rfl) rfl (by simp [H0]) (by simp) (dats1_ints c) (by simp; omega) rfl rfl (by simp) ?_ rfl
    rw [chunk_ints]; exact check_call c
  by_cases hc : check c = 0
  · have hv := vec_of_check c hc
    have c19 := clone_row c 4 none (H0 most c ++ [.loop L .ready, .cells [.yield 5] .live]) (by simp [H0]) hne (by omega)
    have hlen : (H0 most c ++ [VObj.loop L .ready, .cells [.yield 5] .live]).length = 7 := rfl
    rw [hlen] at c19
    rw [hc] at c23
    have hlen2 : c.length ≠ 0 := by simpa using hne
    generalize hB : H0 most c ++ [VObj.loop L .ready, .cells [.yield 5] .live] = B at hbx hl1 c23 c19 hlen
    have hl2 : List.length B = 7 := hlen
    have hst1 : storeV C.P (B ++ [.cells (c.map (AV.int .i64)) .live] ++ [.cells [.isl [] .full] .live]) 22 (.ptr 8 0) (.msl 7 0 1 c.length none) = some (B ++ [.cells (c.map (AV.int .i64)) .live, .cells [.msl 7 0 1 c.length none] .live]) := by
      subst hB; simp [storeV, H0, s22]
    have hst2 : storeV C.P (B ++ [.cells (c.map (AV.int .i64)) .live, .cells [.msl 7 0 1 c.length none] .live] ++ [.cells [.nilFunc] .live]) 29 (.ptr 9 0) (.func 37 [.ptr 8 0, .ptr 9 0, .ptr 6 0]) = some (B ++ [.cells (c.map (AV.int .i64)) .live, .cells [.msl 7 0 1 c.length none] .live, .cells [.func 37 [.ptr 8 0, .ptr 9 0, .ptr 6 0]] .live]) := by
      subst hB; simp [storeV, H0, s29]
    have hl3 : loadV C.P (B ++ [.cells (c.map (AV.int .i64)) .live, .cells [.msl 7 0 1 c.length none] .live, .cells [.func 37 [.ptr 8 0, .ptr 9 0, .ptr 6 0]] .live]) 29 (.ptr 9 0) = some (.func 37 [.ptr 8 0, .ptr 9 0, .ptr 6 0]) := by
      subst hB; simp [loadV, H0, cellsAt, a29, s29]
    obtain ⟨z, hz⟩ : ∃ z, z = List.replicate 12 (0 : Int) := ⟨_, rfl⟩
    have hmk : makeSliceV C.P (C.wr 36 12) (B ++ [.cells (c.map (AV.int .i64)) .live, .cells [.msl 7 0 1 c.length none] .live, .cells [.func 37 [.ptr 8 0, .ptr 9 0, .ptr 6 0]] .live]) 22 (.int .i64 0) (.int .i64 12) = some (.msl 10 0 1 0 (some 12), B ++ [.cells (c.map (AV.int .i64)) .live, .cells [.msl 7 0 1 c.length none] .live, .cells [.func 37 [.ptr 8 0, .ptr 9 0, .ptr 6 0]] .live, .cells (z.map (AV.int .i64)) .live]) := by
      have hw : C.wr 36 12 = true := rfl
      subst hB hz
      simp [makeSliceV, u22, s3, b3, zv3, z3, hw, AV.cells, H0, List.replicate]
    have hHI : HI L most c .ready [] z (B ++ [.cells (c.map (AV.int .i64)) .live, .cells [.msl 7 0 1 c.length none] .live, .cells [.func 37 [.ptr 8 0, .ptr 9 0, .ptr 6 0]] .live, .cells (z.map (AV.int .i64)) .live]) := by
      subst hB
      exact ⟨rfl, ⟨.isl [] .full, rfl, .inl rfl, fun i hi => by cases hi⟩, rfl, rfl, rfl, rfl, rfl, rfl, by simp [H0]⟩
    obtain ⟨r, h', hcall, ok, a', rfl, _, _, hq⟩ := walk37 L most hR hm c.sum.toNat c hv rfl (by omega) _ [] _ [] hHI (by rw [hz]; simp) (by simp) (by have := hv.2.2; simpa using this) (by simp)
    have hcv : callV C (B ++ [.cells (c.map (AV.int .i64)) .live, .cells [.msl 7 0 1 c.length none] .live, .cells [.func 37 [.ptr 8 0, .ptr 9 0, .ptr 6 0]] .live, .cells (z.map (AV.int .i64)) .live]) (.func 37 [.ptr 8 0, .ptr 9 0, .ptr 6 0]) (some [.msl 10 0 1 0 (some 12)]) = some (.bool ok, h') := by
      have hb : hasBody C.P 37 = true := by kernel_rfl
      simp only [callV, hb, if_true]
      unfold applyCall
      rw [show C.mode 37 = .openH from rfl]
      exact hcall
    have hpost : Q36 L most c (.tuple []) h' := by
      have hli : listed c = orders c := by simp [listed, hc]
      rcases hq with ⟨rfl, q1, q2⟩ | ⟨rfl, q1, q2⟩
      · obtain ⟨_, ⟨outv, b2, bo, _⟩, b5, _⟩ := q2
        refine ⟨.ready, outv, .inl rfl, b5, b2, ?_, by omega⟩
        rw [hli, List.take_of_length_le (by simpa using q1)]
        simpa using bo
      · obtain ⟨_, ⟨outv, b2, bo, _⟩, b5, _⟩ := q2
        refine ⟨_, outv, .inr rfl, b5, b2, ?_, by omega⟩
        rw [hli]
        simpa using bo
    simp only [List.append_assoc, List.cons_append, List.nil_append] at hst1 hst2
    simp [go_sem, hbx, hl1, c23, c19, zv22, AV.cells, hst1, hst2, zv29, hl3, hmk, hcv, hl2]
    exact hRR _ _ _ (.inl rfl) ⟨_, rfl, hpost⟩
  · simp [go_sem, hbx, hl1, c23, hc]
    refine hRR _ _ _ (.inr rfl) ⟨_, rfl, .ready, .isl [] .full, .inl rfl, rfl, rfl, ?_, by omega⟩
    have : listed c = [] := by simp [listed, hc]
    rw [this]; simp [OwnR]
end Go.V37

/- collect; the two counts; the fourth law, by the value machine. -/
namespace Go.V37
open Go Go.V Go.Proofs
def H3 (most : Nat) : H := [.cells [.int .i64 most] .live, .tok 0 22, .cells [.isl [] .full] .live]
theorem all_call (most : Nat) (c : List Int) (hne : c ≠ []) (hcl : c.length ≤ 1000) : Go.V.Call C 33 [ints c] (H3 most) = some (.func 36 [.ptr 3 0], H0 most c) := by
  refine Call_W rfl Try.func33 rfl (by kernel_rfl) (by simp [Try.f33]) fun R hRR => ?_
  have hbx : boxV C.P (H3 most) 22 (ints c) = some (.ptr 3 0, H3 most ++ [.cells [ints c] .live]) := by simp [boxV, s22, H3, AV.cells, ints, notTuple]
  have hl1 : loadV C.P (H3 most ++ [.cells [ints c] .live]) 22 (.ptr 3 0) = some (ints c) := by simp [loadV, H3, cellsAt, a22, s22]
  have c19 := clone_ne (H3 most ++ [.cells [ints c] .live]) c hne (by omega)
  have hlen : (H3 most ++ [VObj.cells [ints c] .live]).length = 4 := rfl
  rw [hlen] at c19
  have hst : storeV C.P (H3 most ++ [.cells [ints c] .live] ++ [.cells (c.map (AV.int .i64)) .live]) 22 (.ptr 3 0) (.msl 4 0 1 c.length none) = some (H0 most c) := by simp [storeV, H3, H0, s22]
  generalize hB : H3 most ++ [VObj.cells [ints c] .live] = B at hbx hl1 c19 hst
  simp [go_sem, hbx, hl1, c19, hst]
  exact hRR _ _ _ (.inr rfl) ⟨_, rfl, by simp [go_sem]⟩
theorem W_collect {R : Ex → PT → H → Prop} {A B : Code} {k : List It} {s : PT} (most : Nat) (hm : most ≤ 1001) (c : List Int) (hne : c ≠ []) (hcl : c.length ≤ 1000) (h8 : s.get 8 = .func 36 [.ptr 3 0])
    (hR : RoundOk ⟨18, s, 19, #[9], A, B⟩ most) (hk : ∀ h' outv, h'[2]? = some (.cells [outv] .live) → OwnR 22 h' outv (((listed c).take most).map ints) → N C 18 R k s h') : W C 18 R (.rangeFunc (.tmp 8) #[9] A B) (.blk 0 :: k) s (H0 most c) := by
  obtain ⟨r, h', hc, st, outv, hst, h5, h2, ho, _⟩ := all1_call _ most hR hm c hne hcl
  have hf : C.P.funcs[18]? = some Try.f18 := Try.func18
  have hg : ev s (.tmp 8) = some (.func 36 [.ptr 3 0]) := by rw [ev_tmp, h8]
  have hb : hasBody C.P 36 = true := by kernel_rfl
  have h2' : (h'.set 5 (.loop ⟨18, s, 19, #[9], A, B⟩ .over))[2]? = some (.cells [outv] .live) := by simp [h2]
  have ho' : OwnR 22 (h'.set 5 (.loop ⟨18, s, 19, #[9], A, B⟩ .over)) outv (((listed c).take most).map ints) := by
    refine ho.keep (.set _ _ _) fun i hi e => ?_
    simp only [Option.some.injEq] at e
    subst e
    rcases ho with rfl | ⟨j, rfl, hj⟩
    · cases hi
    · simp only [idOf, Option.some.injEq] at hi; subst hi; rw [h5] at hj; cases hj
  rcases hst with rfl | rfl
  · exact W_range_on hg hf hb hc h5 (hk _ _ h2' ho')
  · refine W_range_out (id := 0) hg hf hb hc h5 ?_
    exact (X_blk 0 0).2 (by rw [if_pos rfl]; exact hk _ _ h2' ho')
set_option maxHeartbeats 2000000 in
theorem collect_ne (most : Nat) (hm : most ≤ 1001) (c : List Int) (hne : c ≠ []) (hcl : c.length ≤ 1000) : CallP C 18 [ints c, .int .i64 most] = some (rows ((listed c).take most)) := by
  refine CallP_W rfl Try.func18 rfl (by kernel_rfl) (by simp [Try.f18]) fun R hRR => ?_
  have hbx : boxV C.P [] 3 (.int .i64 most) = some (.ptr 0 0, [.cells [.int .i64 most] .live]) := by simp [boxV, s3, AV.cells, notTuple]
  have c33 : callV C [.cells [.int .i64 most] .live, .tok 0 22, .cells [.isl [] .full] .live] (.func 33 []) (some [ints c]) = some (.func 36 [.ptr 3 0], H0 most c) := by
    have hb : hasBody C.P 33 = true := by kernel_rfl
    simp only [callV, hb, if_true, List.append_nil]
    unfold applyCall
    rw [show C.mode 33 = .openH from rfl]
    exact all_call most c hne hcl
  simp [go_sem, hbx, zv24, AV.cells, c33]
  refine W_collect most hm c hne hcl (by simp [go_sem]) (round_ok _ most hm rfl rfl rfl (by dsimp only; simp [go_sem]) (by dsimp only; simp [go_sem]) ⟨by kernel_rfl, by kernel_rfl⟩ ?_ ?_) ?_
  · intro R s h hr
    dsimp only
    simp [go_sem]
    exact hr
  · intro R s h out outv p v g3 g5 g6 h0 h2 ho hv hom hp n1 n2 hL r1 r2
    dsimp only
    obtain ⟨xo, hxo⟩ := ho.isl
    have hl2 : loadV C.P h 24 (.ptr 2 0) = some outv := by
      subst hxo; simp [loadV, h2, cellsAt, a24, s24]
    have hl0 : loadV C.P h 3 (.ptr 0 0) = some (.int .i64 most) := by simp [loadV, h0, cellsAt, a3, s3]
    have hln : lenV C.P 24 outv = some (.int .i64 out.length) := by subst hxo; exact len24' out xo
    by_cases he : out.length = most
    · have he' : (out.length : Int) = most := by omega
      simp [go_sem, g3, g5, hl2, hl0, hln, he']
      exact r1 he _
    · have he' : ¬ (out.length : Int) = most := by omega
      obtain ⟨h3, e3, f3⟩ := build_rowM hv (by omega)
      have ho3 : OwnR 22 h3 outv (out.map ints) := ho.keep f3 fun i hi e => row_own hv ho i e hi
      obtain ⟨v4, h4, e4, o4, f4, i4⟩ := append22 (ys := [p]) (x := .full) ho3 (by simp; omega)
      have k2 : h4[2]? = some (.cells [outv] .live) := by
        have q3 := f3.get h2 (fun e => by have := n2 2 e; omega)
        exact f4.get q3 (fun e => by have := n1 2 e; omega)
      have hlt := (List.getElem?_eq_some_iff.1 k2).1
      have hlen : h.length ≤ h4.length := Nat.le_trans f3.1 f4.1
      obtain ⟨x4, hx4⟩ := o4.isl
      have n4 : ∀ i, idOf v4 = some i → 11 ≤ i := by
        intro i hi
        rcases i4 with e | ⟨_, e⟩
        · exact n1 i (by rw [← e]; exact hi)
        · rw [e] at hi; simp only [Option.some.injEq] at hi; have := f3.1; omega
      have hst : storeV C.P h4 24 (.ptr 2 0) v4 = some (h4.set 2 (.cells [v4] .live)) := by
        subst hx4; simp [storeV, k2, s24]
      have hw : C.wr 18 17 = false := rfl
      simp only [List.map_cons, List.map_nil] at e4
      have hnt : notTuple v = true := by rcases hv with ⟨_, rfl⟩ | ⟨_, _, rfl, _⟩ <;> rfl
      simp [go_sem, g3, g5, g6, hl2, hl0, hln, he', hnt, e3, hw, e4, hst]
      refine r2 he _ _ v4 (o4.keep (.set _ _ _) (fun i hi e => by have := n4 i hi; simp only [Option.some.injEq] at e; omega)) n4 (by simpa using hlen) (by simp [hlt]) fun j hj hj2 => ?_
      rw [List.getElem?_set_ne (by omega)]
      rw [f4.2 j (by have := f3.1; omega) (fun e => by have := n1 j e; omega), f3.2 j (by omega) (fun e => by have := n2 j e; omega)]
  · intro h' outv h2 ho
    obtain ⟨xo, hxo⟩ := ho.isl
    have hl2 : loadV C.P h' 24 (.ptr 2 0) = some outv := by
      subst hxo; simp [loadV, h2, cellsAt, a24, s24]
    simp [go_sem, hl2]
    refine hRR _ _ _ (.inr rfl) ⟨_, rfl, ?_⟩
    simp only [go_sem, reduceIte]
    rw [hxo]
    exact snap_dat rfl rfl
theorem collect_nil (most : Nat) (hm : most = 50 ∨ most = 1001) : CallP C 18 [ints [], .int .i64 most] = some (rows ((listed []).take most)) := by
  rcases hm with rfl | rfl
  · exact CallP_out (n := 1000) (by kernel_rfl)
  · exact CallP_out (n := 1000) (by kernel_rfl)
theorem collect_call (most : Nat) (hm : most = 50 ∨ most = 1001) (c : List Int) (hcl : c.length ≤ 1000) : CallP C 18 [ints c, .int .i64 most] = some (rows ((listed c).take most)) := by
  by_cases h : c = []
  · subst h; exact collect_nil most hm
  · exact collect_ne most (by omega) c h hcl
theorem countR_call (c : List Int) : CallP C 16 [ints c] = some (.tuple [.int .i64 (if check c = 0 then count c else 0), .int .i64 (check c)]) := by
  refine CallP_W rfl Try.func16 rfl (by kernel_rfl) (by simp [Try.f16]) fun R hR => ?_
  have c23 := fun h => call23 c h
  by_cases hc : check c = 0
  · have c26 := fun h => call26i (h := h) (vec_of_check c hc).sm
    simp [go_sem, c23, hc, c26]
    refine hR _ _ _ (.inr rfl) ⟨_, rfl, ?_⟩
    simp [go_sem, hc]
    exact snap_dat rfl rfl
  · simp [go_sem, c23, hc]
    refine hR _ _ _ (.inr rfl) ⟨_, rfl, ?_⟩
    simp [go_sem, hc]
    exact snap_dat rfl rfl
theorem countS_call (c : List Int) : CallP C 17 [ints c] = some (.tuple [.int .i64 (if check c = 0 then count c else 0), .int .i64 (check c)]) := by
  refine CallP_W rfl Try.func17 rfl (by kernel_rfl) (by simp [Try.f17]) fun R hR => ?_
  have c24 := fun h => call24 c h
  by_cases hc : check c = 0
  · have c28 := fun h => call28 (h := h) (vec_of_check c hc).sm
    simp [go_sem, c24, hc, c28]
    refine hR _ _ _ (.inr rfl) ⟨_, rfl, ?_⟩
    simp [go_sem, hc]
    exact snap_dat rfl rfl
  · simp [go_sem, c24, hc]
    refine hR _ _ _ (.inr rfl) ⟨_, rfl, ?_⟩
    simp [go_sem, hc]
    exact snap_dat rfl rfl
theorem call16 (c : List Int) (h : H) : callV C h (.func 16 []) (some [ints c]) = some (.tuple [.int .i64 (if check c = 0 then count c else 0), .int .i64 (check c)], h) := callV_strip (by kernel_rfl) rfl rfl rfl (by simp) (countR_call c)
theorem call17 (c : List Int) (h : H) : callV C h (.func 17 []) (some [ints c]) = some (.tuple [.int .i64 (if check c = 0 then count c else 0), .int .i64 (check c)], h) := callV_strip (by kernel_rfl) rfl rfl rfl (by simp) (countS_call c)
theorem bin_eqb (x y : Operand) (a b : Bool) : binV C.P .eql 4 x y (.bool a) (.bool b) = some (.bool (a == b)) := by
  cases a <;> cases b <;> kernel_rfl
theorem RowM.call2 {h : H} {v : AV} {l : List Int} (r : RowM h v l) (hs : l.length ≤ 100000) {f : FuncId} {rest rest' : List AV} {x : AV} (hb : hasBody C.P f = true) (hm : C.mode f = .strip)
    (hd : dats rest = some rest') (hsh : rest.all short = true) (hr : rest.length < 80000) (hv : CallP C f (ints l :: rest') = some x) : ∃ h', callV C h (.func f []) (some (v :: rest)) = some (x, h') := by
  rcases r with ⟨rfl, rfl⟩ | ⟨id, cap, rfl, hid⟩
  · exact ⟨h, callV_strip (args' := ints [] :: rest') hb hm (by simp only [dats, dat, dat1, hd]; rfl) (by simp only [List.all_cons, hsh]; rfl) (by simp only [List.length_cons]; omega) hv⟩
  · refine callV_row2 hb hm hid (by simp) (dats1_ints l) (by simp; omega) hd hsh (by omega) ?_
    rw [chunk_ints]; exact hv
theorem listed_length (c : List Int) (hc : check c = 0) : ((listed c).length : Int) = count c := by
  have : listed c = orders c := by simp [listed, hc]
  rw [this]; exact orders_length _ _ (vec_of_check c hc) rfl
theorem listed_rows (c : List Int) : ∀ x ∈ listed c, x.length ≤ 12 := by
  intro x hx
  by_cases hc : check c = 0
  · have : listed c = orders c := by simp [listed, hc]
    rw [this] at hx
    have h1 := orders_len _ _ x hx
    have h2 := (vec_of_check c hc).2.2
    omega
  · simp [listed, hc] at hx
theorem listed_sorted (c : List Int) : (listed c).Pairwise fun a b => cmpL b a ≥ 0 := by
  unfold listed
  split
  · exact orders_sorted _ _
  · simp
set_option maxHeartbeats 1000000 in
theorem law4 (c : List Int) : CallP C 6 [ints c] = some (.bool true) := by
  refine CallP_W rfl Try.func6 rfl (by kernel_rfl) (by simp [Try.f6]) fun R hR => ?_
  have c7 := fun h => call7 h
  by_cases hl : c.length > 10
  · have hl' : 10 < (c.length : Int) := by omega
    simp [go_sem, c7, len_ints, hl']
    refine hR _ _ _ (.inr rfl) ⟨_, rfl, ?_⟩
    simp [go_sem]
    exact snap_dat rfl rfl
  · have hl' : ¬ 10 < (c.length : Int) := by omega
    have c16 := fun h => call16 c h
    have c17 := fun h => call17 c h
    obtain ⟨v, h1, e1, r1, f1, n1⟩ := clone_wr [] c (by omega)
    have hsml : ∀ m : Nat, m ≤ 1001 → ∀ x ∈ (listed c).take m, x.length ≤ 1000000 := fun m _ x hx => by have := listed_rows c x (List.mem_of_mem_take hx); omega
    by_cases hbig : check c ≠ 0 ∨ count c > 1000
    · obtain ⟨h2, e2⟩ := r1.call2 (f := 18) (rest := [.int .i64 ((50 : Nat) : Int)]) (rest' := [.int .i64 ((50 : Nat) : Int)]) (by omega) (by kernel_rfl) rfl rfl rfl (by simp) (collect_call 50 (.inl rfl) c (by omega))
      have c20 := fun h => call20 ((listed c).take 50) h (by simp; omega) (hsml 50 (by omega)) ((listed_sorted c).sublist (List.take_sublist _ _))
      have hln : lenV C.P 24 (rows ((listed c).take 50)) = some (.int .i64 ((listed c).take 50).length) := len24' _ .unk
      have hz : decide ((((listed c).take 50).length : Int) = 0) = decide (check c ≠ 0) := by
        by_cases hc : check c = 0
        · have h1 := listed_length c hc
          have h2 := (count_pos (vec_of_check c hc)).1
          have : ¬ (((listed c).take 50).length : Int) = 0 := by rw [List.length_take]; omega
          rw [decide_eq_decide]
          exact ⟨fun e => absurd e this, fun e => absurd hc e⟩
        · have : listed c = [] := by simp [listed, hc]
          simp [this, hc]
      generalize hrr : rows ((listed c).take 50) = rr at c20 e2 hln
      generalize (((listed c).take 50).length : Int) = n at hz hln
      have e2' : callV C h1 (.func 18 []) (some [v, .int .i64 50]) = some (rr, h2) := e2
      by_cases hc : check c = 0
      · have hb : 1000 < count c := by omega
        have hn : ¬ n = 0 := by intro e; rw [decide_eq_decide] at hz; exact (hz.1 e) hc
        simp [go_sem, c7, len_ints, hl', c16, c17, hc, hb, e1, e2', hln, hn, bin_eqb, c20]
        refine hR _ _ _ (.inr rfl) ⟨_, rfl, ?_⟩
        simp [go_sem]
        exact snap_dat rfl rfl
      · have hn : n = 0 := by rw [decide_eq_decide] at hz; exact hz.2 hc
        simp [go_sem, c7, len_ints, hl', c16, c17, hc, e1, e2', hln, hn, bin_eqb, c20]
        refine hR _ _ _ (.inr rfl) ⟨_, rfl, ?_⟩
        simp [go_sem]
        exact snap_dat rfl rfl
    · have hc : check c = 0 := by
        by_cases h : check c = 0
        · exact h
        · exact absurd (.inl h) hbig
      have hb : ¬ 1000 < count c := fun h => hbig (.inr h)
      have hv := vec_of_check c hc
      have hli : listed c = orders c := by simp [listed, hc]
      have hll := listed_length c hc
      obtain ⟨h2, e2⟩ := r1.call2 (f := 18) (rest := [.int .i64 ((1001 : Nat) : Int)]) (rest' := [.int .i64 ((1001 : Nat) : Int)]) (by omega) (by kernel_rfl) rfl rfl rfl (by simp) (collect_call 1001 (.inr rfl) c (by omega))
      rw [List.take_of_length_le (by omega), hli] at e2
      rw [hli] at hll
      have hlr : ∀ x ∈ orders c, x.length ≤ 12 := by rw [← hli]; exact listed_rows c
      have c22 : ∀ h, callV C h (.func 22 []) (some [ints c]) = some (rows (orders c), h) := fun h => callV_strip (by kernel_rfl) rfl rfl rfl (by simp) (orders_call _ c hv rfl (by omega))
      have c10 := fun h => call10 (orders c) (orders c) h (by omega) (fun x hx => by have := hlr x hx; omega)
      generalize hrr : rows (orders c) = rr at c22 e2 c10
      have e2' : callV C h1 (.func 18 []) (some [v, .int .i64 1001]) = some (rr, h2) := e2
      simp [go_sem, c7, len_ints, hl', c16, c17, hc, hb, e1, e2', c22, c10]
      refine hR _ _ _ (.inr rfl) ⟨_, rfl, ?_⟩
      simp [go_sem]
      exact snap_dat rfl rfl
end Go.V37
