/- Terms: sizes and the order. The plain law, no program in sight. -/
import Derived.Lib.Bytealg
namespace TL
open Go Go.Lib

def sgn (a b : Int) : Int := if a < b then -1 else if b < a then 1 else 0
/-- The first number that is not 0. -/
def thn (c d : Int) : Int := if c = 0 then d else c
def Tri (p q r : Int) : Prop := (p = 0 → r = q) ∧ (q = 0 → r = p) ∧ (p < 0 → q < 0 → r < 0)

theorem tri_thn {p q r p' q' r' : Int} (h : Tri p q r) (h' : Tri p' q' r') : Tri (thn p p') (thn q q') (thn r r') := by
  obtain ⟨a, b, c⟩ := h
  obtain ⟨a', b', c'⟩ := h'
  unfold thn
  by_cases hp : p = 0
  · have hr := a hp
    by_cases hq : q = 0
    · rw [if_pos hp, if_pos hq, if_pos (hr.trans hq)]
      exact ⟨a', b', c'⟩
    · rw [if_pos hp, if_neg hq, if_neg (by rw [hr]; exact hq)]
      exact ⟨fun _ => hr, fun e => absurd e hq, fun _ e => by rw [hr]; exact e⟩
  · by_cases hq : q = 0
    · have hr := b hq
      rw [if_neg hp, if_pos hq, if_neg (by rw [hr]; exact hp)]
      exact ⟨fun e => absurd e hp, fun _ => hr, fun e _ => by rw [hr]; exact e⟩
    · rw [if_neg hp, if_neg hq]
      refine ⟨fun e => absurd e hp, fun e => absurd e hq, fun e e' => ?_⟩
      have := c e e'
      rw [if_neg (by omega)]
      exact this
theorem tri_sgn (a b c : Int) : Tri (sgn a b) (sgn b c) (sgn a c) := by
  unfold Tri sgn
  refine ⟨?_, ?_, ?_⟩ <;> repeat (first | split | (intro)) <;> omega
theorem sgn_zero {a b : Int} : sgn a b = 0 ↔ a = b := by
  unfold sgn; split
  · omega
  · split <;> omega
theorem sgn_anti (a b : Int) : sgn b a = -sgn a b := by unfold sgn; split <;> split <;> (try split) <;> omega
theorem sgn_range (a b : Int) : sgn a b = -1 ∨ sgn a b = 0 ∨ sgn a b = 1 := by
  unfold sgn; split
  · omega
  · split <;> omega
theorem thn_zero {c d : Int} : thn c d = 0 ↔ c = 0 ∧ d = 0 := by unfold thn; split <;> omega
theorem thn_anti {c d c' d' : Int} (h : c' = -c) (h' : d' = -d) : thn c' d' = -thn c d := by unfold thn; split <;> split <;> omega
theorem thn_range {c d : Int} (h : c = -1 ∨ c = 0 ∨ c = 1) (h' : d = -1 ∨ d = 0 ∨ d = 1) : thn c d = -1 ∨ thn c d = 0 ∨ thn c d = 1 := by unfold thn; split <;> omega

/-! names -/
theorem cb_cons (a b : UInt8) (x y : List UInt8) : compareBytes (a :: x) (b :: y) = thn (sgn a.toNat b.toNat) (compareBytes x y) := by
  rw [compareBytes]
  unfold thn sgn
  simp only [UInt8.lt_iff_toNat_lt, Int.ofNat_lt]
  split
  · simp
  · split
    · simp
    · simp
theorem cb_zero : ∀ {x y : List UInt8}, compareBytes x y = 0 ↔ x = y
  | [], [] => by simp [compareBytes]
  | [], _ :: _ => by simp [compareBytes]
  | _ :: _, [] => by simp [compareBytes]
  | a :: x, b :: y => by
    rw [cb_cons, thn_zero, sgn_zero, cb_zero, List.cons.injEq, Int.ofNat_inj, UInt8.toNat_inj]
theorem cb_anti : ∀ (x y : List UInt8), compareBytes y x = -compareBytes x y
  | [], [] => by simp [compareBytes]
  | [], _ :: _ => by simp [compareBytes]
  | _ :: _, [] => by simp [compareBytes]
  | a :: x, b :: y => by rw [cb_cons, cb_cons]; exact thn_anti (sgn_anti _ _) (cb_anti x y)
theorem cb_range : ∀ (x y : List UInt8), compareBytes x y = -1 ∨ compareBytes x y = 0 ∨ compareBytes x y = 1
  | [], [] => by simp [compareBytes]
  | [], _ :: _ => by simp [compareBytes]
  | _ :: _, [] => by simp [compareBytes]
  | a :: x, b :: y => by rw [cb_cons]; exact thn_range (sgn_range _ _) (cb_range x y)
theorem cb_tri : ∀ (x y z : List UInt8), Tri (compareBytes x y) (compareBytes y z) (compareBytes x z)
  | [], [], [] => by simp [compareBytes, Tri]
  | [], [], _ :: _ => by simp [compareBytes, Tri]
  | [], _ :: _, [] => by simp [compareBytes, Tri]
  | _ :: _, [], [] => by simp [compareBytes, Tri]
  | _ :: _, [], _ :: _ => by simp [compareBytes, Tri]
  | a :: x, b :: y, [] => by
    simp only [compareBytes, Tri]
    rcases cb_range (a :: x) (b :: y) with h | h | h <;> simp_all [compareBytes] <;> omega
  | [], b :: y, c :: z => by
    simp only [compareBytes, Tri]
    rcases cb_range (b :: y) (c :: z) with h | h | h <;> simp_all [compareBytes] <;> omega
  | a :: x, b :: y, c :: z => by
    rw [cb_cons, cb_cons, cb_cons]
    exact tri_thn (tri_sgn _ _ _) (cb_tri x y z)

/-! terms -/
inductive T where
  | mk (kind : Int) (name : ByteArray) (sort : Int) (kids : List T)
  deriving Inhabited
def T.kind : T → Int | .mk k _ _ _ => k
def T.name : T → ByteArray | .mk _ n _ _ => n
def T.sort : T → Int | .mk _ _ s _ => s
def T.kids : T → List T | .mk _ _ _ l => l

mutual
def T.size : T → Nat
  | .mk _ _ _ l => sizes l + 1
def sizes : List T → Nat
  | [] => 0
  | t :: l => t.size + sizes l
end
theorem size_pos (t : T) : 0 < t.size := by cases t; rw [T.size]; omega
theorem len_sizes : ∀ l : List T, l.length ≤ sizes l
  | [] => by simp [sizes]
  | t :: l => by rw [sizes, List.length_cons]; have := size_pos t; have := len_sizes l; omega
theorem sizes_eq : ∀ l : List T, sizes l = (l.map T.size).sum
  | [] => rfl
  | t :: l => by rw [sizes, sizes_eq l]; simp
theorem size_kids (t : T) : t.size = sizes t.kids + 1 := by cases t; rfl
theorem take_sizes {l : List T} {k : Nat} (hk : k < l.length) : sizes (l.take (k + 1)) = sizes (l.take k) + l[k].size := by
  rw [sizes_eq, sizes_eq, List.take_succ_eq_append_getElem hk, List.map_append, List.sum_append]; simp
theorem take_sizes_le (l : List T) (k : Nat) : sizes (l.take k) ≤ sizes l := by
  rw [sizes_eq, sizes_eq]
  conv => rhs; rw [← List.take_append_drop k l]
  rw [List.map_append, List.sum_append]; omega
theorem kid_size {t k : T} (h : k ∈ t.kids) : k.size < t.size := by
  rw [size_kids t]
  generalize t.kids = l at h
  induction l with
  | nil => cases h
  | cons a l ih =>
    rw [sizes]
    rcases List.mem_cons.mp h with rfl | h
    · omega
    · have := ih h; omega
/-- Induction over terms. -/
theorem T.ind {p : T → Prop} (h : ∀ t, (∀ k ∈ t.kids, p k) → p t) (t : T) : p t := by
  generalize hn : t.size = n
  induction n using Nat.strongRecOn generalizing t with
  | _ n ih => exact h t fun k hk => ih k.size (by have := kid_size hk; omega) k rfl
mutual
def T.depth : T → Nat
  | .mk _ _ _ l => depths l + 1
def depths : List T → Nat
  | [] => 0
  | t :: l => max t.depth (depths l)
end
mutual
def T.cmp : T → T → Int
  | .mk k n s l, .mk k' n' s' l' =>
    thn (sgn (sizes l + 1 : Nat) (sizes l' + 1 : Nat)) (thn (sgn k k') (thn (compareBytes n.data.toList n'.data.toList)
      (thn (sgn s s') (thn (sgn l.length l'.length) (cmps l l')))))
def cmps : List T → List T → Int
  | [], [] => 0
  | [], _ :: _ => -1
  | _ :: _, [] => 1
  | t :: l, t' :: l' => thn (t.cmp t') (cmps l l')
end

theorem name_inj {a b : ByteArray} : a.data.toList = b.data.toList ↔ a = b :=
  ⟨fun h => by cases a; cases b; simp only [ByteArray.mk.injEq]; exact Array.toList_inj.mp h, fun h => by rw [h]⟩

mutual
theorem cmp_zero : ∀ {a b : T}, a.cmp b = 0 ↔ a = b
  | .mk k n s l, .mk k' n' s' l' => by
    rw [T.cmp, thn_zero, thn_zero, thn_zero, thn_zero, thn_zero, sgn_zero, sgn_zero, cb_zero, sgn_zero, sgn_zero, cmps_zero, name_inj, T.mk.injEq]
    constructor
    · rintro ⟨-, h1, h2, h3, -, h4⟩; exact ⟨h1, h2, h3, h4⟩
    · rintro ⟨h1, h2, h3, h4⟩; subst h4; exact ⟨rfl, h1, h2, h3, rfl, rfl⟩
theorem cmps_zero : ∀ {l m : List T}, cmps l m = 0 ↔ l = m
  | [], [] => by simp [cmps]
  | [], _ :: _ => by simp [cmps]
  | _ :: _, [] => by simp [cmps]
  | t :: l, t' :: l' => by rw [cmps, thn_zero, cmp_zero, cmps_zero, List.cons.injEq]
end
mutual
theorem cmp_anti : ∀ (a b : T), b.cmp a = -a.cmp b
  | .mk k n s l, .mk k' n' s' l' => by
    rw [T.cmp, T.cmp]
    exact thn_anti (sgn_anti _ _) (thn_anti (sgn_anti _ _) (thn_anti (cb_anti _ _) (thn_anti (sgn_anti _ _) (thn_anti (sgn_anti _ _) (cmps_anti l l')))))
theorem cmps_anti : ∀ (l m : List T), cmps m l = -cmps l m
  | [], [] => by simp [cmps]
  | [], _ :: _ => by simp [cmps]
  | _ :: _, [] => by simp [cmps]
  | t :: l, t' :: l' => by rw [cmps, cmps]; exact thn_anti (cmp_anti t t') (cmps_anti l l')
end
mutual
theorem cmp_range : ∀ (a b : T), a.cmp b = -1 ∨ a.cmp b = 0 ∨ a.cmp b = 1
  | .mk k n s l, .mk k' n' s' l' => by
    rw [T.cmp]
    exact thn_range (sgn_range _ _) (thn_range (sgn_range _ _) (thn_range (cb_range _ _) (thn_range (sgn_range _ _) (thn_range (sgn_range _ _) (cmps_range l l')))))
theorem cmps_range : ∀ (l m : List T), cmps l m = -1 ∨ cmps l m = 0 ∨ cmps l m = 1
  | [], [] => by simp [cmps]
  | [], _ :: _ => by simp [cmps]
  | _ :: _, [] => by simp [cmps]
  | t :: l, t' :: l' => by rw [cmps]; exact thn_range (cmp_range t t') (cmps_range l l')
end
mutual
theorem cmp_tri : ∀ (a b c : T), Tri (a.cmp b) (b.cmp c) (a.cmp c)
  | .mk k n s l, .mk k' n' s' l', .mk k'' n'' s'' l'' => by
    rw [T.cmp, T.cmp, T.cmp]
    exact tri_thn (tri_sgn _ _ _) (tri_thn (tri_sgn _ _ _) (tri_thn (cb_tri _ _ _) (tri_thn (tri_sgn _ _ _) (tri_thn (tri_sgn _ _ _) (cmps_tri l l' l'')))))
theorem cmps_tri : ∀ (l m n : List T), Tri (cmps l m) (cmps m n) (cmps l n)
  | [], [], [] => by simp [cmps, Tri]
  | [], [], _ :: _ => by simp [cmps, Tri]
  | [], _ :: _, [] => by simp [cmps, Tri]
  | _ :: _, [], [] => by simp [cmps, Tri]
  | _ :: _, [], _ :: _ => by simp [cmps, Tri]
  | a :: x, b :: y, [] => by
    have h := cmps_range (a :: x) (b :: y)
    show (_ = 0 → (1 : Int) = 1) ∧ ((1 : Int) = 0 → 1 = _) ∧ (_ < 0 → (1 : Int) < 0 → (1 : Int) < 0)
    exact ⟨fun _ => rfl, fun e => absurd e (by decide), fun _ e => e⟩
  | [], b :: y, c :: z => by
    have h := cmps_range (b :: y) (c :: z)
    show ((-1 : Int) = 0 → (-1 : Int) = _) ∧ (_ = 0 → (-1 : Int) = -1) ∧ ((-1 : Int) < 0 → _ < 0 → (-1 : Int) < 0)
    exact ⟨fun e => absurd e (by decide), fun _ => rfl, fun e _ => e⟩
  | a :: x, b :: y, c :: z => by
    rw [cmps, cmps, cmps]
    exact tri_thn (cmp_tri a b c) (cmps_tri x y z)
end
instance : DecidableEq T := fun a b => decidable_of_iff (a.cmp b = 0) cmp_zero
theorem cmp_refl (a : T) : a.cmp a = 0 := cmp_zero.mpr rfl
theorem cmp_trans {a b c : T} (h : a.cmp b < 0) (h' : b.cmp c < 0) : a.cmp c < 0 := (cmp_tri a b c).2.2 h h'
theorem cmp_gt {a b : T} (h : a.cmp b < 0) : 0 < b.cmp a := by rw [cmp_anti a b]; omega
theorem cmp_lt {a b : T} (h : 0 < a.cmp b) : b.cmp a < 0 := by rw [cmp_anti a b]; omega
end TL

/- Sorted rows of terms: the plain law. -/
namespace TL
/-- A row of terms, sorted. -/
def srt (l : List T) : List T := l.mergeSort fun x y => !decide (y.cmp x < 0)
theorem srt_perm (l : List T) : (srt l).Perm l := List.mergeSort_perm _ _
theorem srt_len (l : List T) : (srt l).length = l.length := (srt_perm l).length_eq
theorem mem_srt {l : List T} {t : T} : t ∈ srt l ↔ t ∈ l := (srt_perm l).mem_iff
def le (x y : T) : Prop := ¬ y.cmp x < 0
theorem le_iff {x y : T} : le x y ↔ x.cmp y ≤ 0 := by
  unfold le; rw [cmp_anti x y]; omega
theorem le_antisymm {x y : T} (a : le x y) (b : le y x) : x = y := by
  rw [le_iff] at a b; rw [cmp_anti x y] at b
  exact cmp_zero.1 (by omega)
theorem le_trans {x y z : T} (a : le x y) (b : le y z) : le x z := by
  rw [le_iff] at *
  have t := cmp_tri x y z
  by_cases e : x.cmp y = 0
  · rw [t.1 e]; exact b
  · by_cases e2 : y.cmp z = 0
    · rw [t.2.1 e2]; exact a
    · exact Int.le_of_lt (t.2.2 (by omega) (by omega))
theorem le_total (x y : T) : le x y ∨ le y x := by
  rw [le_iff, le_iff, cmp_anti x y]; omega
theorem srt_sorted (l : List T) : (srt l).Pairwise le := by
  have := List.pairwise_mergeSort (le := fun x y : T => !decide (y.cmp x < 0)) (fun a b c h1 h2 => by
    have := le_trans (x := a) (y := b) (z := c) (by simpa [le] using h1) (by simpa [le] using h2)
    simpa [le] using this) (fun a b => by
    have := le_total a b
    simpa [le] using this) l
  exact this.imp (fun h => by simpa [le] using h)
theorem perm_sorted_eq {l m : List T} (p : l.Perm m) (a : l.Pairwise le) (b : m.Pairwise le) : l = m :=
  List.Perm.eq_of_pairwise (le := le) (fun _ _ _ _ h1 h2 => le_antisymm h1 h2) a b p
end TL
