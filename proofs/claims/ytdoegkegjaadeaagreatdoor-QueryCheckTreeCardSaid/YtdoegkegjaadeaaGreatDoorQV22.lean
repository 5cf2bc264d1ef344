/- Rows that may be appended to, in a memory of which no more is known than they need; rows of numbers of one's own. -/
import Derived.Test.YtdoegkegjaadeaaGreatDoorQV21
namespace Go.V
open Go
theorem appendW_false (P : Program) (h : H) (t : TypeId) (s x : AV) : appendW P false h t s x = appendV P h t s x := by simp [appendW]

def idOf : AV → Option Nat
  | .isl _ (.tok i) => some i
  | .msl i _ _ _ _ => some i
  | .ptr i _ => some i
  | _ => none
/-- A row that may be appended to. -/
def OwnR (e : TypeId) (h : H) (v : AV) (xs : List AV) : Prop := v = .isl xs .full ∨ ∃ id, v = .isl xs (.tok id) ∧ h[id]? = some (.tok xs.length e)
/-- All objects but one stay as they were. -/
def Keep (h h' : H) (x : Option Nat) : Prop := h.length ≤ h'.length ∧ ∀ j, j < h.length → x ≠ some j → h'[j]? = h[j]?
theorem Keep.refl (h : H) (x : Option Nat) : Keep h h x := ⟨Nat.le_refl _, fun _ _ _ => rfl⟩
theorem Keep.append (h g : H) (x : Option Nat) : Keep h (h ++ g) x := ⟨by simp, fun j hj _ => by rw [List.getElem?_append_left hj]⟩
theorem Keep.set (h : H) (i : Nat) (o : VObj) : Keep h (h.set i o) (some i) := ⟨by simp, fun j hj hn => by rw [List.getElem?_set_ne]; intro e; exact hn (by rw [e])⟩
theorem Keep.get {h h' : H} {x : Option Nat} (k : Keep h h' x) {j : Nat} {o : VObj} (hj : h[j]? = some o) (hn : x ≠ some j) : h'[j]? = some o := by
  rw [k.2 j (List.getElem?_eq_some_iff.1 hj).1 hn]; exact hj
theorem Keep.trans {h h' h2 : H} {x y : Option Nat} (k : Keep h h' x) (k' : Keep h' h2 y) (hy : y = x ∨ y = none ∨ ∃ j, y = some j ∧ h.length ≤ j) : Keep h h2 x := by
  refine ⟨Nat.le_trans k.1 k'.1, fun j hj hn => ?_⟩
  rw [k'.2 j (Nat.lt_of_lt_of_le hj k.1) ?_, k.2 j hj hn]
  rcases hy with rfl | rfl | ⟨i, rfl, hi⟩
  · exact hn
  · exact fun e => by cases e
  · intro e; simp only [Option.some.injEq] at e; omega
theorem OwnR.keep {e : TypeId} {h h' : H} {v : AV} {xs : List AV} {x : Option Nat} (o : OwnR e h v xs) (k : Keep h h' x) (hn : ∀ i, idOf v = some i → x ≠ some i) : OwnR e h' v xs := by
  rcases o with rfl | ⟨id, rfl, hid⟩
  · exact .inl rfl
  · exact .inr ⟨id, rfl, k.get hid (hn id rfl)⟩
theorem OwnR.isl {e : TypeId} {h : H} {v : AV} {xs : List AV} (o : OwnR e h v xs) : ∃ x, v = .isl xs x := by
  rcases o with rfl | ⟨id, rfl, _⟩ <;> exact ⟨_, rfl⟩
theorem OwnR.lt {e : TypeId} {h : H} {v : AV} {xs : List AV} (o : OwnR e h v xs) {i : Nat} (hi : idOf v = some i) : i < h.length := by
  rcases o with rfl | ⟨id, rfl, hid⟩
  · cases hi
  · simp only [idOf, Option.some.injEq] at hi; subst hi; exact (List.getElem?_eq_some_iff.1 hid).1
theorem OwnR.new (e : TypeId) (h : H) : OwnR e (h ++ [.tok 0 e]) (.isl [] (.tok h.length)) [] := .inr ⟨h.length, rfl, by simp⟩
theorem append_own {P : Program} {t e : TypeId} {sz by_ : Nat} (hu : P.underlying t = some (.slice e)) (hs : sizeV P e = some sz) (hb : bytesV P e = some by_) (hz : zeroOk P e = true) (h0 : (sz == 0) = false)
    {h : H} {v : AV} {xs ys : List AV} {x : Ext} (o : OwnR e h v xs) (hx : szOk sz xs = true) (hy : szOk sz ys = true) (hl : xs.length + ys.length ≤ 35184372088832 ∧ (xs.length + ys.length) * by_ ≤ 140737488355328) :
    ∃ v' h', appendW P false h t v (.isl ys x) = some (v', h') ∧ OwnR e h' v' (xs ++ ys) ∧ Keep h h' (idOf v) ∧ (idOf v' = idOf v ∨ idOf v = none ∧ idOf v' = some h.length) := by
  have hc : (!zeroOk P e || sz == 0 || !szOk sz ys) = false := by simp [hz, h0, hy]
  have hc2 : (!(decide (xs.length + ys.length ≤ 35184372088832) && decide ((xs.length + ys.length) * by_ ≤ 140737488355328))) = false := by simp [hl]
  rcases o with rfl | ⟨id, rfl, hid⟩
  · cases ys with
    | nil => exact ⟨.isl xs .full, h, by simp only [appendW_false, appendV, hu, hs, hb, elemsV, hc, hx, hc2, Bool.not_true, Bool.false_eq_true, if_false], by simp [OwnR], .refl _ _, .inl rfl⟩
    | cons y ys => exact ⟨.isl (xs ++ y :: ys) (.tok h.length), h ++ [.tok (xs.length + (y :: ys).length) e], by simp only [appendW_false, appendV, hu, hs, hb, elemsV, hc, hx, hc2, Bool.not_true, Bool.false_eq_true, if_false], .inr ⟨_, rfl, by simp⟩, .append _ _ _, .inr ⟨rfl, rfl⟩⟩
  · have hlt := (List.getElem?_eq_some_iff.1 hid).1
    refine ⟨.isl (xs ++ ys) (.tok id), h.set id (.tok (xs.length + ys.length) e), ?_, .inr ⟨id, rfl, by simp [hlt]⟩, .set _ _ _, .inl rfl⟩
    have e : appendW P false h t (.isl xs (.tok id)) (.isl ys x) = appendV P h t (.isl xs (.tok id)) (.isl ys x) := appendW_false _ _ _ _ _
    rw [e]
    simp only [appendV, hu, hs, hb, elemsV, hc, hx, hc2, Bool.not_true, Bool.false_eq_true, if_false, hid, and_self, if_true]
end Go.V
