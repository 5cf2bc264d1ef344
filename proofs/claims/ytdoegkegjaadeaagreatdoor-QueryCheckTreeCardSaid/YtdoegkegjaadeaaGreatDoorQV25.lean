/- Further rules of the walk: constants that are assigned, functions that are made. -/
import Derived.Test.YtdoegkegjaadeaaGreatDoorQV24
namespace Go.V
open Go
section
variable {C : Cfg} {cf : FuncId} {s : PT} {h : H} {ops : Array Oper} {K : PT → H → Prop} {d : Tmp} {ty : TypeId} {p : String} {af : Array Edge} {l : List Oper}
@[go_sem] theorem OWassign_nilFunc : OW C cf ops (⟨some d, .assign (.const .nilFunc), ty, p, af, none⟩ :: l) s h K ↔ OW C cf ops l (s.set d .nilFunc) h K := by
  rw [OW_pureN rfl rfl]; simp [opN, ev, ofConst, ofScalar]
@[go_sem] theorem OWassign_nilptr : OW C cf ops (⟨some d, .assign (.const (.pointer none)), ty, p, af, none⟩ :: l) s h K ↔ OW C cf ops l (s.set d .nilptr) h K := by
  rw [OW_pureN rfl rfl]; simp [opN, ev, ofConst, ofScalar]
@[go_sem] theorem OWassign_str (b : ByteArray) : OW C cf ops (⟨some d, .assign (.const (.string b)), ty, p, af, none⟩ :: l) s h K ↔ OW C cf ops l (s.set d (.str b)) h K := by
  rw [OW_pureN rfl rfl]; simp [opN, ev, ofConst, ofScalar]
@[go_sem] theorem ev_nilFunc : ev s (.const .nilFunc) = some .nilFunc := (rfl)
@[go_sem] theorem OWmakeFunc (f : FuncId) (cap : List Operand) : OW C cf ops (⟨some d, .makeFunc (.func f) #[] cap.toArray, ty, p, af, none⟩ :: l) s h K ↔ bO (bi1 (evs s cap) fun l => some (.func f l)) fun v => OW C cf ops l (s.set d v) h K :=
  OWn (by simp only [opN, bi1]; cases evs s cap <;> rfl) rfl rfl
@[go_sem] theorem OWmakeMap (t : TypeId) : OW C cf ops (⟨some d, .makeMap t none, ty, p, af, none⟩ :: l) s h K ↔ OW C cf ops l (s.set d (.mp h.length)) (h ++ [.map []]) K := by
  rw [OW_act rfl]
  simp only [opA, putV_some]
  constructor
  · rintro ⟨v, h', hv, hk⟩; simp only [Option.some.injEq, Prod.mk.injEq] at hv; obtain ⟨rfl, rfl⟩ := hv; exact hk
  · exact fun hk => ⟨_, _, rfl, hk⟩
@[go_sem] theorem OWlookup (t : TypeId) (x y : Operand) (ok : Bool) : OW C cf ops (⟨some d, .lookup t x y ok, ty, p, af, none⟩ :: l) s h K ↔ bO (bi2 (ev s x) (ev s y) fun a b => lookupV C.P h t a b ok) fun v => OW C cf ops l (s.set d v) h K := by
  rw [OW_act rfl, bO_iff]
  simp only [opA, putV_some]
  constructor
  · rintro ⟨v, h', hv, hk⟩
    split at hv <;> first | (cases hv; done) | skip
    rename_i a b ha hb
    split at hv <;> first | (cases hv; done) | skip
    rename_i z hz
    simp only [Option.some.injEq, Prod.mk.injEq] at hv; obtain ⟨rfl, rfl⟩ := hv
    exact ⟨z, by rw [ha, hb]; exact hz, hk⟩
  · rintro ⟨z, hz, hk⟩
    cases ha : ev s x with
    | none => rw [ha] at hz; cases hz
    | some a => cases hb : ev s y with
      | none => rw [ha, hb] at hz; cases hz
      | some b => rw [ha, hb] at hz; exact ⟨z, h, by simp only [show lookupV C.P h t a b ok = some z from hz], hk⟩
end
/-- A call that reads a row of one's own; what it answers may be a row. -/
theorem callV_row2 {C : Cfg} {f : FuncId} {h : H} {id len : Nat} {cap : Option Nat} {cs : List AV} {rest rest' : List AV} {v : AV} (hb : hasBody C.P f = true) (hm : C.mode f = .strip) (hid : h[id]? = some (.cells cs .live)) (hl : len ≤ cs.length) (hsc : dats1 cs = some cs) (hc : cs.length < 900000)
    (hd : dats rest = some rest') (hs : rest.all short = true) (hr : rest.length < 90000) (hv : CallP C f (.isl (chunk 1 len cs) .unk :: rest') = some v) :
    ∃ h', callV C h (.func f []) (some (.msl id 0 1 len cap :: rest)) = some (v, h') := by
  obtain ⟨e1, e2⟩ := snap_msl_cons (cap := cap) hid hl hsc hc hd hs hr
  simp only [callV, hb, if_true, List.append_nil]
  unfold applyCall
  rw [hm]
  dsimp only
  rw [e1, e2]
  unfold CallP at hv
  dsimp only
  split at hv <;> first | (cases hv; done) | skip
  rename_i r h1 hx
  rw [hx]
  dsimp only
  unfold finishV stripV
  dsimp only
  rw [hv]
  exact ⟨_, rfl⟩
end Go.V
