/- From the value machine to the model, at this seat: what is asked of the program; the copies of empty slices. -/
import Derived.Test.YtdoegkegjaadeaaGreatDoorQSa
import Derived.WalkKit
import Derived.ProofKit
import Derived.Below
import Derived.Shelf.Strings.Builder1
import Derived.Deep.RegionHeld3
import Derived.Laws.IdiomRangeMap
namespace Go.VZ
open Go Go.V Go.Proofs Go.RowKit
def namesOk (P : Program) : Bool := P.funcs.all fun fn => !(fn.name == "runtime.NumGoroutine")
theorem good : Go.V.Good C.P where
  names := fun f fn hf => by
    have h : namesOk Tryz.prog = true := by kernel_rfl
    have := Array.all_eq_true_iff_forall_mem.1 h fn (Array.mem_of_getElem? hf)
    simpa using this
  mixed := by kernel_rfl
theorem run_equalIn_nil_nil (t e d : Nat) (w : World) (hu : Tryz.prog.underlying t = some (.slice e)) : (Op.equalIn (d + 1) t (.slice none 0 0) (.slice none 0 0)).run Tryz.prog w = .ok true w := by
  simp only [Op.equalIn, Sem.run_bind, run_under hu, Result.andThen_ok]; rfl
theorem eq_nilT (t e : Nat) (w : World) (hu : Tryz.prog.underlying t = some (.slice e)) : (binOp .eql t (.slice none 0 0) (.slice none 0 0)).run Tryz.prog w = .ok (.bool true) w := by
  have : Op.equal t (.slice none 0 0) (.slice none 0 0) = Op.equalIn (9999 + 1) t (.slice none 0 0) (.slice none 0 0) := rfl
  simp only [binOp, this, Sem.run_bind, Sem.run_pure, Result.andThen_ok, run_equalIn_nil_nil t e 9999 w hu]
theorem eq_nonT (t e : Nat) (w : World) (a : Addr) (c : Nat) (hu : Tryz.prog.underlying t = some (.slice e)) : (binOp .eql t (.slice (some a) 0 c) (.slice none 0 0)).run Tryz.prog w = .ok (.bool false) w := by
  have : Op.equal t (.slice (some a) 0 c) (.slice none 0 0) = Op.equalIn (9999 + 1) t (.slice (some a) 0 c) (.slice none 0 0) := rfl
  simp only [binOp, this, Sem.run_bind, Sem.run_pure, Result.andThen_ok, run_equalIn_slice_nil 9999 a 0 c hu]
/-- What a function does that copies a slice, where it is empty. -/
def Clones (f : FuncId) : Prop := (∀ w, Calls Tryz.prog f #[.slice none 0 0] w fun e w' => e = .returned (.slice none 0 0) ∧ Grows w w') ∧
  ∀ (a : Addr) (c : Nat) (w : World), Calls Tryz.prog f #[.slice (some a) 0 c] w fun e w' => (∃ b, e = .returned (.slice (some b) 0 0)) ∧ Grows w w'
section
@[local go_sem] theorem eq_nil11 (w : World) : (binOp .eql 22 (.slice none 0 0) (.slice none 0 0)).run Tryz.prog w = .ok (.bool true) w := eq_nilT _ _ w Tryz.underlying22
@[local go_sem] theorem eq_non11 (w : World) (a : Addr) (c : Nat) : (binOp .eql 22 (.slice (some a) 0 c) (.slice none 0 0)).run Tryz.prog w = .ok (.bool false) w := eq_nonT _ _ w a c Tryz.underlying22
theorem clones11 : Clones 11 := by
  constructor
  · intro w
    go_enter Tryz.func11, Tryz.ntmps11
    go_wp2
    go_ret
    exact ⟨rfl, .refl _⟩
  · intro a c w
    go_enter Tryz.func11, Tryz.ntmps11
    go_wp2
    go_ret
    exact ⟨⟨_, rfl⟩, .alloc _ _⟩
end
section
@[local go_sem] theorem eq_nil18 (w : World) : (binOp .eql 42 (.slice none 0 0) (.slice none 0 0)).run Tryz.prog w = .ok (.bool true) w := eq_nilT _ _ w Tryz.underlying42
@[local go_sem] theorem eq_non18 (w : World) (a : Addr) (c : Nat) : (binOp .eql 42 (.slice (some a) 0 c) (.slice none 0 0)).run Tryz.prog w = .ok (.bool false) w := eq_nonT _ _ w a c Tryz.underlying42
theorem clones18 : Clones 18 := by
  constructor
  · intro w
    go_enter Tryz.func18, Tryz.ntmps18
    go_wp2
    go_ret
    exact ⟨rfl, .refl _⟩
  · intro a c w
    go_enter Tryz.func18, Tryz.ntmps18
    go_wp2
    go_ret
    exact ⟨⟨_, rfl⟩, .alloc _ _⟩
end
section
@[local go_sem] theorem eq_nil23 (w : World) : (binOp .eql 47 (.slice none 0 0) (.slice none 0 0)).run Tryz.prog w = .ok (.bool true) w := eq_nilT _ _ w Tryz.underlying47
@[local go_sem] theorem eq_non23 (w : World) (a : Addr) (c : Nat) : (binOp .eql 47 (.slice (some a) 0 c) (.slice none 0 0)).run Tryz.prog w = .ok (.bool false) w := eq_nonT _ _ w a c Tryz.underlying47
theorem clones23 : Clones 23 := by
  constructor
  · intro w
    go_enter Tryz.func23, Tryz.ntmps23
    go_wp2
    go_ret
    exact ⟨rfl, .refl _⟩
  · intro a c w
    go_enter Tryz.func23, Tryz.ntmps23
    go_wp2
    go_ret
    exact ⟨⟨_, rfl⟩, .alloc _ _⟩
end
section
@[local go_sem] theorem eq_nil43 (w : World) : (binOp .eql 50 (.slice none 0 0) (.slice none 0 0)).run Tryz.prog w = .ok (.bool true) w := eq_nilT _ _ w Tryz.underlying50
@[local go_sem] theorem eq_non43 (w : World) (a : Addr) (c : Nat) : (binOp .eql 50 (.slice (some a) 0 c) (.slice none 0 0)).run Tryz.prog w = .ok (.bool false) w := eq_nonT _ _ w a c Tryz.underlying50
theorem clones43 : Clones 43 := by
  constructor
  · intro w
    go_enter Tryz.func43, Tryz.ntmps43
    go_wp2
    go_ret
    exact ⟨rfl, .refl _⟩
  · intro a c w
    go_enter Tryz.func43, Tryz.ntmps43
    go_wp2
    go_ret
    exact ⟨⟨_, rfl⟩, .alloc _ _⟩
end
section
@[local go_sem] theorem eq_nil96 (w : World) : (binOp .eql 33 (.slice none 0 0) (.slice none 0 0)).run Tryz.prog w = .ok (.bool true) w := eq_nilT _ _ w Tryz.underlying33
@[local go_sem] theorem eq_non96 (w : World) (a : Addr) (c : Nat) : (binOp .eql 33 (.slice (some a) 0 c) (.slice none 0 0)).run Tryz.prog w = .ok (.bool false) w := eq_nonT _ _ w a c Tryz.underlying33
theorem clones96 : Clones 96 := by
  constructor
  · intro w
    go_enter Tryz.func96, Tryz.ntmps96
    go_wp2
    go_ret
    exact ⟨rfl, .refl _⟩
  · intro a c w
    go_enter Tryz.func96, Tryz.ntmps96
    go_wp2
    go_ret
    exact ⟨⟨_, rfl⟩, .alloc _ _⟩
end
section
@[local go_sem] theorem eq_nil193 (w : World) : (binOp .eql 23 (.slice none 0 0) (.slice none 0 0)).run Tryz.prog w = .ok (.bool true) w := eq_nilT _ _ w Tryz.underlying23
@[local go_sem] theorem eq_non193 (w : World) (a : Addr) (c : Nat) : (binOp .eql 23 (.slice (some a) 0 c) (.slice none 0 0)).run Tryz.prog w = .ok (.bool false) w := eq_nonT _ _ w a c Tryz.underlying23
theorem clones193 : Clones 193 := by
  constructor
  · intro w
    go_enter Tryz.func193, Tryz.ntmps193
    go_wp2
    go_ret
    exact ⟨rfl, .refl _⟩
  · intro a c w
    go_enter Tryz.func193, Tryz.ntmps193
    go_wp2
    go_ret
    exact ⟨⟨_, rfl⟩, .alloc _ _⟩
end
section
@[local go_sem] theorem eq_nil349 (w : World) : (binOp .eql 248 (.slice none 0 0) (.slice none 0 0)).run Tryz.prog w = .ok (.bool true) w := eq_nilT _ _ w Tryz.underlying248
@[local go_sem] theorem eq_non349 (w : World) (a : Addr) (c : Nat) : (binOp .eql 248 (.slice (some a) 0 c) (.slice none 0 0)).run Tryz.prog w = .ok (.bool false) w := eq_nonT _ _ w a c Tryz.underlying248
theorem clones349 : Clones 349 := by
  constructor
  · intro w
    go_enter Tryz.func349, Tryz.ntmps349
    go_wp2
    go_ret
    exact ⟨rfl, .refl _⟩
  · intro a c w
    go_enter Tryz.func349, Tryz.ntmps349
    go_wp2
    go_ret
    exact ⟨⟨_, rfl⟩, .alloc _ _⟩
end
section
@[local go_sem] theorem eq_nil361 (w : World) : (binOp .eql 314 (.slice none 0 0) (.slice none 0 0)).run Tryz.prog w = .ok (.bool true) w := eq_nilT _ _ w Tryz.underlying314
@[local go_sem] theorem eq_non361 (w : World) (a : Addr) (c : Nat) : (binOp .eql 314 (.slice (some a) 0 c) (.slice none 0 0)).run Tryz.prog w = .ok (.bool false) w := eq_nonT _ _ w a c Tryz.underlying314
theorem clones361 : Clones 361 := by
  constructor
  · intro w
    go_enter Tryz.func361, Tryz.ntmps361
    go_wp2
    go_ret
    exact ⟨rfl, .refl _⟩
  · intro a c w
    go_enter Tryz.func361, Tryz.ntmps361
    go_wp2
    go_ret
    exact ⟨⟨_, rfl⟩, .alloc _ _⟩
end
section
@[local go_sem] theorem eq_nil435 (w : World) : (binOp .eql 359 (.slice none 0 0) (.slice none 0 0)).run Tryz.prog w = .ok (.bool true) w := eq_nilT _ _ w Tryz.underlying359
@[local go_sem] theorem eq_non435 (w : World) (a : Addr) (c : Nat) : (binOp .eql 359 (.slice (some a) 0 c) (.slice none 0 0)).run Tryz.prog w = .ok (.bool false) w := eq_nonT _ _ w a c Tryz.underlying359
theorem clones435 : Clones 435 := by
  constructor
  · intro w
    go_enter Tryz.func435, Tryz.ntmps435
    go_wp2
    go_ret
    exact ⟨rfl, .refl _⟩
  · intro a c w
    go_enter Tryz.func435, Tryz.ntmps435
    go_wp2
    go_ret
    exact ⟨⟨_, rfl⟩, .alloc _ _⟩
end
section
@[local go_sem] theorem eq_nil460 (w : World) : (binOp .eql 402 (.slice none 0 0) (.slice none 0 0)).run Tryz.prog w = .ok (.bool true) w := eq_nilT _ _ w Tryz.underlying402
@[local go_sem] theorem eq_non460 (w : World) (a : Addr) (c : Nat) : (binOp .eql 402 (.slice (some a) 0 c) (.slice none 0 0)).run Tryz.prog w = .ok (.bool false) w := eq_nonT _ _ w a c Tryz.underlying402
theorem clones460 : Clones 460 := by
  constructor
  · intro w
    go_enter Tryz.func460, Tryz.ntmps460
    go_wp2
    go_ret
    exact ⟨rfl, .refl _⟩
  · intro a c w
    go_enter Tryz.func460, Tryz.ntmps460
    go_wp2
    go_ret
    exact ⟨⟨_, rfl⟩, .alloc _ _⟩
end
theorem clones (f : FuncId) (hf : cloneIds.contains f = true) : Clones f := by
  simp only [cloneIds, List.contains_cons, Bool.or_eq_true, beq_iff_eq, List.contains_nil, Bool.false_eq_true, or_false] at hf
  rcases hf with rfl | rfl | rfl | rfl | rfl | rfl | rfl | rfl | rfl | rfl
  · exact clones11
  · exact clones18
  · exact clones23
  · exact clones43
  · exact clones96
  · exact clones193
  · exact clones349
  · exact clones361
  · exact clones435
  · exact clones460
theorem primClone_ok (f : FuncId) : PrimOk Tryz.prog f (primClone f) := by
  intro args h r h' hp B A0 σ w vs hr hl ha
  unfold primClone at hp
  split at hp <;> first | (cases hp; done) | skip
  rename_i hf
  obtain ⟨c1, c2⟩ := clones f hf
  split at hp <;> first | (cases hp; done) | skip
  rename_i x
  simp only [Option.some.injEq, Prod.mk.injEq] at hp
  obtain ⟨rfl, rfl⟩ := hp
  obtain ⟨v, rfl⟩ : ∃ v, vs = #[v] := by
    have : vs.size = 1 := hl
    exact ⟨vs[0], by apply Array.ext <;> simp [this]; intro i hi; subst hi; rfl⟩
  have hv := rel_isl (ha 0 _ v rfl rfl)
  cases hv with
  | islNil => exact (c1 w).mono fun e w' ⟨he, hg⟩ => ⟨_, he, σ, hr.grows hg, .grows hr hg, .full .islNil⟩
  | islEmpty a c hm => exact (c2 a c w).mono fun e w' ⟨⟨b, he⟩, hg⟩ => ⟨_, he, σ, hr.grows hg, .grows hr hg, .full (.islEmpty b 0 (by simp [maxLen]))⟩
  | isl f hz hc hm h0 h1 h2 h3 => exact (c2 _ _ w).mono fun e w' ⟨⟨b, he⟩, hg⟩ => ⟨_, he, σ, hr.grows hg, .grows hr hg, .full (.islEmpty b 0 (by simp [maxLen]))⟩
end Go.VZ

/- Closed runs: the ways of calling for them; the examples of the chapters. -/
namespace Go.VZ
open Go Go.V Go.Proofs Go.RowKit
def opens : List Nat := [51, 52, 77, 85, 93, 94, 98, 100, 101, 102, 114, 126, 152, 153, 154, 157, 158, 159, 170, 174, 182, 183, 184, 185, 186, 187, 188, 189, 199, 201, 204, 217, 218, 224, 236, 238, 239, 240, 242, 243, 245, 248, 254, 265, 268, 269, 270, 272, 273, 274, 275, 276, 277, 278, 279, 281, 282, 288, 289, 290, 295, 296, 303, 304, 305, 306, 307, 308, 309, 310, 311, 312, 313, 315, 316, 317, 321, 322, 323, 326, 334, 335, 336, 337, 344, 345, 347, 360, 362, 368, 384, 391, 400, 401, 402, 410, 414, 416, 428, 429, 430, 431, 434, 438, 444, 445, 452, 455, 462, 463, 464, 481, 482, 483, 484, 485, 488]
def owns : List Nat := [11, 18, 23, 25, 40, 43, 49, 50, 56, 57, 63, 68, 73, 75, 76, 90, 96, 103, 109, 119, 120, 125, 129, 138, 139, 162, 168, 169, 177, 178, 193, 200, 202, 205, 226, 227, 235, 246, 249, 250, 252, 283, 331, 349, 353, 361, 367, 389, 396, 406, 435, 460, 461, 499]
def md2 : FuncId → Go.V.Mode := fun f => if opens.contains f then .openH else if owns.contains f then .ownM else .strip
def wr2 : FuncId → Tmp → Bool := fun _ _ => true
noncomputable def C2 : Cfg := { P := Tryz.prog, mode := md2, wr := wr2, prim := primClone, ext := ext, extOk := ext_ok, mix := fun f i => mixL.contains (f, i) }
theorem ok2 (m : Nat) : Go.V.Ok Tryz.prog (callR C2 m) := callR_ok (C := C2) good primClone_ok m
def isYes (x : Option (AV × H)) : Bool := match x with
  | some (.bool b, _) => b
  | _ => false
theorem isYes_some {x : Option (AV × H)} (h : isYes x = true) : ∃ h', x = some (.bool true, h') := by
  unfold isYes at h
  split at h
  · rename_i b h'; subst h; exact ⟨h', rfl⟩
  · cases h
theorem glob_of [DFlag] {P : Program} {B : Nat} {A0 : Nat → Nat → Prop} {σ : List (Option Nat)} {h : H} {w : World} (hr : HRel P B A0 σ h w) : GlobR (fun _ _ => True) w := fun g a hg => (hr.glob g a hg).mono fun _b _o _x _ hc => ⟨trivial, hc⟩
/-- A closed run that answers yes. -/
theorem yes_calls {f : FuncId} {m : Nat} (hy : isYes (callR C2 m f [] []) = true) (hb : hasBody Tryz.prog f = true) {w : World} (hg : GlobR (fun _ _ => True) w) : Calls Tryz.prog f #[] w fun e w' => e = .returned (.bool true) ∧ Grows w w' := by
  obtain ⟨h1, hx⟩ := isYes_some hy
  refine ((ok2 m).fn f [] [] _ h1 hb hx w.heap.size (fun _ _ => True) [] w #[] (.start hg) rfl (fun i a v ha => by simp at ha)).mono ?_
  rintro e w' ⟨v, rfl, σ', k1, k2, k3⟩
  exact ⟨by rw [rel_bool k3], of_below k2.below k2.drawn⟩
theorem yes_prim {f : FuncId} {m : Nat} (hy : isYes (callR C2 m f [] []) = true) (hb : hasBody Tryz.prog f = true) {args : List AV} {h h' : H} {r : AV} (hp : (match args with | [] => some (AV.bool true, h) | _ => none) = some (r, h')) :
    ∀ (B : Nat) (A0 : Nat → Nat → Prop) (σ : List (Option Nat)) (w : World) (vs : Array Value), HRel Tryz.prog B A0 σ h w → vs.size = args.length →
      Calls Tryz.prog f vs w (fun e w' => ∃ v, e = .returned v ∧ Go.V.Leaves Tryz.prog B A0 σ h w r h' v w') := by
  intro B A0 σ w vs hr hl
  split at hp <;> first | (cases hp; done) | skip
  simp only [Option.some.injEq, Prod.mk.injEq] at hp
  obtain ⟨rfl, rfl⟩ := hp
  have : vs = #[] := Array.eq_empty_of_size_eq_zero (by simpa using hl)
  subst this
  exact (yes_calls hy hb (glob_of hr)).mono fun e w' ⟨he, hg⟩ => ⟨_, he, σ, hr.grows hg, .grows hr hg, .data (.bool true)⟩
end Go.VZ

/- strings.Builder at this program: the shelf's contracts (String: laid by the shelf's own tool), copyCheck and WriteString walked (their bodies differ from the shelf's). -/
namespace Go.Proofs
open Go.Shelf
def Tryz.lays169_ren : Go.Shelf.Ren := ⟨fun | 169 => 270 | n => n, fun | 70 => 287 | 9 => 9 | 0 => 0 | 72 => 289 | 37 => 253 | 127 => 330 | 3 => 3 | 5 => 5 | n => n, fun | n => n⟩
theorem Tryz.lays169 : Go.Proofs.Lays.n169 Tryz.prog Tryz.lays169_ren := {
  mixed := by kernel_rfl
  f169 := Tryz.func270.trans (congrArg some (by kernel_rfl))
  t0 := Tryz.underlying0
  a0 := Tryz.isAgg0
  z0 := Tryz.sizeOf0
  v0 := Tryz.zeroValue0
  t3 := Tryz.underlying3
  a3 := Tryz.isAgg3
  z3 := Tryz.sizeOf3
  v3 := Tryz.zeroValue3
  t9 := Tryz.underlying9
  a9 := Tryz.isAgg9
  z9 := Tryz.sizeOf9
  v9 := Tryz.zeroValue9
  t37 := Tryz.underlying253
  a37 := Tryz.isAgg253
  z37 := Tryz.sizeOf253
  v37 := Tryz.zeroValue253
  t70 := Tryz.underlying287
  a70 := Tryz.isAgg287
  z70 := Tryz.sizeOf287
  v70 := Tryz.zeroValue287
  t72 := Tryz.underlying289
  a72 := Tryz.isAgg289
  z72 := Tryz.sizeOf289
  v72 := Tryz.zeroValue289
  t127 := Tryz.underlying330
  a127 := Tryz.isAgg330
  z127 := Tryz.sizeOf330
  v127 := Tryz.zeroValue330 }
theorem Tryz.Builder_Extra_169 : Builder.Extra Tryz.prog Tryz.lays169_ren := {
  sizeBuilder := by kernel_rfl
  liesBuilder := by kernel_rfl
  t5 := Tryz.underlying5
  a5 := Tryz.isAgg5
  z5 := Tryz.sizeOf5
  v5 := Tryz.zeroValue5
  infoByte := by kernel_rfl
  cellsByte := by kernel_rfl
  sizeByte := by kernel_rfl
  neB5 := by decide }
open Go.RowKit in
/-- (*strings.Builder).String: "String returns the accumulated string.": OF A BUILDER THAT HOLDS AT LEAST ONE BYTE. ✋ THE MODEL FREEZES THOSE BYTES IN THE BUFFER (unsafe.String): a later write INTO them ends the model's run without an answer; a later append BEHIND them goes on. The statement's order of evaluation is drawn: one draw. (LAID: no walk: one application.) -/
theorem Tryz.Builder_String (B b : Nat) (l : List UInt8) (w : World) (h : Lib.IsBuilder 289 5 B b (Lib.byteCells l) w) (h0 : l ≠ []) :
    Calls Tryz.prog 270 #[.pointer (some ⟨b, 0, none⟩)] w fun e w' => e = .returned (.string ⟨l.toArray⟩) ∧ Below B w w' := Any.Builder_String Tryz.lays169 Tryz.Builder_Extra_169 B b l w h h0
open Go.RowKit
theorem Tryz.sizeBuilder : (Tryz.prog.info? 289).map (·.size) = some 2 := by kernel_rfl
theorem Tryz.liesBuilder : liesAt Tryz.prog Tryz.prog.depth 289 (2 / Tryz.prog.cellsOf 289) 0 289 1 = true := by kernel_rfl
theorem Tryz.infoByte : (Tryz.prog.info? 5).map (fun i => (i.zero, i.size, i.bytes)) = some (some (.int .u8 0), 1, 1) := by kernel_rfl
set_option maxHeartbeats 1000000 in
set_option maxRecDepth 100000 in
theorem Tryz.copyCheck_used (b : Nat) (w : World) (h0 : w.cell? ⟨b, 0, none⟩ = some (.pointer (some ⟨b, 0, none⟩))) :
    Calls Tryz.prog 312 #[.pointer (some ⟨b, 0, none⟩)] w fun e w' => e = .returned (.tuple #[]) ∧ w' = w := by
  obtain ⟨j, hj, _⟩ := Option.map_eq_some_iff.1 Tryz.sizeBuilder
  go_enter Tryz.func312, Tryz.ntmps312
  go_wp2
  rw [Lib.run_neq_ptr_same w _ Tryz.underlying287 hj]
  go_wp2
  go_end0
  exact ⟨rfl, rfl⟩
set_option maxHeartbeats 1000000 in
set_option maxRecDepth 100000 in
theorem Tryz.copyCheck_fresh (b : Nat) (w : World) (h0 : w.cell? ⟨b, 0, none⟩ = some (.pointer none)) (hsh : w.shape? b = some (289, 2)) (hfz : w.frozen? ⟨b, 0, none⟩ = false) :
    Calls Tryz.prog 312 #[.pointer (some ⟨b, 0, none⟩)] w fun e w' => e = .returned (.tuple #[]) ∧ w' = w.setCell ⟨b, 0, none⟩ (.pointer (some ⟨b, 0, none⟩)) := by
  obtain ⟨j, hj, hjs⟩ := Option.map_eq_some_iff.1 Tryz.sizeBuilder
  go_enter Tryz.func312, Tryz.ntmps312
  go_wp2
  rw [Lib.run_to_unsafe w ⟨b, 0, none⟩ Tryz.underlying287 Tryz.underlying342 hj (by rw [hjs]; decide) hsh (Nat.zero_lt_succ 1)]
  simp only [Result.andThen]
  rw [Oper.upon_value]
  go_wp2
  rw [run_callFunc_extern Tryz.func338 (by kernel_rfl) (by kernel_rfl) (by kernel_rfl) (e := Extern.AbiNoEscape.same) (by kernel_rfl)]
  rw [Lib.run_noEscape]
  simp only [Result.andThen]
  rw [Oper.upon_value]
  go_wp2
  rw [Lib.run_from_unsafe w ⟨b, 0, none⟩ Tryz.underlying342 Tryz.underlying287 hj hsh Tryz.liesBuilder]
  simp only [Result.andThen]
  rw [Oper.upon_value]
  go_wp2
  go_end0
  exact ⟨rfl, rfl⟩
theorem Tryz.copyCheck (B b : Nat) (bs : List Value) (w : World) (h : Lib.IsBuilder 289 5 B b bs w) :
    Calls Tryz.prog 312 #[.pointer (some ⟨b, 0, none⟩)] w fun e w' => e = .returned (.tuple #[]) ∧ (Lib.BuilderAt 289 5 B b (.pointer (some ⟨b, 0, none⟩)) bs w' ∧ Below B w w') := by
  rcases h with h | h
  · refine (Tryz.copyCheck_fresh b w h.cell0 h.shape h.frozen0).mono ?_
    rintro e w' ⟨rfl, rfl⟩
    exact ⟨rfl, h.used _, (Below.refl B w).setCell (p := ⟨b, 0, none⟩) h.1 _⟩
  · refine (Tryz.copyCheck_used b w h.cell0).mono ?_
    rintro e w' ⟨rfl, rfl⟩
    exact ⟨rfl, h, Below.refl B _⟩
set_option maxHeartbeats 2000000 in
set_option maxRecDepth 100000 in
theorem Tryz.writeString (B b : Nat) (bs : List Value) (s : ByteArray) (w : World) (h : Lib.IsBuilder 289 5 B b bs w) (hlen : bs.length + s.size ≤ 140737488355328) (hBw : B ≤ w.heap.size) :
    Calls Tryz.prog 269 #[.pointer (some ⟨b, 0, none⟩), .string s] w fun e w' => e = .returned (.tuple #[.int .i64 s.size, .nilIface]) ∧ (Lib.BuilderAt 289 5 B b (.pointer (some ⟨b, 0, none⟩)) (bs ++ Lib.strCells s) w' ∧ Below B w w') := by
  obtain ⟨i0, hi, hz0, hz1, hz2⟩ := info_parts Tryz.infoByte
  have e312 : ∀ args w, (callFunc 312 args).run Tryz.prog w = .ok (.enter 312 args) w := enters_of Tryz.func312 (by kernel_rfl) rfl
  go_enter Tryz.func269, Tryz.ntmps269
  go_wp2_with (go_at_fn 312; refine (Tryz.copyCheck B b bs _ h).mono ?_)
  rintro e w1 ⟨rfl, h1, hb1⟩
  obtain ⟨hB, v, hbk, hown, hne⟩ := h1
  have c0 : w1.cell? ⟨b, 0, none⟩ = some (.pointer (some ⟨b, 0, none⟩)) := by rw [Lib.cell_of_heap hbk]; rfl
  have c1 : w1.cell? ⟨b, 1, none⟩ = some v := by rw [Lib.cell_of_heap hbk]; rfl
  go_wp2_with (at_builtin; refine Lib.wpList_append_own_string _ rfl _ _ 253 9 rfl B 5 i0 Tryz.underlying253 Tryz.underlying9 hi hz0 hz1 hz2 _ _ _ rfl hown s rfl ?c3 ?c4 ?c5 ?_)
  case c3 => unfold maxLen; omega
  case c4 => omega
  case c5 => have := hb1.size; omega
  intro v' w2 hown' hgrow _
  have hlt : b < w1.heap.size := by
    rcases Nat.lt_or_ge b w1.heap.size with h' | h'
    · exact h'
    · simp [Array.getElem?_eq_none h'] at hbk
  have hb2 : w2.heap[b]? = some (.cells #[.pointer (some ⟨b, 0, none⟩), v] 289 (0, 0)) := by
    rw [hgrow.block b hlt (fun e => hne e.symm)]
    exact hbk
  have d0 : w2.cell? ⟨b, 0, none⟩ = some (.pointer (some ⟨b, 0, none⟩)) := by rw [Lib.cell_of_heap hb2]; rfl
  have d1 : w2.cell? ⟨b, 1, none⟩ = some v := by rw [Lib.cell_of_heap hb2]; rfl
  have f1 : w2.frozen? ⟨b, 1, none⟩ = false := Lib.frozen_of_heap hb2 1
  obtain ⟨ao, n', cap, rfl⟩ : ∃ ao n' cap, v' = .slice ao n' cap := by
    rcases hown'.2 with ⟨hv, _⟩ | ⟨g, cap, cur, hv, _⟩
    · exact ⟨_, _, _, hv⟩
    · exact ⟨_, _, _, hv⟩
  go_wp2
  go_ret2
  refine ⟨rfl, ?_, ?_⟩
  · exact Lib.BuilderAt.put (T := 289) (e := 5) hB hb2 (bs' := bs ++ Lib.strCells s) (by simpa [Lib.strCells_length] using hown') (by decide)
  · exact (hb1.grown hgrow (by have := hb1.size; omega) (fun k hk => (hown.lt k hk).1)).setCell (p := ⟨b, 1, none⟩) hB _
end Go.Proofs

/- The text of a closed term: term.Format at the atom k. -/
namespace Go.Proofs
open Go.Shelf Go.RowKit
def kAny : ByteArray := ⟨#[107, 58, 97, 110, 121]⟩
/-- WriteString at a fresh builder: no cell but the builder's turns. -/
def OnlyB (b : Nat) (w w' : World) : Prop := ∀ k, k < w.heap.size → k ≠ b → w'.heap[k]? = w.heap[k]?
theorem OnlyB.cell {b : Nat} {w w' : World} (h : OnlyB b w w') {k o : Nat} {x : Value} (hk : k ≠ b) (hc : w.cell? ⟨k, o, none⟩ = some x) : w'.cell? ⟨k, o, none⟩ = some x := by
  have hb := World.block_lt_of_cell? w _ hc
  rw [World.cell?_of_block (w := w) (h k hb hk)]; exact hc
set_option maxHeartbeats 2000000 in
set_option maxRecDepth 100000 in
theorem Tryz.writeString_fresh (b : Nat) (s : ByteArray) (w : World) (hbk0 : w.heap[b]? = some (.cells #[.pointer none, .slice none 0 0] 289 (0, 0))) (hlen : s.size ≤ 140737488355328) :
    Calls Tryz.prog 269 #[.pointer (some ⟨b, 0, none⟩), .string s] w fun e w' => e = .returned (.tuple #[.int .i64 s.size, .nilIface]) ∧ (Lib.BuilderAt 289 5 b b (.pointer (some ⟨b, 0, none⟩)) (Lib.strCells s) w' ∧ Below b w w' ∧ OnlyB b w w') := by
  obtain ⟨i0, hi, hz0, hz1, hz2⟩ := info_parts Tryz.infoByte
  have hbw : b < w.heap.size := by
    rcases Nat.lt_or_ge b w.heap.size with h' | h'
    · exact h'
    · simp [Array.getElem?_eq_none h'] at hbk0
  have hfr : Lib.BuilderAt 289 5 b b (.pointer none) [] w := ⟨Nat.le_refl _, .slice none 0 0, hbk0, World.ownsRow_nil _ _ _ _, by simp [Value.ownBlock]⟩
  have e312 : ∀ args w, (callFunc 312 args).run Tryz.prog w = .ok (.enter 312 args) w := enters_of Tryz.func312 (by kernel_rfl) rfl
  go_enter Tryz.func269, Tryz.ntmps269
  go_wp2_with (go_at_fn 312; refine (Tryz.copyCheck_fresh b _ hfr.cell0 hfr.shape hfr.frozen0).mono ?_)
  rintro e w1 ⟨rfl, ew1⟩
  have hbk : w1.heap[b]? = some (.cells #[.pointer (some ⟨b, 0, none⟩), .slice none 0 0] 289 (0, 0)) := by
    rw [ew1]
    simp [World.setCell, Array.getElem?_modify, hbk0]
  have hb1 : Below b w w1 := by rw [ew1]; exact (Below.refl b w).setCell (p := ⟨b, 0, none⟩) (Nat.le_refl _) _
  have ho1 : OnlyB b w w1 := fun k _ hn => by rw [ew1]; exact Below.heap_setCell _ _ _ _ hn
  have hown : w1.ownsRow b 5 1 (.slice none 0 0) 0 [] := World.ownsRow_nil _ _ _ _
  have c0 : w1.cell? ⟨b, 0, none⟩ = some (.pointer (some ⟨b, 0, none⟩)) := by rw [Lib.cell_of_heap hbk]; rfl
  have c1 : w1.cell? ⟨b, 1, none⟩ = some (.slice none 0 0) := by rw [Lib.cell_of_heap hbk]; rfl
  have hs1 := hb1.size
  clear ew1
  go_wp2_with (at_builtin; refine Lib.wpList_append_own_string _ rfl _ _ 253 9 rfl b 5 i0 Tryz.underlying253 Tryz.underlying9 hi hz0 hz1 hz2 _ _ _ rfl hown s rfl ?c3 ?c4 ?c5 ?_)
  case c3 => unfold maxLen; omega
  case c4 => omega
  case c5 => omega
  intro v' w2 hown' hgrow _
  have hlt : b < w1.heap.size := by omega
  have hb2 : w2.heap[b]? = some (.cells #[.pointer (some ⟨b, 0, none⟩), .slice none 0 0] 289 (0, 0)) := by
    rw [hgrow.block b hlt (fun e => by cases e)]
    exact hbk
  have d0 : w2.cell? ⟨b, 0, none⟩ = some (.pointer (some ⟨b, 0, none⟩)) := by rw [Lib.cell_of_heap hb2]; rfl
  have d1 : w2.cell? ⟨b, 1, none⟩ = some (.slice none 0 0) := by rw [Lib.cell_of_heap hb2]; rfl
  have f1 : w2.frozen? ⟨b, 1, none⟩ = false := Lib.frozen_of_heap hb2 1
  obtain ⟨ao, n', cap, rfl⟩ : ∃ ao n' cap, v' = .slice ao n' cap := by
    rcases hown'.2 with ⟨hv, _⟩ | ⟨g, cap, cur, hv, _⟩
    · exact ⟨_, _, _, hv⟩
    · exact ⟨_, _, _, hv⟩
  go_wp2
  go_ret2
  refine ⟨rfl, ?_, ?_, ?_⟩
  · exact Lib.BuilderAt.put (T := 289) (e := 5) (Nat.le_refl _) hb2 (bs' := Lib.strCells s) (by simpa [Lib.strCells_length] using hown') (by decide)
  · exact (hb1.grown hgrow (by omega) (fun k hk => by cases hk)).setCell (p := ⟨b, 1, none⟩) (Nat.le_refl _) _
  · intro k hk hn
    rw [Below.heap_setCell _ _ _ _ hn, hgrow.block k (by omega) (fun e => by cases e)]
    exact ho1 k hk hn
set_option maxHeartbeats 4000000 in
set_option maxRecDepth 100000 in
theorem Tryz.write_k (b g o cap : Nat) (kv : Value) (w : World) (hbk : w.heap[b]? = some (.cells #[.pointer none, .slice none 0 0] 289 (0, 0))) (hg : w.cell? ⟨1, 0, none⟩ = some (.slice (some ⟨g, o, none⟩) 6 cap))
    (hw : w.cell? ⟨g, o, none⟩ = some (.string ⟨#[97, 110, 121]⟩)) :
    Calls Tryz.prog 311 #[.pointer (some ⟨b, 0, none⟩), .agg #[.int .i64 2, .string ⟨#[107]⟩, .int .i64 0, kv]] w fun e w' => e = .returned (.tuple #[]) ∧ (Lib.BuilderAt 289 5 b b (.pointer (some ⟨b, 0, none⟩)) (Lib.strCells kAny) w' ∧ Below b w w') := by
  have e269 : ∀ args w, (callFunc 269 args).run Tryz.prog w = .ok (.enter 269 args) w := enters_of Tryz.func269 (by kernel_rfl) rfl
  have hbl : b < w.heap.size := by
    rcases Nat.lt_or_ge b w.heap.size with h' | h'
    · exact h'
    · simp [Array.getElem?_eq_none h'] at hbk
  have n1 := World.new_ne w _ hg
  have n2 := World.new_ne w _ hw
  go_enter Tryz.func311, Tryz.ntmps311
  go_wp2
  have hcat : ((⟨#[107]⟩ : ByteArray) ++ ⟨#[58]⟩ ++ ⟨#[97, 110, 121]⟩) = kAny := by decide
  have fb : (w.alloc (.cells #[.int .i64 2, .string ⟨#[107]⟩, .int .i64 0, kv] 25)).drew.heap[b]? = some (.cells #[.pointer none, .slice none 0 0] 289 (0, 0)) := by
    show (w.alloc _).heap[b]? = _
    rw [Below.heap_alloc _ _ _ hbl]; exact hbk
  have hsz : ((⟨#[107]⟩ : ByteArray) ++ ⟨#[58]⟩ ++ ⟨#[97, 110, 121]⟩).size ≤ 140737488355328 := by rw [hcat]; decide
  have nb0 : w.heap.size ≠ b := by omega
  have nb1 : 1 ≠ b := by
    intro e; subst e
    rw [Lib.cell_of_heap hbk] at hg
    simp at hg
  have nbg : g ≠ b := by
    intro e; subst e
    rw [Lib.cell_of_heap hbk] at hw
    match o, hw with
    | 0, hw => simp at hw
    | 1, hw => simp at hw
    | o + 2, hw => simp at hw
  have hnew : (w.alloc (.cells #[.int .i64 2, .string ⟨#[107]⟩, .int .i64 0, kv] 25)).drew.heap[w.heap.size]? = some (.cells #[.int .i64 2, .string ⟨#[107]⟩, .int .i64 0, kv] 25) := by show (w.heap.push _)[w.heap.size]? = _; simp
  have a1 : (w.alloc (.cells #[.int .i64 2, .string ⟨#[107]⟩, .int .i64 0, kv] 25)).drew.cell? ⟨w.heap.size, 1, none⟩ = some (.string ⟨#[107]⟩) := by rw [Lib.cell_of_heap hnew]; rfl
  have a2 : (w.alloc (.cells #[.int .i64 2, .string ⟨#[107]⟩, .int .i64 0, kv] 25)).drew.cell? ⟨w.heap.size, 2, none⟩ = some (.int .i64 0) := by rw [Lib.cell_of_heap hnew]; rfl
  have hold : ∀ (k o : Nat) (x : Value), w.cell? ⟨k, o, none⟩ = some x → (w.alloc (.cells #[.int .i64 2, .string ⟨#[107]⟩, .int .i64 0, kv] 25)).drew.cell? ⟨k, o, none⟩ = some x := fun k o x hc => by
    have hb := World.block_lt_of_cell? w _ hc
    rw [World.cell?_of_block (w := w) (by show (w.alloc _).heap[k]? = _; exact Below.heap_alloc _ _ _ hb)]; exact hc
  have a3 := hold _ _ _ hg
  have a4 := hold _ _ _ hw
  go_region_held3 (fun w' => w'.cell? ⟨w.heap.size, 1, none⟩ = some (.string ⟨#[107]⟩) ∧ w'.cell? ⟨w.heap.size, 2, none⟩ = some (.int .i64 0) ∧ w'.cell? ⟨1, 0, none⟩ = some (.slice (some ⟨g, o, none⟩) 6 cap) ∧ w'.cell? ⟨g, o, none⟩ = some (.string ⟨#[97, 110, 121]⟩))
    (first | go_keep | exact ⟨hob.cell nb0 a1, hob.cell nb0 a2, hob.cell nb1 a3, hob.cell nbg a4⟩)
    (first | (go_at_call 269; refine (Tryz.writeString_fresh b _ _ fb hsz).mono ?_; rintro e w' ⟨rfl, hB, hb, hob⟩))
  go_wp2
  refine bodyPost_ret (results_none rfl _ _ _) rfl ?_
  rw [hcat] at hB
  exact ⟨rfl, hB, (((Below.refl b w).alloc (Nat.le_of_lt hbl) _).drew).trans hb⟩
end Go.Proofs

/- Closed runs of chapter 48: the ways of calling for them. -/
namespace Go.VZ
open Go Go.V Go.Proofs Go.RowKit
def opens48 : List Nat := [51, 52, 77, 85, 93, 94, 98, 100, 101, 114, 126, 152, 153, 154, 157, 158, 170, 174, 182, 183, 184, 185, 186, 187, 188, 189, 199, 201, 204, 217, 218, 224, 236, 238, 239, 240, 242, 243, 245, 248, 254, 265, 268, 269, 270, 272, 273, 274, 275, 276, 277, 278, 279, 281, 282, 288, 289, 290, 295, 296, 303, 304, 305, 306, 307, 308, 309, 310, 311, 312, 313, 315, 316, 317, 321, 322, 323, 326, 334, 335, 336, 337, 344, 345, 347, 360, 362, 368, 384, 391, 400, 401, 402, 410, 414, 416, 428, 429, 430, 431, 434, 438, 444, 445, 452, 455, 462, 463, 464, 481, 482, 483, 484, 485, 488]
def owns48 : List Nat := [11, 18, 23, 40, 43, 49, 50, 56, 57, 63, 68, 73, 75, 76, 90, 96, 103, 109, 119, 120, 125, 129, 138, 139, 162, 168, 169, 177, 178, 193, 200, 202, 205, 226, 227, 235, 246, 249, 250, 252, 283, 331, 349, 353, 361, 367, 389, 396, 406, 435, 460, 461, 499]
def looks48 : List Nat := [102, 159]
def mix48 : List (Nat × Nat) := [(20, 2), (24, 10), (27, 12), (30, 3), (33, 4), (34, 3), (50, 1), (57, 1), (103, 1), (108, 10), (129, 1), (153, 1), (157, 1), (167, 3), (169, 3), (174, 2), (230, 4), (230, 9), (230, 10), (230, 12), (230, 14), (230, 15), (231, 6), (231, 17), (263, 2), (282, 1), (323, 1), (331, 4), (400, 2), (451, 19), (451, 32)]
def md48 : FuncId → Go.V.Mode := fun f => if looks48.contains f then .openQ else if opens48.contains f then .openH else if owns48.contains f then .ownM else .strip
def wr48 : FuncId → Tmp → Bool := fun _ _ => true
noncomputable def CL : Cfg := { P := Tryz.prog, mode := md48, wr := wr48, prim := primClone, ext := ext, extOk := ext_ok, mix := fun f i => mix48.contains (f, i) }
theorem okL (m : Nat) : Go.V.Ok Tryz.prog (callR CL m) := callR_ok (C := CL) good primClone_ok m
/-- A closed run comes to a value. -/
def runIs (C : Cfg) (m : Nat) (f : FuncId) (args : List AV) (v : AV) : Bool := match callR C m f args [] with
  | some (r, h) => match snap (freezeAll h) deep r with
    | some u => AV.same u v
    | none => false
  | none => false
theorem runIs_some {C : Cfg} {m : Nat} {f : FuncId} {args : List AV} {v : AV} (h : runIs C m f args v = true) : ∃ r h1, callR C m f args [] = some (r, h1) ∧ snap (freezeAll h1) deep r = some v := by
  unfold runIs at h
  split at h <;> first | (cases h; done) | skip
  rename_i r h1 hx
  split at h <;> first | (cases h; done) | skip
  rename_i u hu
  exact ⟨r, h1, hx, by rw [hu, AV.same_eq h]⟩
theorem runIs_CallP {C : Cfg} {m : Nat} {f : FuncId} {args : List AV} {v : AV} (h : runIs C m f args v = true) : CallP C f args = some v := by
  obtain ⟨r, h1, hx, hs⟩ := runIs_some h
  unfold CallP
  rw [Call_of m hx]; exact hs
/-- What a closed run says of the program. -/
theorem closed_calls {C : Cfg} {m : Nat} (_hC : C.P = Tryz.prog) (ok : Go.V.Ok Tryz.prog (callR C m)) {f : FuncId} {args : List AV} {v : AV} (h : runIs C m f args v = true) (hb : hasBody Tryz.prog f = true) {w : World} {vs : Array Value} (hg : GlobR (fun _ _ => True) w)
    (hl : vs.size = args.length) (hr : ∀ (i : Nat) a u, args[i]? = some a → vs[i]? = some u → IRel (fun _ _ => True) w a u) :
    Calls Tryz.prog f vs w fun e w' => ∃ u, e = .returned u ∧ Grows w w' ∧ IRel (fun _ _ => True) w' v u := by
  obtain ⟨r, h1, hx, hs⟩ := runIs_some h
  refine (ok.fn f args [] r h1 hb hx w.heap.size (fun _ _ => True) [] w vs (.start hg) hl (fun i a v ha hv => .data (irel_start (hr i a v ha hv)))).mono ?_
  rintro e w' ⟨u, rfl, σ', k1, k2, k3⟩
  have := snap_sound (k1.stiller (freezeAll_stiller h1)) deep r v u hs (k3.step (.stiller k1 (freezeAll_stiller h1)))
  exact ⟨u, rfl, of_below k2.below k2.drawn, this.mono fun b o x _ hc => ⟨trivial, hc⟩⟩
end Go.VZ

/- The text of the atom k, as term.Format gives it. -/
namespace Go.VZ
open Go Go.V Go.Proofs Go.RowKit
def tK : AV := .agg [.int .i64 2, .str ⟨#[107]⟩, .int .i64 0, .isl [] .unk]
theorem valid_k : runIs CL 4000 111 [tK] (.int .i64 0) = true := by kernel_rfl
theorem grows_glob {w w' : World} (g : Grows w w') (h : GlobR (fun _ _ => True) w) : GlobR (fun _ _ => True) w' := fun a b hab => (h a b hab).mono fun _ _ _ _ hc => ⟨trivial, g.cell hc⟩
/-- The words, where they lie. -/
theorem words_at {w : World} (h : GlobR (fun _ _ => True) w) : ∃ g o cap, w.cell? ⟨1, 0, none⟩ = some (.slice (some ⟨g, o, none⟩) 6 cap) ∧ w.cell? ⟨g, o, none⟩ = some (.string ⟨#[97, 110, 121]⟩) := by
  have h1 := h 1 _ (if_pos rfl)
  cases h1 with
  | iptr f h1 h2 h3 =>
    have c0 := (h2 0 _ rfl).2
    have r0 := h3 0 _ rfl
    simp only [Nat.add_zero] at c0
    generalize f 0 = u at c0 r0
    cases r0 with
    | @isl es sz b o cap f hz hc hm h0 q1 q2 q3 =>
      refine ⟨b, o, cap, by simpa using c0, ?_⟩
      have d0 := (q2 0 0 _ _ rfl rfl).2
      have e0 := q3 0 0 _ _ rfl rfl
      simp only [Nat.zero_mul, Nat.add_zero] at d0
      generalize f 0 0 = z at d0 e0
      cases e0
      exact d0
theorem drew_grows {w w' : World} (g : Grows w w') : Grows w w'.drew := g.trans (.drew _)
set_option maxHeartbeats 4000000 in
set_option maxRecDepth 100000 in
theorem format_k (kv : Value) (w : World) (hg : GlobR (fun _ _ => True) w) (hkv : IRel (fun _ _ => True) w (.isl [] .unk) kv) :
    Calls Tryz.prog 267 #[.agg #[.int .i64 2, .string ⟨#[107]⟩, .int .i64 0, kv]] w fun e w' => e = .returned (.tuple #[.string kAny, .int .i64 0]) ∧ Grows w w' := by
  have e111 : ∀ args w, (callFunc 111 args).run Tryz.prog w = .ok (.enter 111 args) w := enters_of Tryz.func111 (by kernel_rfl) rfl
  have e311 : ∀ args w, (callFunc 311 args).run Tryz.prog w = .ok (.enter 311 args) w := enters_of Tryz.func311 (by kernel_rfl) rfl
  have e270 : ∀ args w, (callFunc 270 args).run Tryz.prog w = .ok (.enter 270 args) w := enters_of Tryz.func270 (by kernel_rfl) rfl
  have g1 : Grows w (w.alloc (.cells #[.int .i64 2, .string ⟨#[107]⟩, .int .i64 0, kv] 25)) := .alloc _ _
  have hv : Calls Tryz.prog 111 #[.agg #[.int .i64 2, .string ⟨#[107]⟩, .int .i64 0, kv]] (w.alloc (.cells #[.int .i64 2, .string ⟨#[107]⟩, .int .i64 0, kv] 25)) fun e w' => e = .returned (.int .i64 0) ∧ Grows (w.alloc (.cells #[.int .i64 2, .string ⟨#[107]⟩, .int .i64 0, kv] 25)) w' := by
    refine (closed_calls (C := CL) rfl (okL 4000) valid_k (by kernel_rfl) (grows_glob g1 hg) rfl ?_).mono ?_
    · intro i a u ha hu
      match i with
      | 0 =>
        simp at ha hu; subst ha; subst hu
        refine .agg (by simp [AV.one]) rfl fun j c v hc hv => ?_
        match j with
        | 0 => simp at hc hv; subst hc; subst hv; exact .int _ _
        | 1 => simp at hc hv; subst hc; subst hv; exact .str _
        | 2 => simp at hc hv; subst hc; subst hv; exact .int _ _
        | 3 => simp at hc hv; subst hc; subst hv; exact hkv.mono fun _ _ _ _ hc => ⟨trivial, g1.cell hc⟩
        | j + 4 => simp at hc
      | i + 1 => simp at ha
    · rintro e w' ⟨u, rfl, hgr, hu⟩
      cases hu
      exact ⟨rfl, hgr⟩
  go_enter Tryz.func267, Tryz.ntmps267
  go_wp2_with (go_at_fn 111; refine hv.mono ?_)
  rintro e w2 ⟨rfl, g2⟩
  have g02 := g1.trans g2
  have hbox : w2.heap[w.heap.size]? = some (.cells #[.int .i64 2, .string ⟨#[107]⟩, .int .i64 0, kv] 25) := by
    rw [g2.block _ (by show w.heap.size < (w.heap.push _).size; simp)]
    show (w.heap.push _)[w.heap.size]? = _
    simp
  have b0 : w2.cell? ⟨w.heap.size, 0, none⟩ = some (.int .i64 2) := by rw [Lib.cell_of_heap hbox]; rfl
  have b1 : w2.cell? ⟨w.heap.size, 1, none⟩ = some (.string ⟨#[107]⟩) := by rw [Lib.cell_of_heap hbox]; rfl
  have b2 : w2.cell? ⟨w.heap.size, 2, none⟩ = some (.int .i64 0) := by rw [Lib.cell_of_heap hbox]; rfl
  have b3 : w2.cell? ⟨w.heap.size, 3, none⟩ = some kv := by rw [Lib.cell_of_heap hbox]; rfl
  have hlt2 : w.heap.size < w2.heap.size := (Array.getElem?_eq_some_iff.1 hbox).1
  have ne2 : w2.heap.size ≠ w.heap.size := by omega
  have g3 : Grows w2 (w2.alloc (.cells #[.pointer none, .slice none 0 0] 289)) := .alloc _ _
  obtain ⟨g, o, cap, hw1, hw2⟩ := words_at (grows_glob (g02.trans g3) hg)
  have hbld : (w2.alloc (.cells #[.pointer none, .slice none 0 0] 289)).heap[w2.heap.size]? = some (.cells #[.pointer none, .slice none 0 0] 289 (0, 0)) := by
    show (w2.heap.push _)[w2.heap.size]? = _
    simp
  go_wp2_with (go_at_fn 311; refine (Tryz.write_k w2.heap.size g o cap kv _ hbld hw1 hw2).mono ?_)
  rintro e w4 ⟨rfl, hB, hb4⟩
  have hB2 : Lib.IsBuilder 289 5 w2.heap.size w2.heap.size (Lib.byteCells [107, 58, 97, 110, 121]) w4 := .inr hB
  go_wp2_with (go_at_fn 270; refine (Tryz.Builder_String w2.heap.size w2.heap.size [107, 58, 97, 110, 121] _ hB2 (by simp)).mono ?_)
  rintro e w5 ⟨rfl, hb5⟩
  go_wp2
  go_ret2
  refine ⟨rfl, of_below ?_ fun h => h.elim⟩
  have k1 : Below w.heap.size w w2 := g02.below (Nat.le_refl _)
  have k2 : Below w.heap.size w2 (w2.alloc (.cells #[.pointer none, .slice none 0 0] 289)) := g3.below (by omega)
  exact ((k1.trans k2).trans (hb4.mono (by omega))).trans (hb5.mono (by omega))
end Go.VZ

/- The bindings of an empty matcher: none. -/
namespace Go.VZ
open Go Go.V Go.Proofs Go.RowKit
theorem sort_none : runIs CL 4000 158 [.isl [] .unk, .func 159 []] (.tuple []) = true := by kernel_rfl
set_option maxHeartbeats 4000000 in
set_option maxRecDepth 100000 in
theorem bindings_none (b clock : Nat) (w : World) (hg : GlobR (fun _ _ => True) w) (hb : w.heap[b]? = some (.map #[] clock)) :
    Calls Tryz.prog 102 #[.map (some b)] w fun e w' => e = .returned (.slice none 0 0) ∧ Grows w w' := by
  have e158 : ∀ args w, (callFunc 158 args).run Tryz.prog w = .ok (.enter 158 args) w := enters_of Tryz.func158 (by kernel_rfl) rfl
  have hr := run_range_map (P := Tryz.prog) w 152 _ _ b #[] clock Tryz.underlying152 hb
  have hn : ∀ ty, (Instr.next (.pointer (some ⟨w.heap.size, 0, none⟩)) false ty).run Tryz.prog (w.alloc (.mapIter (some b) clock #[] clock)) = .ok (.tuple #[.bool false]) (w.alloc (.mapIter (some b) clock #[] clock)) := fun ty => by
    rcases run_next_map (P := Tryz.prog) w ty b clock clock #[] #[] clock hb (fun x hx => by simp at hx) (Nat.le_refl _) with ⟨_, h⟩ | ⟨e, he, _⟩
    · exact h
    · exact absurd (mem_left he).1 (by simp)
  have g1 : Grows w (w.alloc (.mapIter (some b) clock #[] clock)) := .alloc _ _
  have hs : Calls Tryz.prog 158 #[.slice none 0 0, .func (.func 159) #[] #[]] (w.alloc (.mapIter (some b) clock #[] clock)) fun e w' => e = .returned (.tuple #[]) ∧ Grows (w.alloc (.mapIter (some b) clock #[] clock)) w' := by
    refine (closed_calls (C := CL) rfl (okL 4000) sort_none (by kernel_rfl) (grows_glob g1 hg) rfl ?_).mono ?_
    · intro i a u ha hu
      match i with
      | 0 => simp at ha hu; subst ha; subst hu; exact .islNil
      | 1 => simp at ha hu; subst ha; subst hu; exact .func rfl fun i a v ha => by simp at ha
      | i + 2 => simp at ha
    · rintro e w' ⟨u, rfl, hgr, hu⟩
      cases hu with
      | tuple hl h =>
        rename_i vs
        have : vs = #[] := Array.eq_empty_of_size_eq_zero (by simpa using hl)
        subst this
        exact ⟨rfl, hgr⟩
  go_enter Tryz.func102, Tryz.ntmps102
  go_wp2
  refine wp_loop_once ?_
  go_wp2_with (go_at_fn 158; refine hs.mono ?_)
  rintro e w2 ⟨rfl, g2⟩
  go_wp2
  go_ret
  exact ⟨rfl, g1.trans g2⟩
end Go.VZ

/- Closed runs of chapter 48: the contracts beside the runs; the value machine for them is sound. -/
namespace Go.VZ
open Go Go.V Go.Proofs Go.RowKit
def primK (f : FuncId) (args : List AV) (h : H) : Option (AV × H) :=
  if f = 267 then (match args with
    | [a] => if AV.same a tK then some (.tuple [.str kAny, .int .i64 0], h) else none
    | _ => none)
  else if f = 102 then (match args with
    | [.mp i] => match h[i]? with
      | some (.map []) => some (.isl [] .full, h)
      | _ => none
    | _ => none)
  else primClone f args h
noncomputable def CK : Cfg := { P := Tryz.prog, mode := md48, wr := wr48, prim := primK, ext := ext, extOk := ext_ok, mix := fun f i => mix48.contains (f, i) }
theorem gT {B : Nat} {A0 : Nat → Nat → Prop} {σ : List (Option Nat)} {h : H} {w : World} (hr : HRel Tryz.prog B A0 σ h w) : GlobR (fun _ _ => True) w := fun g a hg => (hr.gr g a hg).mono fun _ _ _ _ hc => ⟨trivial, hc⟩
theorem one_arg {vs : Array Value} (hl : vs.size = 1) : ∃ v, vs = #[v] := ⟨vs[0], by apply Array.ext <;> simp [hl]; intro i hi; subst hi; rfl⟩
theorem tK_value {A : Nat → Nat → Prop} {w : World} {v : Value} (r : IRel A w tK v) : ∃ kv, v = .agg #[.int .i64 2, .string ⟨#[107]⟩, .int .i64 0, kv] ∧ IRel A w (.isl [] .unk) kv := by
  cases r with
  | agg h1 hl h =>
    rename_i vs
    obtain ⟨l⟩ := vs
    match l, hl with
    | [a, b, c, d], _ =>
      have r0 := h 0 _ a rfl rfl
      have r1 := h 1 _ b rfl rfl
      have r2 := h 2 _ c rfl rfl
      have r3 := h 3 _ d rfl rfl
      cases r0; cases r1; cases r2
      exact ⟨d, rfl, r3⟩
theorem primK_ok (f : FuncId) : PrimOk CK.P f (CK.prim f) := by
  intro args h r h' hp B A0 σ w vs hr hl ha
  have hp' : primK f args h = some (r, h') := hp
  have hr' : HRel Tryz.prog B A0 σ h w := hr
  unfold primK at hp'
  split at hp'
  · rename_i hf; subst hf
    split at hp' <;> first | (cases hp'; done) | skip
    rename_i a
    split at hp' <;> first | (cases hp'; done) | skip
    rename_i hs
    have hs := AV.same_eq hs
    subst hs
    simp only [Option.some.injEq, Prod.mk.injEq] at hp'
    obtain ⟨rfl, rfl⟩ := hp'
    obtain ⟨v, rfl⟩ := one_arg hl
    have hv := snap_sound hr' deep tK tK v (by kernel_rfl) (ha 0 _ v rfl rfl)
    obtain ⟨kv, rfl, hkv⟩ := tK_value hv
    refine (format_k kv w (gT hr') (hkv.mono fun _ _ _ _ hc => ⟨trivial, hc⟩)).mono fun e w' ⟨he, hg⟩ => ⟨_, he, σ, hr'.grows hg, .grows hr' hg, .data (.tuple rfl fun i a v hia hiv => ?_)⟩
    match i with
    | 0 => simp at hia hiv; subst hia; subst hiv; exact .str _
    | 1 => simp at hia hiv; subst hia; subst hiv; exact .int _ _
    | i + 2 => simp at hia
  · split at hp'
    · rename_i hf; subst hf
      split at hp' <;> first | (cases hp'; done) | skip
      rename_i i
      split at hp' <;> first | (cases hp'; done) | skip
      rename_i hi
      simp only [Option.some.injEq, Prod.mk.injEq] at hp'
      obtain ⟨rfl, rfl⟩ := hp'
      obtain ⟨v, rfl⟩ := one_arg hl
      obtain ⟨b, rfl, hs⟩ := rel_mp (ha 0 _ v rfl rfl)
      obtain ⟨b', mes, clock, k1, k2, k3, k4, _⟩ := hr'.map i _ hi
      have e1 : b = b' := by rw [hs] at k1; simpa using k1
      subst e1
      have e2 : mes = #[] := Array.eq_empty_of_size_eq_zero (by simpa using k4)
      subst e2
      exact (bindings_none b clock w (gT hr') k3).mono fun e w' ⟨he, hg⟩ => ⟨_, he, σ, hr'.grows hg, .grows hr' hg, .full .islNil⟩
    · exact primClone_ok f args h r h' hp' B A0 σ w vs hr hl ha
theorem okK (m : Nat) : Go.V.Ok Tryz.prog (callR CK m) := callR_ok (C := CK) good primK_ok m
end Go.VZ
