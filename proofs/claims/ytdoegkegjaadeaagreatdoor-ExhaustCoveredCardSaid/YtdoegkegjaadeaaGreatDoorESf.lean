/- Closed runs: the ways of calling for them; the examples of the chapters. -/
import Derived.Test.YtdoegkegjaadeaaGreatDoorESe
import Derived.Below
namespace Go.VZ
open Go Go.V Go.Proofs Go.RowKit
def opens : List Nat := [51, 52, 77, 85, 93, 94, 98, 100, 101, 102, 114, 126, 152, 153, 154, 157, 158, 159, 170, 174, 182, 183, 184, 185, 186, 187, 188, 189, 199, 201, 204, 217, 218, 224, 236, 238, 239, 240, 242, 243, 245, 248, 254, 265, 268, 269, 270, 272, 273, 274, 275, 276, 277, 278, 279, 281, 282, 288, 289, 290, 295, 296, 303, 304, 305, 306, 307, 308, 309, 310, 311, 312, 313, 315, 316, 317, 321, 322, 323, 326, 334, 335, 336, 337, 344, 345, 347, 360, 362, 368, 384, 391, 400, 401, 402, 410, 414, 416, 428, 429, 430, 431, 434, 438, 444, 445, 452, 455, 462, 463, 464, 481, 482, 483, 484, 485, 488]
def owns : List Nat := [11, 18, 23, 25, 40, 43, 49, 50, 56, 57, 63, 68, 73, 75, 76, 90, 96, 103, 109, 119, 120, 125, 129, 138, 139, 162, 168, 169, 177, 178, 193, 200, 202, 205, 226, 227, 235, 246, 249, 250, 252, 283, 331, 349, 353, 361, 367, 389, 396, 406, 435, 460, 461, 499]
def md2 : FuncId → Go.V.Mode := fun f => if opens.contains f then .openH else if owns.contains f then .ownM else .strip
def wr2 : FuncId → Tmp → Bool := fun _ _ => true
noncomputable def C2 : Cfg := { P := Tryz.prog, mode := md2, wr := wr2, prim := primClone, ext := ext, extOk := ext_ok, mix := fun f i => mixL.contains (f, i) }
theorem ok2 (m : Nat) : Go.V.Ok Tryz.prog (callR C2 m) := callR_ok (C := C2) good primClone_ok m
def isYes (x : Option (AV × H)) : Bool := match x with
  | some (.bool b, _) => b
  | _ => false
theorem isYes_some {x : Option (AV × H)} (h : isYes x = true) : ∃ h', x = some (.bool true, h') := by
  unfold isYes at h
  split at h
  · rename_i b h'; subst h; exact ⟨h', rfl⟩
  · cases h
/-- A closed run that answers yes. -/
theorem yes_calls {f : FuncId} {m : Nat} (hy : isYes (callR C2 m f [] []) = true) (hb : hasBody Tryz.prog f = true) (w : World) : Calls Tryz.prog f #[] w fun e w' => e = .returned (.bool true) ∧ Grows w w' := by
  obtain ⟨h1, hx⟩ := isYes_some hy
  refine ((ok2 m).fn f [] [] _ h1 hb hx w.heap.size (fun _ _ => True) [] w #[] (.start _) rfl (fun i a v ha => by simp at ha)).mono ?_
  rintro e w' ⟨v, rfl, σ', k1, k2, k3⟩
  exact ⟨by rw [rel_bool k3], of_below k2.below⟩
theorem yes_prim {f : FuncId} {m : Nat} (hy : isYes (callR C2 m f [] []) = true) (hb : hasBody Tryz.prog f = true) {args : List AV} {h h' : H} {r : AV} (hp : (match args with | [] => some (AV.bool true, h) | _ => none) = some (r, h')) :
    ∀ (B : Nat) (A0 : Nat → Nat → Prop) (σ : List (Option Nat)) (w : World) (vs : Array Value), HRel Tryz.prog B A0 σ h w → vs.size = args.length →
      Calls Tryz.prog f vs w (fun e w' => ∃ v, e = .returned v ∧ Go.V.Leaves Tryz.prog B A0 σ h w r h' v w') := by
  intro B A0 σ w vs hr hl
  split at hp <;> first | (cases hp; done) | skip
  simp only [Option.some.injEq, Prod.mk.injEq] at hp
  obtain ⟨rfl, rfl⟩ := hp
  have : vs = #[] := Array.eq_empty_of_size_eq_zero (by simpa using hl)
  subst this
  exact (yes_calls hy hb w).mono fun e w' ⟨he, hg⟩ => ⟨_, he, σ, hr.grows hg, .grows hr hg, .data (.bool true)⟩
end Go.VZ

/- The examples of chapter 40, run closed; the value machine of the walks is sound. -/
namespace Go.VZ
open Go Go.V Go.Proofs Go.RowKit
theorem awake40 : isYes (callR C2 4000 20 [] []) = true := by kernel_rfl
theorem prim_ok (f : FuncId) : PrimOk C.P f (C.prim f) := by
  intro args h r h' hp B A0 σ w vs hr hl ha
  have hp' : prim f args h = some (r, h') := hp
  unfold prim at hp'
  split at hp'
  · rename_i hf; subst hf
    exact yes_prim awake40 (by kernel_rfl) hp' B A0 σ w vs hr hl
  · exact primClone_ok f args h r h' hp' B A0 σ w vs hr hl ha
theorem ok : Go.V.Ok C.P (Go.V.Call C) := Call_ok good prim_ok
end Go.VZ
