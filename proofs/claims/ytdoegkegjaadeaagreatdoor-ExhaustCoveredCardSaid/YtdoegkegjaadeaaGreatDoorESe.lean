/- From the value machine to the model, at this seat: what is asked of the program; the copies of empty slices. -/
import Derived.Test.YtdoegkegjaadeaaGreatDoorESa
import Derived.WalkKit
import Derived.ProofKit
namespace Go.VZ
open Go Go.V Go.Proofs Go.RowKit
def namesOk (P : Program) : Bool := P.funcs.all fun fn => !(fn.name == "runtime.NumGoroutine")
theorem good : Go.V.Good C.P where
  names := fun f fn hf => by
    have h : namesOk Tryz.prog = true := by kernel_rfl
    have := Array.all_eq_true_iff_forall_mem.1 h fn (Array.mem_of_getElem? hf)
    simpa using this
  mixed := by kernel_rfl
theorem run_equalIn_nil_nil (t e d : Nat) (w : World) (hu : Tryz.prog.underlying t = some (.slice e)) : (Op.equalIn (d + 1) t (.slice none 0 0) (.slice none 0 0)).run Tryz.prog w = .ok true w := by
  simp only [Op.equalIn, Sem.run_bind, run_under hu, Result.andThen_ok]; rfl
theorem eq_nilT (t e : Nat) (w : World) (hu : Tryz.prog.underlying t = some (.slice e)) : (binOp .eql t (.slice none 0 0) (.slice none 0 0)).run Tryz.prog w = .ok (.bool true) w := by
  have : Op.equal t (.slice none 0 0) (.slice none 0 0) = Op.equalIn (9999 + 1) t (.slice none 0 0) (.slice none 0 0) := rfl
  simp only [binOp, this, Sem.run_bind, Sem.run_pure, Result.andThen_ok, run_equalIn_nil_nil t e 9999 w hu]
theorem eq_nonT (t e : Nat) (w : World) (a : Addr) (c : Nat) (hu : Tryz.prog.underlying t = some (.slice e)) : (binOp .eql t (.slice (some a) 0 c) (.slice none 0 0)).run Tryz.prog w = .ok (.bool false) w := by
  have : Op.equal t (.slice (some a) 0 c) (.slice none 0 0) = Op.equalIn (9999 + 1) t (.slice (some a) 0 c) (.slice none 0 0) := rfl
  simp only [binOp, this, Sem.run_bind, Sem.run_pure, Result.andThen_ok, run_equalIn_slice_nil 9999 a 0 c hu]
/-- What a function does that copies a slice, where it is empty. -/
def Clones (f : FuncId) : Prop := (∀ w, Calls Tryz.prog f #[.slice none 0 0] w fun e w' => e = .returned (.slice none 0 0) ∧ Grows w w') ∧
  ∀ (a : Addr) (c : Nat) (w : World), Calls Tryz.prog f #[.slice (some a) 0 c] w fun e w' => (∃ b, e = .returned (.slice (some b) 0 0)) ∧ Grows w w'
section
@[local go_sem] theorem eq_nil11 (w : World) : (binOp .eql 22 (.slice none 0 0) (.slice none 0 0)).run Tryz.prog w = .ok (.bool true) w := eq_nilT _ _ w Tryz.underlying22
@[local go_sem] theorem eq_non11 (w : World) (a : Addr) (c : Nat) : (binOp .eql 22 (.slice (some a) 0 c) (.slice none 0 0)).run Tryz.prog w = .ok (.bool false) w := eq_nonT _ _ w a c Tryz.underlying22
theorem clones11 : Clones 11 := by
  constructor
  · intro w
    go_enter Tryz.func11, Tryz.ntmps11
    go_wp2
    go_ret
    exact ⟨rfl, .refl _⟩
  · intro a c w
    go_enter Tryz.func11, Tryz.ntmps11
    go_wp2
    go_ret
    exact ⟨⟨_, rfl⟩, .alloc _ _⟩
end
section
@[local go_sem] theorem eq_nil18 (w : World) : (binOp .eql 42 (.slice none 0 0) (.slice none 0 0)).run Tryz.prog w = .ok (.bool true) w := eq_nilT _ _ w Tryz.underlying42
@[local go_sem] theorem eq_non18 (w : World) (a : Addr) (c : Nat) : (binOp .eql 42 (.slice (some a) 0 c) (.slice none 0 0)).run Tryz.prog w = .ok (.bool false) w := eq_nonT _ _ w a c Tryz.underlying42
theorem clones18 : Clones 18 := by
  constructor
  · intro w
    go_enter Tryz.func18, Tryz.ntmps18
    go_wp2
    go_ret
    exact ⟨rfl, .refl _⟩
  · intro a c w
    go_enter Tryz.func18, Tryz.ntmps18
    go_wp2
    go_ret
    exact ⟨⟨_, rfl⟩, .alloc _ _⟩
end
section
@[local go_sem] theorem eq_nil23 (w : World) : (binOp .eql 47 (.slice none 0 0) (.slice none 0 0)).run Tryz.prog w = .ok (.bool true) w := eq_nilT _ _ w Tryz.underlying47
@[local go_sem] theorem eq_non23 (w : World) (a : Addr) (c : Nat) : (binOp .eql 47 (.slice (some a) 0 c) (.slice none 0 0)).run Tryz.prog w = .ok (.bool false) w := eq_nonT _ _ w a c Tryz.underlying47
theorem clones23 : Clones 23 := by
  constructor
  · intro w
    go_enter Tryz.func23, Tryz.ntmps23
    go_wp2
    go_ret
    exact ⟨rfl, .refl _⟩
  · intro a c w
    go_enter Tryz.func23, Tryz.ntmps23
    go_wp2
    go_ret
    exact ⟨⟨_, rfl⟩, .alloc _ _⟩
end
section
@[local go_sem] theorem eq_nil43 (w : World) : (binOp .eql 50 (.slice none 0 0) (.slice none 0 0)).run Tryz.prog w = .ok (.bool true) w := eq_nilT _ _ w Tryz.underlying50
@[local go_sem] theorem eq_non43 (w : World) (a : Addr) (c : Nat) : (binOp .eql 50 (.slice (some a) 0 c) (.slice none 0 0)).run Tryz.prog w = .ok (.bool false) w := eq_nonT _ _ w a c Tryz.underlying50
theorem clones43 : Clones 43 := by
  constructor
  · intro w
    go_enter Tryz.func43, Tryz.ntmps43
    go_wp2
    go_ret
    exact ⟨rfl, .refl _⟩
  · intro a c w
    go_enter Tryz.func43, Tryz.ntmps43
    go_wp2
    go_ret
    exact ⟨⟨_, rfl⟩, .alloc _ _⟩
end
section
@[local go_sem] theorem eq_nil96 (w : World) : (binOp .eql 33 (.slice none 0 0) (.slice none 0 0)).run Tryz.prog w = .ok (.bool true) w := eq_nilT _ _ w Tryz.underlying33
@[local go_sem] theorem eq_non96 (w : World) (a : Addr) (c : Nat) : (binOp .eql 33 (.slice (some a) 0 c) (.slice none 0 0)).run Tryz.prog w = .ok (.bool false) w := eq_nonT _ _ w a c Tryz.underlying33
theorem clones96 : Clones 96 := by
  constructor
  · intro w
    go_enter Tryz.func96, Tryz.ntmps96
    go_wp2
    go_ret
    exact ⟨rfl, .refl _⟩
  · intro a c w
    go_enter Tryz.func96, Tryz.ntmps96
    go_wp2
    go_ret
    exact ⟨⟨_, rfl⟩, .alloc _ _⟩
end
section
@[local go_sem] theorem eq_nil193 (w : World) : (binOp .eql 23 (.slice none 0 0) (.slice none 0 0)).run Tryz.prog w = .ok (.bool true) w := eq_nilT _ _ w Tryz.underlying23
@[local go_sem] theorem eq_non193 (w : World) (a : Addr) (c : Nat) : (binOp .eql 23 (.slice (some a) 0 c) (.slice none 0 0)).run Tryz.prog w = .ok (.bool false) w := eq_nonT _ _ w a c Tryz.underlying23
theorem clones193 : Clones 193 := by
  constructor
  · intro w
    go_enter Tryz.func193, Tryz.ntmps193
    go_wp2
    go_ret
    exact ⟨rfl, .refl _⟩
  · intro a c w
    go_enter Tryz.func193, Tryz.ntmps193
    go_wp2
    go_ret
    exact ⟨⟨_, rfl⟩, .alloc _ _⟩
end
section
@[local go_sem] theorem eq_nil349 (w : World) : (binOp .eql 248 (.slice none 0 0) (.slice none 0 0)).run Tryz.prog w = .ok (.bool true) w := eq_nilT _ _ w Tryz.underlying248
@[local go_sem] theorem eq_non349 (w : World) (a : Addr) (c : Nat) : (binOp .eql 248 (.slice (some a) 0 c) (.slice none 0 0)).run Tryz.prog w = .ok (.bool false) w := eq_nonT _ _ w a c Tryz.underlying248
theorem clones349 : Clones 349 := by
  constructor
  · intro w
    go_enter Tryz.func349, Tryz.ntmps349
    go_wp2
    go_ret
    exact ⟨rfl, .refl _⟩
  · intro a c w
    go_enter Tryz.func349, Tryz.ntmps349
    go_wp2
    go_ret
    exact ⟨⟨_, rfl⟩, .alloc _ _⟩
end
section
@[local go_sem] theorem eq_nil361 (w : World) : (binOp .eql 314 (.slice none 0 0) (.slice none 0 0)).run Tryz.prog w = .ok (.bool true) w := eq_nilT _ _ w Tryz.underlying314
@[local go_sem] theorem eq_non361 (w : World) (a : Addr) (c : Nat) : (binOp .eql 314 (.slice (some a) 0 c) (.slice none 0 0)).run Tryz.prog w = .ok (.bool false) w := eq_nonT _ _ w a c Tryz.underlying314
theorem clones361 : Clones 361 := by
  constructor
  · intro w
    go_enter Tryz.func361, Tryz.ntmps361
    go_wp2
    go_ret
    exact ⟨rfl, .refl _⟩
  · intro a c w
    go_enter Tryz.func361, Tryz.ntmps361
    go_wp2
    go_ret
    exact ⟨⟨_, rfl⟩, .alloc _ _⟩
end
section
@[local go_sem] theorem eq_nil435 (w : World) : (binOp .eql 359 (.slice none 0 0) (.slice none 0 0)).run Tryz.prog w = .ok (.bool true) w := eq_nilT _ _ w Tryz.underlying359
@[local go_sem] theorem eq_non435 (w : World) (a : Addr) (c : Nat) : (binOp .eql 359 (.slice (some a) 0 c) (.slice none 0 0)).run Tryz.prog w = .ok (.bool false) w := eq_nonT _ _ w a c Tryz.underlying359
theorem clones435 : Clones 435 := by
  constructor
  · intro w
    go_enter Tryz.func435, Tryz.ntmps435
    go_wp2
    go_ret
    exact ⟨rfl, .refl _⟩
  · intro a c w
    go_enter Tryz.func435, Tryz.ntmps435
    go_wp2
    go_ret
    exact ⟨⟨_, rfl⟩, .alloc _ _⟩
end
section
@[local go_sem] theorem eq_nil460 (w : World) : (binOp .eql 402 (.slice none 0 0) (.slice none 0 0)).run Tryz.prog w = .ok (.bool true) w := eq_nilT _ _ w Tryz.underlying402
@[local go_sem] theorem eq_non460 (w : World) (a : Addr) (c : Nat) : (binOp .eql 402 (.slice (some a) 0 c) (.slice none 0 0)).run Tryz.prog w = .ok (.bool false) w := eq_nonT _ _ w a c Tryz.underlying402
theorem clones460 : Clones 460 := by
  constructor
  · intro w
    go_enter Tryz.func460, Tryz.ntmps460
    go_wp2
    go_ret
    exact ⟨rfl, .refl _⟩
  · intro a c w
    go_enter Tryz.func460, Tryz.ntmps460
    go_wp2
    go_ret
    exact ⟨⟨_, rfl⟩, .alloc _ _⟩
end
theorem clones (f : FuncId) (hf : cloneIds.contains f = true) : Clones f := by
  simp only [cloneIds, List.contains_cons, Bool.or_eq_true, beq_iff_eq, List.contains_nil, Bool.false_eq_true, or_false] at hf
  rcases hf with rfl | rfl | rfl | rfl | rfl | rfl | rfl | rfl | rfl | rfl
  · exact clones11
  · exact clones18
  · exact clones23
  · exact clones43
  · exact clones96
  · exact clones193
  · exact clones349
  · exact clones361
  · exact clones435
  · exact clones460
theorem primClone_ok (f : FuncId) : PrimOk Tryz.prog f (primClone f) := by
  intro args h r h' hp B A0 σ w vs hr hl ha
  unfold primClone at hp
  split at hp <;> first | (cases hp; done) | skip
  rename_i hf
  obtain ⟨c1, c2⟩ := clones f hf
  split at hp <;> first | (cases hp; done) | skip
  rename_i x
  simp only [Option.some.injEq, Prod.mk.injEq] at hp
  obtain ⟨rfl, rfl⟩ := hp
  obtain ⟨v, rfl⟩ : ∃ v, vs = #[v] := by
    have : vs.size = 1 := hl
    exact ⟨vs[0], by apply Array.ext <;> simp [this]; intro i hi; subst hi; rfl⟩
  have hv := rel_isl (ha 0 _ v rfl rfl)
  cases hv with
  | islNil => exact (c1 w).mono fun e w' ⟨he, hg⟩ => ⟨_, he, σ, hr.grows hg, .grows hr hg, .full .islNil⟩
  | islEmpty a c hm => exact (c2 a c w).mono fun e w' ⟨⟨b, he⟩, hg⟩ => ⟨_, he, σ, hr.grows hg, .grows hr hg, .full (.islEmpty b 0 (by simp [maxLen]))⟩
  | isl f hz hc hm h0 h1 h2 h3 => exact (c2 _ _ w).mono fun e w' ⟨⟨b, he⟩, hg⟩ => ⟨_, he, σ, hr.grows hg, .grows hr hg, .full (.islEmpty b 0 (by simp [maxLen]))⟩
end Go.VZ
