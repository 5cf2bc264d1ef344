/- The value machine without fuel: equations to compute with. -/
import Derived.Test.YtdoegkegjaadeaaGreatDoorQV16
namespace Go.V
open Go

abbrev Run := FuncId → List AV → H → Option (AV × H)
def Run.le (r r' : Run) : Prop := ∀ f args h x, r f args h = some x → r' f args h = some x

section
variable {C : Cfg} {r r' : Run}
theorem applyCall_le (hl : Run.le r r') {f : FuncId} {args : List AV} {h : H} {x : AV × H} (hh : applyCall C r f args h = some x) : applyCall C r' f args h = some x := by
  unfold applyCall at hh ⊢
  split at hh
  · rename_i hm; exact hl _ _ _ _ hh
  · split at hh <;> first | (cases hh; done) | skip
    rename_i r1 h1 hf
    rw [hl _ _ _ _ hf]
    exact hh
  · split at hh <;> first | (cases hh; done) | skip
    rename_i r1 h1 hf
    rw [hl _ _ _ _ hf]
    exact hh
  · rename_i m hm
    split at hh <;> first | (cases hh; done) | skip
    rename_i as hsn
    split at hh <;> first | (cases hh; done) | skip
    rename_i r1 h1 hf
    rw [hl _ _ _ _ hf]
    exact hh
theorem opA_le (hl : Run.le r r') {cf : FuncId} {s : PT} {h : H} {o : Oper} {x : AV × H} (hh : opA C r cf s h o = some x) : opA C r' cf s h o = some x := by
  unfold opA at hh ⊢
  split at hh <;> try exact hh
  rename_i f args argTypes ho
  split at hh <;> first | (cases hh; done) | skip
  · rename_i g captured l hx hlx
    split at hh
    · rename_i hb
      rw [if_pos hb]
      exact applyCall_le hl hh
    · rename_i hb
      rw [if_neg hb]
      exact hh
  · exact hl _ _ _ _ hh
theorem opV_le (hl : Run.le r r') {cf : FuncId} {s : PT} {h : H} {o : Oper} {x : AV × H} (hh : opV C r cf s h o = some x) : opV C r' cf s h o = some x := by
  unfold opV at hh ⊢
  split
  · rename_i ha; rw [if_pos ha] at hh; exact opA_le hl hh
  · rename_i ha; rw [if_neg ha] at hh; exact hh
theorem runOps_le (hl : Run.le r r') {cf : FuncId} {ops : Array Oper} : ∀ (l : List Oper) (s : PT) (h : H) (x : PT × H), runOps C r cf ops l s h = some x → runOps C r' cf ops l s h = some x := by
  intro l
  induction l with
  | nil => intro s h x hh; exact hh
  | cons o l ih =>
    intro s h x hh
    simp only [runOps] at hh ⊢
    split
    · rename_i hw
      rw [if_pos hw] at hh
      split at hh <;> first | (cases hh; done) | skip
      rename_i v h1 hv
      rw [opV_le hl hv]
      exact ih _ _ _ hh
    · rename_i hw
      rw [if_neg hw] at hh
      exact ih _ _ _ hh
theorem drawIds_le (hl : Run.le r r') {cf : FuncId} {ops : Array Oper} : ∀ (l : List Oper) (s : PT) (h : H) (x : PT × H), runOps C r cf ops l s h = some x → drawIds C r' cf ops l s h = drawIds C r cf ops l s h := by
  intro l
  induction l with
  | nil => intro s h x _; rfl
  | cons o l ih =>
    intro s h x hh
    simp only [runOps] at hh
    simp only [drawIds]
    split at hh
    · rename_i hw
      split at hh <;> first | (cases hh; done) | skip
      rename_i v h1 hv
      rw [if_pos hw, if_pos hw, opV_le hl hv]
      dsimp only
      rw [ih _ _ _ hh]
    · rename_i hw
      rw [if_neg hw, if_neg hw]
      exact ih _ _ _ hh
theorem drawOk_le (hl : Run.le r r') {cf : FuncId} {ops : Array Oper} {d : Bool} {s : PT} {h : H} {x : PT × H} (hh : runOps C r cf ops ops.toList s h = some x) : drawOk C r' cf ops d s h = drawOk C r cf ops d s h := by
  unfold drawOk
  rw [drawIds_le hl _ _ _ _ hh]
theorem mixStep_le (hl : Run.le r r') {cf : FuncId} {ops : Array Oper} {base i : Nat} {o : Oper} {s : PT} {h : H} {x : AV × H × FP} (hh : mixStep C r cf ops base i o s h = some x) : mixStep C r' cf ops base i o s h = some x := by
  unfold mixStep at hh ⊢
  split
  · rename_i hw
    rw [if_pos hw] at hh
    split at hh <;> first | (cases hh; done) | skip
    rename_i T wr v h' hf hv
    rw [hf, opV_le hl hv]
    exact hh
  · rename_i hw
    rw [if_neg hw] at hh
    exact hh
theorem mixTo_le (hl : Run.le r r') {cf : FuncId} {ops : Array Oper} {base : Nat} : ∀ (m : Nat) (s : PT) (h : H) (x : PT × H × List FP), mixTo C r cf ops base m s h = some x → mixTo C r' cf ops base m s h = some x := by
  intro m
  induction m with
  | zero => intro s h x hh; exact hh
  | succ m ih =>
    intro s h x hh
    simp only [mixTo] at hh ⊢
    split at hh <;> first | (cases hh; done) | skip
    rename_i s1 h1 F o hm ho
    split at hh <;> first | (cases hh; done) | skip
    rename_i v h2 f hst
    rw [ih _ _ _ hm, ho]
    dsimp only
    rw [mixStep_le hl hst]
    exact hh
theorem mixV_le (hl : Run.le r r') {cf : FuncId} {ops : Array Oper} {s : PT} {h : H} {x : PT × H} (hh : mixV C r cf ops s h = some x) : mixV C r' cf ops s h = some x := by
  unfold mixV at hh ⊢
  split
  · rename_i ht
    rw [if_pos ht] at hh
    split at hh <;> first | (cases hh; done) | skip
    rename_i s1 h1 F hm
    rw [mixTo_le hl _ _ _ _ hm]
    exact hh
  · rename_i ht
    rw [if_neg ht] at hh; exact hh
theorem exec_le (hl : Run.le r r') {cf : FuncId} : ∀ (n m : Nat), n ≤ m → ∀ (c : Code) (s : PT) (h : H) (x : Ex × PT × H), exec C r cf n c s h = some x → exec C r' cf m c s h = some x := by
  intro n
  induction n with
  | zero => intro m _ c s h x hh; simp [exec] at hh
  | succ n ih =>
    intro m hm c s h x hh
    obtain ⟨m, rfl⟩ : ∃ k, m = k + 1 := ⟨m - 1, by omega⟩
    have ih := ih m (by omega)
    cases c <;> simp only [exec] at hh ⊢ <;> try exact hh
    · split at hh
      · rename_i hmx
        rw [if_pos hmx]
        split at hh <;> first | (cases hh; done) | skip
        rename_i s1 h1 ho
        rw [mixV_le hl ho]; exact hh
      rename_i hmx
      rw [if_neg hmx]
      split at hh <;> first | (cases hh; done) | skip
      rename_i s1 h1 ho
      rw [runOps_le hl _ _ _ _ ho]
      dsimp only
      rw [drawOk_le hl ho]; exact hh
    · split at hh
      · rename_i s1 h1 hb
        rw [ih _ _ _ _ hb]; exact ih _ _ _ _ hh
      · rename_i hno
        rw [ih _ _ _ _ hh]
        split
        · rename_i s1 h1 e; exact absurd (hh.trans e) (hno _ _)
        · rfl
    · split at hh <;> first | (cases hh; done) | skip
      · rename_i hc; exact ih _ _ _ _ hh
      · rename_i hc; exact ih _ _ _ _ hh
    · split at hh
      · rename_i i s1 h1 hb
        rw [ih _ _ _ _ hb]; exact hh
      · rename_i hno
        rw [ih _ _ _ _ hh]
        split
        · rename_i i s1 h1 e; exact absurd (hh.trans e) (hno _ _ _)
        · rfl
    · split at hh
      · rename_i s1 h1 hb
        rw [ih _ _ _ _ hb]; exact ih _ _ _ _ hh
      · rename_i hno
        rw [ih _ _ _ _ hh]
        split
        · rename_i s1 h1 e; exact absurd (hh.trans e) (hno _ _)
        · rfl
    · split at hh <;> first | (cases hh; done) | skip
      split at hh <;> first | (cases hh; done) | skip
      rename_i hb
      rw [if_pos hb]
      split at hh <;> first | (cases hh; done) | skip
      rename_i v h2 hc
      rw [hl _ _ _ _ hc]; exact hh
theorem roundV_le (hl : Run.le r r') {n m i : Nat} (hnm : n ≤ m) {args : List AV} {h : H} {x : AV × H} (hh : roundV C r n i args h = some x) : roundV C r' m i args h = some x := by
  unfold roundV at hh ⊢
  split at hh <;> first | (cases hh; done) | skip
  split at hh <;> first | (cases hh; done) | skip
  rename_i hc
  rw [if_pos hc]
  split at hh <;> first | (cases hh; done) | skip
  rename_i s1 h1 hx1
  rw [exec_le hl _ _ hnm _ _ _ _ hx1]
  dsimp only
  split at hh <;> first | (cases hh; done) | skip
  split at hh <;> first | (cases hh; done) | skip
  rename_i e s2 h2 hx2
  rw [exec_le hl _ _ hnm _ _ _ _ hx2]
  exact hh
theorem callR_le : ∀ (n m : Nat), n ≤ m → Run.le (callR C n) (callR C m) := by
  intro n
  induction n with
  | zero => intro m _ f args h x hh; simp [callR] at hh
  | succ n ih =>
    intro m hm f args h x hh
    obtain ⟨m, rfl⟩ : ∃ k, m = k + 1 := ⟨m - 1, by omega⟩
    simp only [callR] at hh ⊢
    split at hh
    · rename_i hno
      split at hh <;> first | (cases hh; done) | skip
      rename_i hy
      rw [if_pos hy]
      exact roundV_le (ih m (by omega)) (by omega) hh
    rename_i fn hf
    split at hh
    · rename_i z hz; exact hh
    split at hh <;> first | (cases hh; done) | skip
    rename_i c hb
    split at hh <;> first | (cases hh; done) | skip
    rename_i hc
    rw [if_pos hc]
    split at hh <;> first | (cases hh; done) | skip
    · rename_i s1 h1 hx
      rw [exec_le (ih m (by omega)) n m (by omega) _ _ _ _ hx]; exact hh
    · rename_i s1 h1 hx
      rw [exec_le (ih m (by omega)) n m (by omega) _ _ _ _ hx]; exact hh

/-- The call's outcome, if some fuel is enough. -/
noncomputable def Call (C : Cfg) (f : FuncId) (args : List AV) (h : H) : Option (AV × H) :=
  open Classical in if hx : ∃ n x, callR C n f args h = some x then some hx.choose_spec.choose else none
noncomputable def Exe (C : Cfg) (cf : FuncId) (c : Code) (s : PT) (h : H) : Option (Ex × PT × H) :=
  open Classical in if hx : ∃ n x, exec C (callR C n) cf n c s h = some x then some hx.choose_spec.choose else none

theorem Call_iff {f : FuncId} {args : List AV} {h : H} {x : AV × H} : Call C f args h = some x ↔ ∃ n, callR C n f args h = some x := by
  unfold Call
  constructor
  · intro hh
    split at hh <;> first | (cases hh; done) | skip
    rename_i hx
    simp only [Option.some.injEq] at hh
    exact ⟨hx.choose, by rw [← hh]; exact hx.choose_spec.choose_spec⟩
  · rintro ⟨n, hn⟩
    have hx : ∃ n x, callR C n f args h = some x := ⟨n, x, hn⟩
    rw [dif_pos hx]
    have h1 := hx.choose_spec.choose_spec
    have a := callR_le hx.choose (max hx.choose n) (Nat.le_max_left _ _) _ _ _ _ h1
    have b := callR_le n (max hx.choose n) (Nat.le_max_right _ _) _ _ _ _ hn
    exact a.symm.trans b
theorem Exe_iff {cf : FuncId} {c : Code} {s : PT} {h : H} {x : Ex × PT × H} : Exe C cf c s h = some x ↔ ∃ n, exec C (callR C n) cf n c s h = some x := by
  unfold Exe
  constructor
  · intro hh
    split at hh <;> first | (cases hh; done) | skip
    rename_i hx
    simp only [Option.some.injEq] at hh
    exact ⟨hx.choose, by rw [← hh]; exact hx.choose_spec.choose_spec⟩
  · rintro ⟨n, hn⟩
    have hx : ∃ n x, exec C (callR C n) cf n c s h = some x := ⟨n, x, hn⟩
    rw [dif_pos hx]
    have h1 := hx.choose_spec.choose_spec
    have a := exec_le (callR_le hx.choose (max hx.choose n) (Nat.le_max_left _ _)) (cf := cf) hx.choose (max hx.choose n) (Nat.le_max_left _ _) _ _ _ _ h1
    have b := exec_le (callR_le n (max hx.choose n) (Nat.le_max_right _ _)) (cf := cf) n (max hx.choose n) (Nat.le_max_right _ _) _ _ _ _ hn
    exact a.symm.trans b

theorem callR_Call (n : Nat) : Run.le (callR C n) (Call C) := fun _ _ _ _ hh => Call_iff.2 ⟨n, hh⟩

/-- A call that the kernel has run. -/
theorem Call_of {f : FuncId} {args : List AV} {h : H} {x : AV × H} (n : Nat) (hh : callR C n f args h = some x) : Call C f args h = some x := Call_iff.2 ⟨n, hh⟩

theorem applyCall_cont {f : FuncId} {args : List AV} {h : H} {x : AV × H} (hh : applyCall C (Call C) f args h = some x) : ∃ n, applyCall C (callR C n) f args h = some x := by
  unfold applyCall at hh
  split at hh
  · rename_i hm
    obtain ⟨n, hn⟩ := Call_iff.1 hh
    exact ⟨n, by unfold applyCall; rw [hm]; exact hn⟩
  · rename_i hm
    split at hh <;> first | (cases hh; done) | skip
    rename_i r1 h1 hf
    obtain ⟨n, hn⟩ := Call_iff.1 hf
    exact ⟨n, by unfold applyCall; rw [hm]; dsimp only; rw [hn]; exact hh⟩
  · rename_i hm
    split at hh <;> first | (cases hh; done) | skip
    rename_i r1 h1 hf
    obtain ⟨n, hn⟩ := Call_iff.1 hf
    exact ⟨n, by unfold applyCall; rw [hm]; dsimp only; rw [hn]; exact hh⟩
  · rename_i hm0 hm hm2
    split at hh <;> first | (cases hh; done) | skip
    rename_i as hsn
    split at hh <;> first | (cases hh; done) | skip
    rename_i r1 h1 hf
    obtain ⟨n, hn⟩ := Call_iff.1 hf
    refine ⟨n, ?_⟩
    unfold applyCall
    split
    · exact absurd ‹_› hm0
    · exact absurd ‹_› hm
    · exact absurd ‹_› hm2
    · rw [hsn]; dsimp only; rw [hn]; exact hh
theorem opV_cont {cf : FuncId} {s : PT} {h : H} {o : Oper} {x : AV × H} (hh : opV C (Call C) cf s h o = some x) : ∃ n, opV C (callR C n) cf s h o = some x := by
  unfold opV at hh
  split at hh
  · rename_i ha
    have : ∃ n, opA C (callR C n) cf s h o = some x := by
      unfold opA at hh
      split at hh
      case h_8 f args argTypes ho =>
        split at hh <;> first | (cases hh; done) | skip
        · rename_i g captured l hx hlx
          split at hh
          · rename_i hb
            obtain ⟨n, hn⟩ := applyCall_cont hh
            refine ⟨n, ?_⟩
            unfold opA
            rw [ho]
            dsimp only
            rw [hx, hlx]
            dsimp only
            rw [if_pos hb]; exact hn
          · rename_i hb
            refine ⟨0, ?_⟩
            unfold opA
            rw [ho]
            dsimp only
            rw [hx, hlx]
            dsimp only
            rw [if_neg hb]; exact hh
        · rename_i i l hx hlx
          obtain ⟨n, hn⟩ := Call_iff.1 hh
          refine ⟨n, ?_⟩
          unfold opA
          rw [ho]
          dsimp only
          rw [hx, hlx]
          exact hn
      all_goals first | (cases hh; done) | (refine ⟨0, ?_⟩; unfold opA; rename_i ho; rw [ho]; exact hh)
    obtain ⟨n, hn⟩ := this
    exact ⟨n, by unfold opV; rw [if_pos ha]; exact hn⟩
  · rename_i ha
    exact ⟨0, by unfold opV; rw [if_neg ha]; exact hh⟩
theorem runOps_cont {cf : FuncId} {ops : Array Oper} : ∀ (l : List Oper) (s : PT) (h : H) (x : PT × H), runOps C (Call C) cf ops l s h = some x → ∃ n, runOps C (callR C n) cf ops l s h = some x := by
  intro l
  induction l with
  | nil => intro s h x hh; exact ⟨0, hh⟩
  | cons o l ih =>
    intro s h x hh
    simp only [runOps] at hh
    split at hh
    · rename_i hw
      split at hh <;> first | (cases hh; done) | skip
      rename_i v h1 hv
      obtain ⟨n, hn⟩ := opV_cont hv
      obtain ⟨m, hm⟩ := ih _ _ _ hh
      refine ⟨max n m, ?_⟩
      simp only [runOps]
      rw [if_pos hw, opV_le (callR_le n (max n m) (Nat.le_max_left _ _)) hn]
      exact runOps_le (callR_le m (max n m) (Nat.le_max_right _ _)) _ _ _ _ hm
    · rename_i hw
      obtain ⟨m, hm⟩ := ih _ _ _ hh
      refine ⟨m, ?_⟩
      simp only [runOps]
      rw [if_neg hw]; exact hm

theorem opt_ext {α : Type} {a b : Option α} (h : ∀ x, a = some x ↔ b = some x) : a = b := by
  cases a with
  | none => cases b with
    | none => rfl
    | some y => have := (h y).2 rfl; cases this
  | some x => exact ((h x).1 rfl).symm

section
variable {cf : FuncId} {s : PT} {h : H}
theorem Exe_skip : Exe C cf .skip s h = some (.normal, s, h) := Exe_iff.2 ⟨1, rfl⟩
theorem Exe_exit (id : Nat) : Exe C cf (.exit id) s h = some (.exit id, s, h) := Exe_iff.2 ⟨1, rfl⟩
theorem Exe_ret : Exe C cf .ret s h = some (.ret, s, h) := Exe_iff.2 ⟨1, rfl⟩
theorem mixStep_cont {cf : FuncId} {ops : Array Oper} {base i : Nat} {o : Oper} {s : PT} {h : H} {x : AV × H × FP} (hh : mixStep C (Call C) cf ops base i o s h = some x) : ∃ n, mixStep C (callR C n) cf ops base i o s h = some x := by
  unfold mixStep at hh
  split at hh
  · rename_i hw
    split at hh <;> first | (cases hh; done) | skip
    rename_i T wr v h' hf hv
    obtain ⟨n, hn⟩ := opV_cont hv
    exact ⟨n, by unfold mixStep; rw [if_pos hw, hf, hn]; exact hh⟩
  · rename_i hw
    exact ⟨0, by unfold mixStep; rw [if_neg hw]; exact hh⟩
theorem mixTo_cont {cf : FuncId} {ops : Array Oper} {base : Nat} : ∀ (m : Nat) (s : PT) (h : H) (x : PT × H × List FP), mixTo C (Call C) cf ops base m s h = some x → ∃ n, mixTo C (callR C n) cf ops base m s h = some x := by
  intro m
  induction m with
  | zero => intro s h x hh; exact ⟨0, hh⟩
  | succ m ih =>
    intro s h x hh
    simp only [mixTo] at hh
    split at hh <;> first | (cases hh; done) | skip
    rename_i s1 h1 F o hm ho
    split at hh <;> first | (cases hh; done) | skip
    rename_i v h2 f hst
    obtain ⟨n1, hn1⟩ := ih _ _ _ hm
    obtain ⟨n2, hn2⟩ := mixStep_cont hst
    refine ⟨max n1 n2, ?_⟩
    simp only [mixTo]
    rw [mixTo_le (callR_le n1 (max n1 n2) (Nat.le_max_left _ _)) _ _ _ _ hn1, ho]
    dsimp only
    rw [mixStep_le (callR_le n2 (max n1 n2) (Nat.le_max_right _ _)) hn2]
    exact hh
theorem mixV_cont {cf : FuncId} {ops : Array Oper} {s : PT} {h : H} {x : PT × H} (hh : mixV C (Call C) cf ops s h = some x) : ∃ n, mixV C (callR C n) cf ops s h = some x := by
  unfold mixV at hh
  split at hh
  · rename_i ht
    split at hh <;> first | (cases hh; done) | skip
    rename_i s1 h1 F hm
    obtain ⟨n, hn⟩ := mixTo_cont _ _ _ _ hm
    exact ⟨n, by unfold mixV; rw [if_pos ht, hn]; exact hh⟩
  · cases hh
theorem Exe_mix (id : Nat) (ops : Array Oper) (hm : C.mix cf id = true) : Exe C cf (.region id ops true) s h = (match mixV C (Call C) cf ops s h with | some (s', h') => some (.normal, s', h') | none => none) := by
  have hc : (true && C.mix cf id) = true := by simpa using hm
  apply opt_ext
  intro x
  rw [Exe_iff]
  constructor
  · rintro ⟨n, hn⟩
    cases n with
    | zero => simp [exec] at hn
    | succ n =>
      simp only [exec] at hn
      rw [if_pos hc] at hn
      split at hn <;> first | (cases hn; done) | skip
      rename_i s1 h1 ho
      rw [mixV_le (callR_Call (n + 1)) ho]
      exact hn
  · intro hh
    split at hh <;> first | (cases hh; done) | skip
    rename_i s1 h1 ho
    obtain ⟨n, hn⟩ := mixV_cont ho
    refine ⟨n + 1, ?_⟩
    simp only [exec]
    rw [if_pos hc, mixV_le (callR_le n (n + 1) (by omega)) hn]
    exact hh
theorem Exe_region (id : Nat) (ops : Array Oper) (d : Bool) (hm : (d && C.mix cf id) = false) : Exe C cf (.region id ops d) s h = (match runOps C (Call C) cf ops ops.toList s h with | some (s', h') => if drawOk C (Call C) cf ops d s h then some (.normal, s', h') else none | none => none) := by
  have hc : ¬ (d && C.mix cf id) = true := by rw [hm]; simp
  apply opt_ext
  intro x
  rw [Exe_iff]
  constructor
  · rintro ⟨n, hn⟩
    cases n with
    | zero => simp [exec] at hn
    | succ n =>
      simp only [exec] at hn
      rw [if_neg hc] at hn
      split at hn <;> first | (cases hn; done) | skip
      rename_i s1 h1 ho
      rw [runOps_le (callR_Call (n + 1)) _ _ _ _ ho]
      dsimp only
      rw [drawOk_le (callR_Call (n + 1)) ho]; exact hn
  · intro hh
    split at hh <;> first | (cases hh; done) | skip
    rename_i s1 h1 ho
    obtain ⟨n, hn⟩ := runOps_cont _ _ _ _ ho
    refine ⟨n + 1, ?_⟩
    simp only [exec]
    rw [if_neg hc]
    have hn1 := runOps_le (callR_le n (n + 1) (by omega)) _ _ _ _ hn
    rw [hn1]
    dsimp only
    rw [← drawOk_le (callR_Call (n + 1)) hn1]; exact hh
theorem Exe_up {c : Code} {x : Ex × PT × H} {n m : Nat} (hnm : n ≤ m) (hn : exec C (callR C n) cf n c s h = some x) : exec C (callR C m) cf m c s h = some x := exec_le (callR_le n m hnm) n m hnm _ _ _ _ hn
theorem Exe_up1 {c : Code} {x : Ex × PT × H} {n m : Nat} (hnm : n ≤ m) (hn : exec C (callR C n) cf n c s h = some x) : exec C (callR C (m + 1)) cf m c s h = some x := exec_le (callR_le n (m + 1) (by omega)) n m hnm _ _ _ _ hn
theorem Exe_dn {c : Code} {x : Ex × PT × H} {n : Nat} (hn : exec C (callR C (n + 1)) cf n c s h = some x) : Exe C cf c s h = some x := Exe_iff.2 ⟨n + 1, exec_le (fun _ _ _ _ h => h) n (n + 1) (by omega) _ _ _ _ hn⟩
theorem Exe_seq (a b : Code) : Exe C cf (.seq a b) s h = (match Exe C cf a s h with | some (.normal, s', h') => Exe C cf b s' h' | r => r) := by
  apply opt_ext
  intro x
  rw [Exe_iff]
  constructor
  · rintro ⟨n, hn⟩
    cases n with
    | zero => simp [exec] at hn
    | succ n =>
      simp only [exec] at hn
      split at hn
      · rename_i s1 h1 hb
        rw [Exe_dn hb]; exact Exe_dn hn
      · rename_i hno
        rw [Exe_dn hn]
        split
        · rename_i s1 h1 e; exact absurd (hn.trans e) (hno _ _)
        · rfl
  · intro hh
    split at hh
    · rename_i s1 h1 ha
      obtain ⟨n, hn⟩ := Exe_iff.1 ha
      obtain ⟨m, hm⟩ := Exe_iff.1 hh
      refine ⟨max n m + 1, ?_⟩
      simp only [exec]
      rw [Exe_up1 (Nat.le_max_left n m) hn]; exact Exe_up1 (Nat.le_max_right n m) hm
    · rename_i hno
      obtain ⟨n, hn⟩ := Exe_iff.1 hh
      refine ⟨n + 1, ?_⟩
      simp only [exec]
      rw [Exe_up1 (Nat.le_refl n) hn]
      split
      · rename_i s1 h1 e; exact absurd (hh.trans e) (hno _ _)
      · rfl
theorem Exe_cond (c : Operand) (a b : Code) : Exe C cf (.cond c a b) s h = (match ev s c with | some (.bool true) => Exe C cf a s h | some (.bool false) => Exe C cf b s h | _ => none) := by
  apply opt_ext
  intro x
  rw [Exe_iff]
  constructor
  · rintro ⟨n, hn⟩
    cases n with
    | zero => simp [exec] at hn
    | succ n =>
      simp only [exec] at hn
      split at hn <;> first | (cases hn; done) | skip
      · rename_i hc; rw [hc]; exact Exe_dn hn
      · rename_i hc; rw [hc]; exact Exe_dn hn
  · intro hh
    split at hh <;> first | (cases hh; done) | skip
    · rename_i hc
      obtain ⟨n, hn⟩ := Exe_iff.1 hh
      exact ⟨n + 1, by simp only [exec, hc]; exact Exe_up1 (Nat.le_refl n) hn⟩
    · rename_i hc
      obtain ⟨n, hn⟩ := Exe_iff.1 hh
      exact ⟨n + 1, by simp only [exec, hc]; exact Exe_up1 (Nat.le_refl n) hn⟩
theorem Exe_block (id : Nat) (b : Code) : Exe C cf (.block id b) s h = (match Exe C cf b s h with | some (.exit i, s', h') => if i = id then some (.normal, s', h') else some (.exit i, s', h') | r => r) := by
  apply opt_ext
  intro x
  rw [Exe_iff]
  constructor
  · rintro ⟨n, hn⟩
    cases n with
    | zero => simp [exec] at hn
    | succ n =>
      simp only [exec] at hn
      split at hn
      · rename_i i s1 h1 hb
        rw [Exe_dn hb]; exact hn
      · rename_i hno
        rw [Exe_dn hn]
        split
        · rename_i i s1 h1 e; exact absurd (hn.trans e) (hno _ _ _)
        · rfl
  · intro hh
    split at hh
    · rename_i i s1 h1 ha
      obtain ⟨n, hn⟩ := Exe_iff.1 ha
      refine ⟨n + 1, ?_⟩
      simp only [exec]
      rw [Exe_up1 (Nat.le_refl n) hn]; exact hh
    · rename_i hno
      obtain ⟨n, hn⟩ := Exe_iff.1 hh
      refine ⟨n + 1, ?_⟩
      simp only [exec]
      rw [Exe_up1 (Nat.le_refl n) hn]
      split
      · rename_i i s1 h1 e; exact absurd (hh.trans e) (hno _ _ _)
      · rfl
theorem Exe_loop (b : Code) : Exe C cf (.loop b) s h = (match Exe C cf b s h with | some (.normal, s', h') => Exe C cf (.loop b) s' h' | r => r) := by
  apply opt_ext
  intro x
  rw [Exe_iff]
  constructor
  · rintro ⟨n, hn⟩
    cases n with
    | zero => simp [exec] at hn
    | succ n =>
      simp only [exec] at hn
      split at hn
      · rename_i s1 h1 hb
        rw [Exe_dn hb]; exact Exe_dn hn
      · rename_i hno
        rw [Exe_dn hn]
        split
        · rename_i s1 h1 e; exact absurd (hn.trans e) (hno _ _)
        · rfl
  · intro hh
    split at hh
    · rename_i s1 h1 ha
      obtain ⟨n, hn⟩ := Exe_iff.1 ha
      obtain ⟨m, hm⟩ := Exe_iff.1 hh
      refine ⟨max n m + 1, ?_⟩
      simp only [exec]
      rw [Exe_up1 (Nat.le_max_left n m) hn]; exact Exe_up1 (Nat.le_max_right n m) hm
    · rename_i hno
      obtain ⟨n, hn⟩ := Exe_iff.1 hh
      refine ⟨n + 1, ?_⟩
      simp only [exec]
      rw [Exe_up1 (Nat.le_refl n) hn]
      split
      · rename_i s1 h1 e; exact absurd (hh.trans e) (hno _ _)
      · rfl
theorem Exe_range (g : Operand) (ps : Array Tmp) (assign body : Code) : Exe C cf (.rangeFunc g ps assign body) s h = (match ev s g, C.P.funcs[cf]? with
      | some (.func gf cap), some fn =>
        if hasBody C.P gf then
          match Call C gf (.yield h.length :: cap) (h ++ [.loop ⟨cf, s, fn.ntmps, ps, assign, body⟩ .ready]) with
          | some (_, h') => match h'[h.length]? with
            | some (.loop L .ready) => some (.normal, s, h'.set h.length (.loop L .over))
            | some (.loop L (.done e)) => some (e, s, h'.set h.length (.loop L .over))
            | _ => none
          | none => none
        else none
      | _, _ => none) := by
  apply opt_ext
  intro x
  rw [Exe_iff]
  constructor
  · rintro ⟨n, hn⟩
    cases n with
    | zero => simp [exec] at hn
    | succ n =>
      simp only [exec] at hn
      split at hn <;> first | (cases hn; done) | skip
      rename_i gf cap fn hg hf
      split at hn <;> first | (cases hn; done) | skip
      rename_i hb
      split at hn <;> first | (cases hn; done) | skip
      rename_i v h2 hc
      rw [hg, hf]
      dsimp only
      rw [if_pos hb, callR_Call _ _ _ _ _ hc]; exact hn
  · intro hh
    split at hh <;> first | (cases hh; done) | skip
    rename_i gf cap fn hg hf
    split at hh <;> first | (cases hh; done) | skip
    rename_i hb
    split at hh <;> first | (cases hh; done) | skip
    rename_i v h2 hc
    obtain ⟨n, hn⟩ := Call_iff.1 hc
    refine ⟨n + 1, ?_⟩
    simp only [exec, hg, hf]
    rw [if_pos hb, callR_le n (n + 1) (by omega) _ _ _ _ hn]; exact hh
end

/-- A function's outcome, out of its body's. -/
theorem Call_eq {f : FuncId} {args : List AV} {h : H} {fn : Func} {c : Code} (hp : C.prim f args h = none) (hf : C.P.funcs[f]? = some fn) (hb : fn.body = some c) (hok : codeOk C f fn.ntmps false c = true) (hn : args.length ≤ fn.ntmps) :
    Call C f args h = (match Exe C f c (initS 0 args .leaf) h with
      | some (.normal, s, h') | some (.ret, s, h') => (match resultV C.P s h' fn.results.toList with | some v => some (v, h') | none => none)
      | _ => none) := by
  apply opt_ext
  intro x
  rw [Call_iff]
  constructor
  · rintro ⟨n, hx⟩
    cases n with
    | zero => simp [callR] at hx
    | succ n =>
      simp only [callR, hp, hf, hb] at hx
      rw [if_pos ⟨hok, hn⟩] at hx
      split at hx <;> first | (cases hx; done) | skip
      · rename_i s1 h1 hx1; rw [Exe_iff.2 ⟨n, hx1⟩]; exact hx
      · rename_i s1 h1 hx1; rw [Exe_iff.2 ⟨n, hx1⟩]; exact hx
  · intro hx
    split at hx <;> first | (cases hx; done) | skip
    all_goals
      rename_i s1 h1 hx1
      obtain ⟨n, hn'⟩ := Exe_iff.1 hx1
      refine ⟨n + 1, ?_⟩
      simp only [callR, hp, hf, hb]
      rw [if_pos ⟨hok, hn⟩, hn']; exact hx
/-- A function that is taken by its contract. -/
theorem Call_prim {f : FuncId} {args : List AV} {h : H} {fn : Func} {z : AV × H} (hf : C.P.funcs[f]? = some fn) (hp : C.prim f args h = some z) : Call C f args h = some z :=
  Call_iff.2 ⟨1, by simp only [callR, hf, hp]⟩
/-- A round's outcome, out of its body's. -/
theorem Call_round {i : Nat} {args : List AV} {h : H} {L : LoopV} (hi : h[i]? = some (.loop L .ready)) (hc : args.length = L.ps.size ∧ L.ps.all (fun p => decide (p < L.n)) ∧ codeOk C L.cf L.n true L.assign ∧ codeOk C L.cf L.n true L.body)
    {s1 : PT} {h1 : H} {L1 : LoopV} (hx1 : Exe C L.cf L.assign (setPs (L.ps.toList.zip args) L.s) h = some (.normal, s1, h1)) (hi1 : h1[i]? = some (.loop L1 .ready))
    {e : Ex} {s2 : PT} {h2 : H} {L2 : LoopV} (hx2 : Exe C L.cf L.body s1 (h1.set i (.loop L1 .busy)) = some (e, s2, h2)) (hi2 : h2[i]? = some (.loop L2 .busy)) :
    Call C (yb C.P + i) args h = (match e with
      | .normal => some (.bool true, h2.set i (.loop L2 .ready))
      | e => some (.bool false, h2.set i (.loop L2 (.done e)))) := by
  obtain ⟨n, hn⟩ := Exe_iff.1 hx1
  obtain ⟨m, hm⟩ := Exe_iff.1 hx2
  have hno : C.P.funcs[yb C.P + i]? = none := Array.getElem?_eq_none (by simp [yb]; omega)
  have key : callR C (max n m + 1) (yb C.P + i) args h = (match e with
      | .normal => some (.bool true, h2.set i (.loop L2 .ready))
      | e => some (.bool false, h2.set i (.loop L2 (.done e)))) := by
    simp only [callR, hno, show yb C.P ≤ yb C.P + i from Nat.le_add_right _ _, if_true, Nat.add_sub_cancel_left, roundV, hi]
    rw [if_pos hc, Exe_up (Nat.le_max_left n m) hn]
    dsimp only
    rw [hi1]
    dsimp only
    rw [Exe_up (Nat.le_max_right n m) hm]
    dsimp only
    rw [hi2]
    cases e <;> rfl
  cases e <;> exact Call_of _ key
end

theorem Call_ok [DFlag] {C : Cfg} (hP : Good C.P) (hprim : ∀ f, PrimOk C.P f (C.prim f)) : Ok C.P (Call C) where
  fn := fun f args h r h' hb hh => by
    obtain ⟨n, hn⟩ := Call_iff.1 hh
    exact (callR_ok hP hprim n).fn f args h r h' hb hn
  yl := fun i args h r h' hh => by
    obtain ⟨n, hn⟩ := Call_iff.1 hh
    exact (callR_ok hP hprim n).yl i args h r h' hn
end Go.V
