/- From the value machine to the model, at this seat: what is asked of the program; the copy of an empty slice; rows that came in. -/
import Derived.Test.YtpakendifgcibaaSa
import Derived.WalkKit
import Derived.ProofKit
import Derived.Below
namespace Go.V37
open Go Go.V Go.Proofs Go.RowKit
def namesOk (P : Program) : Bool := P.funcs.all fun fn => !(fn.name == "runtime.NumGoroutine")
theorem good : Go.V.Good C.P where
  names := fun f fn hf => by
    have h : namesOk Try.prog = true := by kernel_rfl
    have := Array.all_eq_true_iff_forall_mem.1 h fn (Array.mem_of_getElem? hf)
    simpa using this
  mixed := by kernel_rfl
theorem run_equalIn_nil_nil (d : Nat) (w : World) : (Op.equalIn (d + 1) 22 (.slice none 0 0) (.slice none 0 0)).run Try.prog w = .ok true w := by
  simp only [Op.equalIn, Sem.run_bind, run_under Try.underlying22, Result.andThen_ok]; rfl
@[local go_sem] theorem eq_nil (w : World) : (binOp .eql 22 (.slice none 0 0) (.slice none 0 0)).run Try.prog w = .ok (.bool true) w := by
  have : Op.equal 22 (.slice none 0 0) (.slice none 0 0) = Op.equalIn (9999 + 1) 22 (.slice none 0 0) (.slice none 0 0) := rfl
  simp only [binOp, this, Sem.run_bind, Sem.run_pure, Result.andThen_ok, run_equalIn_nil_nil 9999 w]
@[local go_sem] theorem eq_non (w : World) (a : Addr) (c : Nat) : (binOp .eql 22 (.slice (some a) 0 c) (.slice none 0 0)).run Try.prog w = .ok (.bool false) w := by
  have : Op.equal 22 (.slice (some a) 0 c) (.slice none 0 0) = Op.equalIn (9999 + 1) 22 (.slice (some a) 0 c) (.slice none 0 0) := rfl
  simp only [binOp, this, Sem.run_bind, Sem.run_pure, Result.andThen_ok, run_equalIn_slice_nil 9999 a 0 c Try.underlying22]
theorem clone_nil (w : World) : Calls Try.prog 19 #[.slice none 0 0] w fun e w' => e = .returned (.slice none 0 0) ∧ Grows w w' := by
  go_enter Try.func19, Try.ntmps19
  go_wp2
  go_ret
  exact ⟨rfl, .refl _⟩
theorem clone_empty (a : Addr) (c : Nat) (w : World) : Calls Try.prog 19 #[.slice (some a) 0 c] w fun e w' => (∃ b, e = .returned (.slice (some b) 0 0)) ∧ Grows w w' := by
  go_enter Try.func19, Try.ntmps19
  go_wp2
  go_ret
  exact ⟨⟨_, rfl⟩, .alloc _ _⟩
theorem prim_ok (f : FuncId) : PrimOk C.P f (C.prim f) := by
  intro args h r h' hp B A0 σ w vs hr hl ha
  have hp' : prim f args h = some (r, h') := hp
  unfold prim at hp'
  split at hp' <;> first | (cases hp'; done) | skip
  rename_i hf
  subst hf
  split at hp' <;> first | (cases hp'; done) | skip
  rename_i x
  simp only [Option.some.injEq, Prod.mk.injEq] at hp'
  obtain ⟨rfl, rfl⟩ := hp'
  obtain ⟨v, rfl⟩ : ∃ v, vs = #[v] := by
    have : vs.size = 1 := hl
    exact ⟨vs[0], by apply Array.ext <;> simp [this]; intro i hi; subst hi; rfl⟩
  have hv := rel_isl (ha 0 _ v rfl rfl)
  cases hv with
  | islNil => exact (clone_nil w).mono fun e w' ⟨he, hg⟩ => ⟨_, he, σ, hr.grows hg, .grows hr hg, .full .islNil⟩
  | islEmpty a c hm => exact (clone_empty a c w).mono fun e w' ⟨⟨b, he⟩, hg⟩ => ⟨_, he, σ, hr.grows hg, .grows hr hg, .full (.islEmpty b 0 (by simp [maxLen]))⟩
  | isl f hz hc hm h0 h1 h2 h3 => exact (clone_empty _ _ w).mono fun e w' ⟨⟨b, he⟩, hg⟩ => ⟨_, he, σ, hr.grows hg, .grows hr hg, .full (.islEmpty b 0 (by simp [maxLen]))⟩
theorem ok : Go.V.Ok C.P (Go.V.Call C) := Call_ok good prim_ok
end Go.V37

/- A law that the value machine answers with true, the model answers with true. -/
namespace Go.V37
open Go Go.V Go.Proofs Go.RowKit
theorem calls_of {f : FuncId} {args : List AV} {vs : Array Value} {w : World} (hb : hasBody C.P f = true) (hl : vs.size = args.length)
    (hr : ∀ (i : Nat) a v, args[i]? = some a → vs[i]? = some v → IRel (fun _ _ => True) w a v) (hc : CallP C f args = some (.bool true)) :
    Calls Try.prog f vs w (fun e w' => e = .returned (.bool true) ∧ Below w.heap.size w w') := by
  unfold CallP at hc
  split at hc <;> first | (cases hc; done) | skip
  rename_i r h1 hx
  refine (ok.fn f args [] r h1 hb hx w.heap.size (fun _ _ => True) [] w vs (.start _) hl (fun i a v ha hv => .data (irel_start (hr i a v ha hv)))).mono ?_
  rintro e w' ⟨v, rfl, σ', k1, k2, k3⟩
  have hs := snap_sound (k1.stiller (freezeAll_stiller h1)) deep r (.bool true) v hc (k3.step (.stiller k1 (freezeAll_stiller h1)))
  cases hs
  exact ⟨rfl, k2.below⟩
/-- A slice of integers, as the guide's shells tell of it. -/
theorem row_rel {w : World} {a : Option Addr} {len cap : Nat} {zs : List Int} (h : (a = none ∧ len = 0 ∧ cap = 0 ∧ zs = []) ∨
    ∃ x, a = some x ∧ len ≤ cap ∧ cap ≤ maxLen ∧ zs.length = cap ∧ (∀ i, i < zs.length → w.cell? (x.add i) = some (.int .i64 (zs.getD i 0))) ∧ ∀ n ∈ zs, (Lit.int .i64 n).wf = true) :
    IRel (fun _ _ => True) w (ints (zs.take len)) (.slice a len cap) := by
  rcases h with ⟨rfl, rfl, rfl, rfl⟩ | ⟨x, rfl, h1, h2, h3, h4, h5⟩
  · exact .islNil
  · by_cases hl : len = 0
    · subst hl; exact .islEmpty x cap h2
    · obtain ⟨b, o, sp⟩ := x
      have hsp : sp = none := by
        have := h4 0 (by omega)
        cases sp with
        | none => rfl
        | some z =>
          simp [World.cell?, Addr.add] at this
          split at this <;> cases this
      subst hsp
      have hlen : ((zs.take len).map (AV.int .i64)).length = len := by simp; omega
      have := IRel.isl (A := fun _ _ => True) (w := w) (es := (zs.take len).map (AV.int .i64)) (sz := 1) (b := b) (o := o) (cap := cap) (fun i _ => .int .i64 (zs.getD i 0)) (by omega) (by omega) h2
        (fun e he => by
          obtain ⟨n, _, rfl⟩ := List.mem_map.1 he
          exact ⟨rfl, rfl⟩)
        (fun e he c hc => by
          obtain ⟨n, _, rfl⟩ := List.mem_map.1 he
          simp [AV.cells] at hc; subst hc; rfl)
        (fun i j e c he hc => by
          have hi : i < len := by have := (List.getElem?_eq_some_iff.1 he).1; omega
          rw [List.getElem?_map] at he
          obtain ⟨n, hn, rfl⟩ := Option.map_eq_some_iff.1 he
          have hj : j = 0 := by have := (List.getElem?_eq_some_iff.1 hc).1; simp [AV.cells] at this; exact this
          subst hj
          have := h4 i (by omega)
          have e : Addr.add ⟨b, o, none⟩ i = ⟨b, o + i, none⟩ := by
            unfold Addr.add
            split
            · rename_i h0; subst h0; rfl
            · rfl
          rw [e] at this
          exact ⟨trivial, by simpa using this⟩)
        (fun i j e c he hc => by
          have hi : i < len := by have := (List.getElem?_eq_some_iff.1 he).1; omega
          rw [List.getElem?_map] at he
          obtain ⟨n, hn, rfl⟩ := Option.map_eq_some_iff.1 he
          have hj : j = 0 := by have := (List.getElem?_eq_some_iff.1 hc).1; simp [AV.cells] at this; exact this
          subst hj
          simp [AV.cells] at hc; subst hc
          rw [List.getElem?_take_of_lt hi] at hn
          rw [List.getD_eq_getElem?_getD, hn]
          exact .int _ _)
      rw [hlen] at this
      exact this
end Go.V37
