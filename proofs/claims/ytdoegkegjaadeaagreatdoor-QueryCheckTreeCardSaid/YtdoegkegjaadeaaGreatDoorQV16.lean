/- Code and calls: what the value machine comes to, the model comes to. -/
import Derived.Test.YtdoegkegjaadeaaGreatDoorQV33
namespace Go.V
open Go

def Ex.toExit : Ex → Exit
  | .normal => .normal
  | .exit id => .exit id
  | .ret => .ret

/-- One more round of a loop. -/
def LoopWp (F : Fence) (nd : Nat) (P : Program) (c : Code) (Q : Exit → Act → World → Prop) (a : Act) (w : World) : Prop :=
  ∀ (b : Frame) (k : List Item) (cs : List Frame), b.roundOf = F.round → F.fn b.fn → F.room (cs.length + 1 + nd) →
    ∃ e a' w', Q e a' w' ∧ ArrivesIn (Machine.fenced P F) P (lone (b.atR a (.inLoop c :: k)) cs w) b k cs e a' w'

section
variable {P : Program} {F : Fence} {nd : Nat} {w : World}
theorem loop_round {c : Code} {Q : Exit → Act → World → Prop} {a : Act} {w : World} (h : c.wpIn F nd P (Exit.then (LoopWp F nd P c Q) Q) a w) (b : Frame) (k : List Item) (cs : List Frame)
    (hro : b.roundOf = F.round) (hb : F.fn b.fn) (hr : F.room (cs.length + 1 + nd)) :
    ∃ e a' w', Q e a' w' ∧ ArrivesIn (Machine.fenced P F) P (lone (b.atR a (.code c :: .inLoop c :: k)) cs w) b k cs e a' w' := by
  obtain ⟨e, a₁, w₁, hq, harr⟩ := h b (.inLoop c :: k) cs hro hb hr
  cases e with
  | normal =>
    obtain ⟨e₂, a₂, w₂, hq₂, harr₂⟩ := hq b k cs hro hb hr
    exact ⟨e₂, a₂, w₂, hq₂, .of_steps harr harr₂⟩
  | exit id => exact ⟨_, a₁, w₁, hq, .pass (x := .inLoop c) rfl (fun _ _ => .inl (by simp)) harr⟩
  | goto l => exact ⟨_, a₁, w₁, hq, .pass (x := .inLoop c) rfl (fun _ _ => .inl (by simp)) harr⟩
  | ret => exact ⟨_, a₁, w₁, hq, .pass (x := .inLoop c) rfl (fun _ _ => .inl (by simp)) harr⟩
  | panic ch => exact ⟨_, a₁, w₁, hq, .pass (x := .inLoop c) rfl (fun _ _ => .inl (by simp)) harr⟩
  | outgrown => exact ⟨_, a₁, w₁, hq, .pass (x := .inLoop c) rfl (fun _ _ => .inl (by simp)) harr⟩
theorem LoopWp.of {c : Code} {Q : Exit → Act → World → Prop} {a : Act} {w : World} (h : c.wpIn F nd P (Exit.then (LoopWp F nd P c Q) Q) a w) : LoopWp F nd P c Q a w := fun b k cs hro hb hr => by
  obtain ⟨e, a', w', hq, harr⟩ := loop_round h b k cs hro hb hr
  exact ⟨e, a', w', hq, .of_steps (.one (fenced_calm hb hr rfl) stepR_inLoop) harr⟩
theorem loop_of {c : Code} {Q : Exit → Act → World → Prop} {a : Act} {w : World} (h : c.wpIn F nd P (Exit.then (LoopWp F nd P c Q) Q) a w) : (Code.loop c).wpIn F nd P Q a w := fun b k cs hro hb hr => by
  obtain ⟨e, a', w', hq, harr⟩ := loop_round h b k cs hro hb hr
  exact ⟨e, a', w', hq, .of_steps (.one (fenced_calm hb hr rfl) stepR_loop) harr⟩
theorem LoopWp.mono {c : Code} {Q Q' : Exit → Act → World → Prop} {a : Act} {w : World} (h : LoopWp F nd P c Q a w) (hq : ∀ e a w, Q e a w → Q' e a w) : LoopWp F nd P c Q' a w :=
  fun b k cs hro hb hr => let ⟨e, a', w', q, r⟩ := h b k cs hro hb hr; ⟨e, a', w', hq _ _ _ q, r⟩

/-- The marks of loops over functions among the deferred calls: each at a block of its own that holds no call. -/
def Marked (lo : Nat) (w : World) : List Deferred → Prop
  | [] => True
  | m :: r => (∃ D, m = { target := .collected D, args := #[] } ∧ lo ≤ D ∧ w.heap[D]? = some (.deferred (some [])) ∧ ∀ D', ({ target := .collected D', args := #[] } : Deferred) ∈ r → D' ≠ D) ∧ Marked lo w r
theorem Marked.mono {lo lo' : Nat} {w w' : World} (hlo : lo' ≤ lo) (hw : ∀ k : Nat, lo ≤ k → w.heap[k]? = some (.deferred (some [])) → w'.heap[k]? = some (.deferred (some []))) : ∀ {l : List Deferred}, Marked lo w l → Marked lo' w' l
  | [], _ => trivial
  | _ :: _, ⟨⟨D, h1, h2, h3, h4⟩, hr⟩ => ⟨⟨D, h1, by omega, hw D h2 h3, h4⟩, Marked.mono hlo hw hr⟩
theorem Marked.mem {lo : Nat} {w : World} {D : Nat} : ∀ {l : List Deferred}, Marked lo w l → ({ target := .collected D, args := #[] } : Deferred) ∈ l → lo ≤ D ∧ D < w.heap.size
  | m :: r, ⟨⟨D', h1, h2, h3, h4⟩, hr⟩, hm => by
    rcases List.mem_cons.1 hm with e | hm
    · rw [h1] at e; simp at e; subst e; exact ⟨h2, (Array.getElem?_eq_some_iff.1 h3).1⟩
    · exact Marked.mem hr hm
theorem Marked.append {lo : Nat} {w : World} : ∀ {l r : List Deferred}, Marked lo w l → Marked lo w r → (∀ D, ({ target := .collected D, args := #[] } : Deferred) ∈ l → ({ target := .collected D, args := #[] } : Deferred) ∉ r) → Marked lo w (l ++ r)
  | [], _, _, hr, _ => hr
  | m :: l, r, ⟨⟨D, h1, h2, h3, h4⟩, hl⟩, hr, hne => ⟨⟨D, h1, h2, h3, fun D' hm e => by
      rcases List.mem_append.1 hm with hm | hm
      · exact h4 D' hm e
      · subst e; exact hne D' (by rw [h1]; simp) hm⟩, Marked.append hl hr (fun D hm => hne D (List.mem_cons_of_mem _ hm))⟩

/-- What a piece of code leaves. -/
def PostE [DFlag] (P : Program) (B : Nat) (A0 : Nat → Nat → Prop) (n : Nat) (σ : List (Option Nat)) (h : H) (w : World) (d : List Deferred) (e : Ex) (s' : PT) (h' : H) : Exit → Act → World → Prop :=
  fun e' a' w' => e' = e.toExit ∧ (∃ ms, a'.defers = ms ++ d ∧ Marked w.heap.size w' ms) ∧ ∃ σ', HRel P B A0 σ' h' w' ∧ Step P B A0 σ h w σ' h' w' ∧ SRel P (Alw P B A0 σ' h') σ' h' w' n s' a'.tmps

variable {B : Nat} {A0 : Nat → Nat → Prop} {n : Nat}
theorem PostE.after [DFlag] {σ σ1 : List (Option Nat)} {h h1 : H} {w w1 : World} {d d0 : List Deferred} {e : Ex} {s' : PT} {h' : H} (st : Step P B A0 σ h w σ1 h1 w1) (hd : ∃ ms, d = ms ++ d0 ∧ Marked w.heap.size w1 ms) {e' : Exit} {a' : Act} {w' : World}
    (p : PostE P B A0 n σ1 h1 w1 d e s' h' e' a' w') : PostE P B A0 n σ h w d0 e s' h' e' a' w' := by
  obtain ⟨p1, ⟨ms', p2, p3⟩, σ', p4, p5, p6⟩ := p
  obtain ⟨ms, rfl, hm⟩ := hd
  have hsz := st.below.size
  refine ⟨p1, ⟨ms' ++ ms, by rw [p2, List.append_assoc], ?_⟩, σ', p4, st.trans p5, p6⟩
  refine Marked.append (p3.mono hsz (fun _ _ h => h)) (hm.mono (Nat.le_refl _) (fun k _ hk => p5.marks k hk)) (fun D h1 h2 => ?_)
  have := p3.mem h1
  have := hm.mem h2
  omega
theorem PostE.here [DFlag] {σ : List (Option Nat)} {h : H} {w : World} {a a' : Act} {s' : PT} {h' : H} {e : Ex} {w' : World} {σ' : List (Option Nat)} (hd : a'.defers = a.defers)
    (k1 : HRel P B A0 σ' h' w') (k2 : Step P B A0 σ h w σ' h' w') (k3 : SRel P (Alw P B A0 σ' h') σ' h' w' n s' a'.tmps) : PostE P B A0 n σ h w a.defers e s' h' e.toExit a' w' :=
  ⟨rfl, ⟨[], by rw [hd]; rfl, trivial⟩, σ', k1, k2, k3⟩

/-- A mark's block is shut. -/
theorem HRel.takeRel {A : Nat → Nat → Prop} {σ : List (Option Nat)} {h : H} {D : Nat} (hD : w.heap[D]? = some (.deferred (some []))) {c : AV} {v : Value} (r : Rel P A σ h w c v) : Rel P A σ h (w.putObj D (.deferred none)) c v := by
  induction r with
  | data hd => exact .data (hd.mono fun b o x ha hc => ⟨ha, putObj_cell hD (by simp) (by simp) hc⟩)
  | yield hs hk => exact .yield hs hk
  | mp hs hk => exact .mp hs hk
  | ptr hs hk => exact .ptr hs hk
  | msl hs hk h0 hc hm hcap hw => exact .msl hs hk h0 hc hm hcap (let ⟨vs, ty, fr, e1, e2⟩ := hw; ⟨vs, ty, fr, putObj_row hD (by simp) e1, e2⟩)
  | full hd => exact .full (hd.mono fun b o x ha hc => ⟨ha, putObj_cell hD (by simp) (by simp) hc⟩)
  | tok hd ht =>
    obtain ⟨u, ty, h1, h2, h3⟩ := ht
    refine .tok (hd.mono fun b o x ha hc => ⟨ha, putObj_cell hD (by simp) (by simp) hc⟩) ⟨u, ty, h1, h2, fun e => ?_⟩
    rcases h3 e with k | ⟨b, cap, vs, sz, k1, k2, k3, k4⟩
    · exact .inl k
    · exact .inr ⟨b, cap, vs, sz, k1, k2, (let ⟨fr, k3⟩ := k3; ⟨fr, putObj_row hD (by simp) k3⟩), k4⟩
  | func hl _ ih => exact .func hl ih
  | iface hn _ ih => exact .iface hn ih
  | agg h1 hl _ ih => exact .agg h1 hl ih
  | tuple hl _ ih => exact .tuple hl ih
theorem HRel.take {σ : List (Option Nat)} {h : H} (hr : HRel P B A0 σ h w) {D : Nat} (hD : w.heap[D]? = some (.deferred (some []))) : HRel P B A0 σ h (w.putObj D (.deferred none)) := by
  have hst : ∀ {c : AV} {v : Value}, Rel P (Alw P B A0 σ h) σ h w c v → Rel P (Alw P B A0 σ h) σ h (w.putObj D (.deferred none)) c v := fun r => HRel.takeRel hD r
  refine ⟨by simpa using hr.base, hr.len, fun i cs st hi hd => ?_, fun i u ty hi => ?_, fun i L st hi hd => ?_, fun i es hi => ?map, hr.uniq, fun g a hg => (hr.glob g a hg).mono fun b o x ab hc => ⟨ab, putObj_cell hD (by simp) (by simp) hc⟩⟩
  case map =>
    obtain ⟨b, mes, clock, k1, k2, k3, k4, k5⟩ := hr.map i es hi
    exact ⟨b, mes, clock, k1, k2, by rw [World.putObj_heap_other (fun e => by subst e; rw [hD] at k3; cases k3)]; exact k3, k4, fun k e m he hm => let q := k5 k e m he hm; ⟨q.1, q.2.1, hst q.2.2⟩⟩
  · obtain ⟨b, vs, ty, k1, k2, k3, k4, k5, k6⟩ := hr.cells i cs st hi hd
    exact ⟨b, vs, ty, k1, k2, putObj_row hD (by simp) k3, k4, k5, fun k c v hc hv => hst (k6 k c v hc hv)⟩
  · rcases hr.tok i u ty hi with k | ⟨b, vs, sz, cap, k1, k2, k3, k⟩
    · exact .inl k
    · exact .inr ⟨b, vs, sz, cap, k1, k2, putObj_row hD (by simp) k3, k⟩
  · obtain ⟨l, fn, tm, D', k1, k2, k3, k4, k5⟩ := hr.loop i L st hi hd
    exact ⟨l, fn, tm, D', k1, k2, by rw [World.putObj_heap_other (fun e => by subst e; rw [hD] at k3; cases k3)]; exact k3, k4, fun t => hst (k5 t)⟩
theorem Step.take [DFlag] {σ σ' : List (Option Nat)} {h h' : H} {w0 : World} (st : Step P B A0 σ h w0 σ' h' w) {D : Nat} (hD : w.heap[D]? = some (.deferred (some []))) (hB : B ≤ D) (hn : w0.heap.size ≤ D) : Step P B A0 σ h w0 σ' h' (w.putObj D (.deferred none)) where
  below := st.below.trans (putObj_below hB)
  shapes := st.shapes.trans (putObj_shapes hD (by simp))
  kept := fun b o x ha hc => ⟨(st.kept b o x ha hc).1, putObj_cell hD (by simp) (by simp) (st.kept b o x ha hc).2⟩
  cells := st.cells
  toks := st.toks
  loops := st.loops
  maps := st.maps
  marks := fun k hk => by
    have := (Array.getElem?_eq_some_iff.1 hk).1
    rw [World.putObj_heap_other (by omega)]; exact st.marks k hk
  drawn := st.drawn
theorem IRel_take {A : Nat → Nat → Prop} {c : AV} {v : Value} {D : Nat} (hD : w.heap[D]? = some (.deferred (some []))) (r : IRel A w c v) : IRel A (w.putObj D (.deferred none)) c v :=
  r.mono fun b o x ha hc => ⟨ha, putObj_cell hD (by simp) (by simp) hc⟩

/-- A loop's record turns. -/
theorem Step.turn [DFlag] {σ : List (Option Nat)} {h : H} (_hr : HRel P B A0 σ h w) {i l : Nat} {L : LoopV} {st st' : LSt} {r r' : Loop} (hi : h[i]? = some (.loop L st)) (hl : w.heap[l]? = some (.loop r)) (hB : B ≤ l) :
    Step P B A0 σ h w σ (h.set i (.loop L st')) (w.putObj l (.loop r')) where
  below := putObj_below hB
  shapes := putObj_shapes hl (by simp)
  kept := fun b o x ha hc => by
    refine ⟨?_, putObj_cell hl (by simp) (by simp) hc⟩
    unfold Alw at *
    split
    · rename_i hb; simpa [hb] using ha
    · rename_i hb
      rw [if_neg hb] at ha
      refine ⟨fun j cs hj => ?_, fun j u t hj => ?_⟩
      · rcases getElem?_set_cases hj with ⟨_, e, _⟩ | ⟨_, hj⟩
        · cases e
        · exact ha.1 j cs hj
      · rcases getElem?_set_cases hj with ⟨_, e, _⟩ | ⟨_, hj⟩
        · cases e
        · exact ha.2 j u t hj
  cells := fun j cs st2 hj => ⟨rfl, cs, st2, by rw [List.getElem?_set_ne (fun e => by subst e; rw [hi] at hj; cases hj)]; exact hj⟩
  toks := fun j u ty hj => ⟨u, by rw [List.getElem?_set_ne (fun e => by subst e; rw [hi] at hj; cases hj)]; exact hj, Nat.le_refl _, fun _ => rfl⟩
  loops := fun j L2 st2 hj => ⟨rfl, by
    by_cases e : j = i
    · subst e
      rw [hi] at hj; simp only [Option.some.injEq, VObj.loop.injEq] at hj
      obtain ⟨rfl, rfl⟩ := hj
      exact ⟨st', List.getElem?_set_self (List.getElem?_eq_some_iff.1 hi).1⟩
    · exact ⟨st2, by rw [List.getElem?_set_ne (fun k => e k.symm)]; exact hj⟩⟩
  maps := fun j es hj => ⟨rfl, es, by rw [List.getElem?_set_ne (fun e => by subst e; rw [hi] at hj; cases hj)]; exact hj⟩
  marks := fun k hk => by rw [World.putObj_heap_other (fun e => by subst e; rw [hl] at hk; cases hk)]; exact hk
  drawn := fun _ => Nat.le_refl _
theorem HRel.turn {σ : List (Option Nat)} {h : H} (hr : HRel P B A0 σ h w) {i l : Nat} {L : LoopV} {st st' : LSt} {fn : FuncId} {tm : Array Value} {D : Nat} {r' : Loop} (hi : h[i]? = some (.loop L st)) (hg : st ≠ .over) (hs : σ[i]? = some (some l))
    (hl : w.heap[l]? = some (.loop (recOf L fn tm D st))) (hr' : st' ≠ .over → r' = recOf L fn tm D st') : HRel P B A0 σ (h.set i (.loop L st')) (w.putObj l (.loop r')) := by
  obtain ⟨l', fn', tm', D', k1, k2, k3, k4, k5⟩ := hr.loop i L st hi hg
  rw [hs] at k1; simp only [Option.some.injEq] at k1; subst k1
  have hst := Step.turn (st' := st') (r' := r') hr hi hl k2
  rw [hl] at k3; simp only [Option.some.injEq, Obj.loop.injEq] at k3
  have hrec : fn = fn' ∧ tm = tm' ∧ D = D' := by
    cases st <;> simp [recOf] at k3 <;> exact k3
  obtain ⟨rfl, rfl, rfl⟩ := hrec
  refine ⟨by simpa using hr.base, by simpa using hr.len, fun j cs st2 hj hd => ?_, fun j u ty hj => ?_, fun j L2 st2 hj hd => ?_, fun j es hj => ?map, fun j1 j2 b x y hj1 hj2 s1 s2 g1 g2 => ?_, hr.globBelow hst.below⟩
  case map =>
    rcases getElem?_set_cases hj with ⟨_, e, _⟩ | ⟨hne, hj⟩
    · cases e
    · obtain ⟨b2, mes, clock, q1, q2, q3, q4, q5⟩ := hr.map j es hj
      exact ⟨b2, mes, clock, q1, q2, by rw [World.putObj_heap_other (fun e => by subst e; rw [hl] at q3; cases q3)]; exact q3, q4, fun k e m he hm => let q := q5 k e m he hm; ⟨q.1, q.2.1, q.2.2.step hst⟩⟩
  · rcases getElem?_set_cases hj with ⟨_, e, _⟩ | ⟨_, hj⟩
    · cases e
    · obtain ⟨b, vs, ty, q1, q2, q3, q4, q5, q6⟩ := hr.cells j cs st2 hj hd
      exact ⟨b, vs, ty, q1, q2, putObj_row hl (by simp) q3, q4, q5, fun k c v hc hv => (q6 k c v hc hv).step hst⟩
  · rcases getElem?_set_cases hj with ⟨_, e, _⟩ | ⟨_, hj⟩
    · cases e
    · rcases hr.tok j u ty hj with k | ⟨b, vs, sz, cap, q1, q2, q3, q⟩
      · exact .inl k
      · exact .inr ⟨b, vs, sz, cap, q1, q2, putObj_row hl (by simp) q3, q⟩
  · rcases getElem?_set_cases hj with ⟨rfl, e, _⟩ | ⟨hne, hj⟩
    · simp only [VObj.loop.injEq] at e; obtain ⟨rfl, rfl⟩ := e
      exact ⟨l, fn, tm, D, hs, k2, by rw [World.putObj_heap_same (Array.getElem?_eq_some_iff.1 hl).1, hr' hd], k4, fun t => (k5 t).step hst⟩
    · obtain ⟨l2, fn2, tm2, D2, q1, q2, q3, q4, q5⟩ := hr.loop j L2 st2 hj hd
      have hne2 : l2 ≠ l := fun e => hne (hr.uniq j i l _ _ hj hi (e ▸ q1) hs (gone_loop hd) (gone_loop hg))
      exact ⟨l2, fn2, tm2, D2, q1, q2, by rw [World.putObj_heap_other hne2]; exact q3, q4, fun t => (q5 t).step hst⟩
  · have key : ∀ (j : Nat) p, (h.set i (.loop L st'))[j]? = some p → p.gone = false → ∃ p', h[j]? = some p' ∧ p'.gone = false := fun j p hj dj => by
      rcases getElem?_set_cases hj with ⟨rfl, _, _⟩ | ⟨_, hj⟩
      · exact ⟨_, hi, gone_loop hg⟩
      · exact ⟨p, hj, dj⟩
    obtain ⟨p', hp', dp'⟩ := key j1 x hj1 g1
    obtain ⟨q', hq', dq'⟩ := key j2 y hj2 g2
    exact hr.uniq j1 j2 b p' q' hp' hq' s1 s2 dp' dq'
end

theorem region_ok {C : Cfg} {cf : FuncId} {n id : Nat} {ops : Array Oper} {draw : Bool} {ir : Bool} (h : codeOk C cf n ir (.region id ops draw) = true) :
    (∀ (i : Nat) o, ops[i]? = some o → ∀ t, o.dst = some t → t < n) ∧ (draw = true → C.mix cf id = false → orderOk C ops = true) := by
  simp only [codeOk, Bool.and_eq_true, Array.all_eq_true_iff_forall_mem, Bool.or_eq_true, Bool.not_eq_true'] at h
  refine ⟨fun i o ho t ht => ?_, fun hd hm => ?_⟩
  · have := (h.1 o (Array.mem_of_getElem? ho)).1
    rw [ht] at this
    simpa using this
  · rcases h.2 with (h | h) | h
    · rw [hd] at h; cases h
    · rw [hm] at h; cases h
    · exact h

section
variable {C : Cfg} {B : Nat} {A0 : Nat → Nat → Prop} {n : Nat} {ro : Option Nat} {nd : Nat}

theorem region_wp [DFlag] (hP : Good C.P) {run : FuncId → List AV → H → Option (AV × H)} (hrun : Ok C.P run) {cf : FuncId} {id : Nat} {ops : Array Oper} {draw : Bool} {ir : Bool} (hok : codeOk C cf n ir (.region id ops draw) = true)
    {σ : List (Option Nat)} {h : H} {w : World} {s : PT} {a : Act} {s' : PT} {h' : H} (hr : HRel C.P B A0 σ h w) (hs : SRel C.P (Alw C.P B A0 σ h) σ h w n s a.tmps) (hh : runOps C run cf ops ops.toList s h = some (s', h')) (hdr : drawOk C run cf ops draw s h = true) (hmx : (draw && C.mix cf id) = false) :
    (Code.region id ops draw).wpIn (FR ro) nd C.P (PostE C.P B A0 n σ h w a.defers .normal s' h') a w := by
  obtain ⟨hd, hord⟩ := region_ok hok
  cases draw with
  | false =>
    refine wpIn_region ?_
    have := runOps_wp (n := n) (ro := ro) (nd := nd) hP hrun (Q := PostE C.P B A0 n σ h w a.defers .normal s' h') ops.toList 0 (fun j => by simp) (fun o ho t ht => by
      obtain ⟨i, hi, rfl⟩ := List.getElem_of_mem ho
      exact hd i _ (by rw [← Array.getElem?_toList]; exact List.getElem?_eq_getElem hi) t ht) σ h w s a s' h' hr hs hh (fun σ' w' a' k1 k2 k3 k4 => PostE.here (e := .normal) k4 k1 k2 k3)
    rw [List.range_eq_range']
    simpa using this
  | true =>
    refine wpIn_region_any hP.mixed ?_
    obtain ⟨val, st, q1, q2, q3, q4, q5⟩ := trace_of (s0 := s) ops.toList 0 (fun _ => AV.undef) (fun _ => h) (fun j => by simp) s' h' hh
    simp only [Nat.zero_add, Array.length_toList] at q3 q4
    have tr : Trace C run cf ops s h val st := ⟨q2 0 (Nat.le_refl _), fun i o ho => q5 i o (Nat.zero_le _) ho⟩
    have hg : Grows w { w with drawn := w.drawn + 1 } := Grows.drew w
    have e0 : st 0 = h := q2 0 (Nat.le_refl _)
    have hsel : sel ops val s (fun i => (Array.replicate ops.size false).getD i false) ops.size = s := by
      have : ∀ m, sel ops val s (fun i => (Array.replicate ops.size false).getD i false) m = s := by
        intro m
        induction m with
        | zero => rfl
        | succ m ih =>
          simp only [sel]
          rw [if_neg (by rw [Array.getD_eq_getD_getElem?, Array.getElem?_replicate]; split <;> simp), ih]
      exact this _
    have hrep : ∀ i, (Array.replicate ops.size false).getD i false = false := fun i => by rw [Array.getD_eq_getD_getElem?, Array.getElem?_replicate]; split <;> simp
    refine draw_wp (n := n) hP hrun (hord rfl (by simpa using hmx)) hd tr (fun q oq j oj h1 h2 h3 h4 id h5 h6 => by
      have happ : ∀ (l : List Oper) (o : Oper), o ∈ l → ∀ s id, id ∈ appId s o → anyApp l = true := by
        intro l
        induction l with
        | nil => intro o ho; cases ho
        | cons x l ih =>
          intro o ho s id hid
          simp only [anyApp, Bool.or_eq_true]
          rcases List.mem_cons.1 ho with rfl | ho
          · left
            unfold appId at hid
            unfold isApp
            split at hid <;> first | (cases hid; done) | skip
            first | rfl | (rename_i e; simp [e])
          · exact .inr (ih o ho s id hid)
      have e1 := happ ops.toList oq (by simpa using Array.mem_of_getElem? h1) _ _ h6
      obtain ⟨_, b1⟩ := drawIds_spec tr ops.toList 0 (fun j => by simp) q oq (Nat.zero_le _) h1 h3
      obtain ⟨b2, _⟩ := drawIds_spec tr ops.toList 0 (fun j => by simp) j oj (Nat.zero_le _) h2 h4
      simp only [drawOk, e1, Bool.not_true, Bool.false_or, List.all_eq_true, Bool.not_eq_true'] at hdr
      have hz : sel ops val s (fun _ => true) 0 = s := rfl
      rw [hz, e0] at b1 b2
      have := hdr id (b2 id h5)
      simp at this
      exact this (b1 id h6)) (σ0 := σ) (w0 := w) (a0 := a) (fun σ' w' a' k1 k2 k3 k4 => PostE.here (e := .normal) k4 (q4 ▸ k1) (q4 ▸ k2) (by rw [q3] at k3; exact q4 ▸ k3)) ops.size _ a _ σ 0 (by simp) (Nat.zero_le _)
      (by rw [e0]; exact hr.grows hg) (by rw [e0]; exact .grows hr hg) (by rw [e0, hsel]; exact hs.step (.grows hr hg)) rfl (fun i o _ _ => by rw [hrep]; simp) (fun j o _ h => by rw [hrep] at h; cases h) ?_
    have : ∀ (W : Nat → Bool) m, unl W m ≤ m := by
      intro W m
      induction m with
      | zero => exact Nat.le_refl _
      | succ m ih => simp only [unl]; split <;> omega
    exact this _ _

/-- A range over a function. -/
theorem range_wp [DFlag] (hP : Good C.P) {run : FuncId → List AV → H → Option (AV × H)} (hrun : Ok C.P run) {cf : FuncId} {nt : Nat} (hnt : nt = n)
    {σ : List (Option Nat)} {h : H} {w : World} {s : PT} {a : Act} {e : Ex} {s' : PT} {h' h2 : H} {v0 : AV} (hr : HRel C.P B A0 σ h w) (hs : SRel C.P (Alw C.P B A0 σ h) σ h w n s a.tmps)
    {g : Operand} {ps : Array Tmp} {assign body : Code} {gf : FuncId} {cap : List AV} (hg : ev s g = some (.func gf cap)) (hb : hasBody C.P gf = true)
    (hcall : run gf (.yield h.length :: cap) (h ++ [.loop ⟨cf, s, nt, ps, assign, body⟩ .ready]) = some (v0, h2))
    (hh : (match h2[h.length]? with
      | some (.loop L .ready) => some (Ex.normal, s, h2.set h.length (.loop L .over))
      | some (.loop L (.done e)) => some (e, s, h2.set h.length (.loop L .over))
      | _ => none) = some (e, s', h')) :
    (Code.rangeFunc g ps assign body).wpIn (FR none) nd C.P (PostE C.P B A0 n σ h w a.defers e s' h') a w := by
  subst hnt
  refine wpIn_rangeFunc ?_
  intro fn' _
  have hrx := ev_sound hr.gr hs hg
  obtain ⟨cs, hcs, hcl, hcr⟩ : ∃ cs : Array Value, a.eval g = .func (.func gf) #[] cs ∧ cs.size = cap.length ∧ ∀ (i : Nat) c u, cap[i]? = some c → cs[i]? = some u → Rel C.P (Alw C.P B A0 σ h) σ h w c u := by
    generalize a.eval g = z at hrx
    cases hrx with
    | data hr => cases hr with | func h1 h2 => exact ⟨_, rfl, h1, fun i c u hc hu => .data (h2 i c u hc hu)⟩
    | func h1 h2 => exact ⟨_, rfl, h1, h2⟩
  obtain ⟨L, hL⟩ : ∃ L : LoopV, L = ⟨cf, s, nt, ps, assign, body⟩ := ⟨_, rfl⟩
  rw [← hL] at hcall
  obtain ⟨W1, hW1⟩ : ∃ W1, (w.alloc (.deferred (some []))).alloc (.loop (recOf L fn' a.tmps w.heap.size .ready)) = W1 := ⟨_, rfl⟩
  have hg1 : Grows w W1 := by rw [← hW1]; exact (Grows.alloc w _).trans (Grows.alloc _ _)
  have hL1 : W1.heap[w.heap.size + 1]? = some (.loop (recOf L fn' a.tmps w.heap.size .ready)) := by
    rw [← hW1]; have := heap_alloc_new (w.alloc (.deferred (some []))) (.loop (recOf L fn' a.tmps w.heap.size .ready)); simpa using this
  have hK1 : W1.heap[w.heap.size]? = some (.deferred (some [])) := by
    rw [← hW1, (Grows.alloc (w.alloc (.deferred (some []))) _).block w.heap.size (by simp)]; exact heap_alloc_new w _
  have hy : ∀ b, (some (w.heap.size + 1) : Option Nat) = some b → w.heap.size ≤ b := fun b hb => by simp only [Option.some.injEq] at hb; omega
  have hst1 : Step C.P B A0 σ h w (σ ++ [some (w.heap.size + 1)]) (h ++ [.loop L .ready]) W1 := Step.push hr hg1 _ _ hy
  have hr1 : HRel C.P B A0 (σ ++ [some (w.heap.size + 1)]) (h ++ [.loop L .ready]) W1 := HRel.push hr hg1 _ _ hy (fun _ _ e => by cases e) (fun _ _ e => by cases e) (fun L2 st e _ => by
    simp only [VObj.loop.injEq] at e; obtain ⟨rfl, rfl⟩ := e
    subst hL
    exact ⟨_, fn', a.tmps, w.heap.size, rfl, hL1, hs.1, hs.2⟩)
  have hlen : h.length = σ.length := hr.len.symm
  have hsL : (σ ++ [some (w.heap.size + 1)])[h.length]? = some (some (w.heap.size + 1)) := by rw [hlen]; exact getElem?_push_eq σ _
  have hcalls := hrun.fn gf (.yield h.length :: cap) _ v0 h2 hb hcall B A0 _ W1 (#[.func (.yield (w.heap.size + 1)) #[] #[]] ++ cs) hr1 (by simp [hcl]; omega) (fun i c u hc hu => by
    cases i with
    | zero =>
      rw [Array.getElem?_append_left (by simp)] at hu
      simp at hc hu
      subst hc hu
      exact .yield hsL ⟨L, .ready, getElem?_push_eq h _⟩
    | succ i =>
      have hu' : cs[i]? = some u := by
        rw [Array.getElem?_append_right (by simp)] at hu
        simpa using hu
      exact (hcr i c u (by simpa using hc) hu').step hst1)
  refine ⟨w.heap.size + 1, [{ target := .collected w.heap.size, args := #[] }], W1, { target := .fn (.func gf) cs, args := #[.func (.yield (w.heap.size + 1)) #[] #[]] }, W1, gf,
    #[.func (.yield (w.heap.size + 1)) #[] #[]] ++ cs, W1, ?_, ?_, fun _ _ => trivial, ?_, fun hd => (by cases hd), ?_⟩
  · rw [← hW1, hL]; exact run_enterLoop_outer _ _ _ _ _
  · simp only [resolve, hcs, Deferred.ofValue, Sem.run_pure, Array.empty_append]
    simp [Act.eval]
  · simp only [invoke]
    exact run_callFunc hP hb
  · refine CallsIn.mono ((callsIn_wide (n := nd - 1)).2 hcalls) ?_
    rintro e1 w3 ⟨v, rfl, σ3, k1, k2, _⟩
    obtain ⟨es, st3, hi3⟩ := k2.loops h.length L .ready (getElem?_push_eq h _)
    rw [hsL] at es
    rw [hi3] at hh
    have fin : ∀ (p : Option Code), st3 ≠ .over → (∀ L' fn tm D, (recOf L' fn tm D st3).pending = p ∧ (recOf L' fn tm D st3).state ≠ .busy) →
        ∃ w4, (Instr.endLoop (w.heap.size + 1)).run C.P w3 = .ok p w4 ∧ ∀ e a', a'.defers = [{ target := .collected w.heap.size, args := #[] }] ++ a.defers → a'.tmps = a.tmps →
          PostE C.P B A0 nt σ h w a.defers e s (h2.set h.length (.loop L .over)) e.toExit a' w4 := fun p hno hp => by
      obtain ⟨l, fn, tm, D, q1, q2, q3, q4, q5⟩ := k1.loop h.length L st3 hi3 hno
      rw [es] at q1; simp only [Option.some.injEq] at q1; subst q1
      refine ⟨w3.putObj (w.heap.size + 1) (.loop { recOf L fn tm D st3 with state := .exhausted }), (run_endLoop (P := C.P) q3 (hp L fn tm D).2).trans (congrArg (fun z => Result.ok z _) (hp L fn tm D).1), fun e a' hd ht => ?_⟩
      have kst := Step.turn (st' := .over) (r' := { recOf L fn tm D st3 with state := .exhausted }) k1 hi3 q3 q2
      have kall := (hst1.trans k2).trans kst
      refine ⟨rfl, ⟨_, hd, ⟨⟨w.heap.size, rfl, Nat.le_refl _, (k2.trans kst).marks _ hK1, fun D' hm => by cases hm⟩, trivial⟩⟩, σ3, HRel.turn k1 hi3 hno es q3 (fun h => absurd rfl h), kall, ?_⟩
      rw [ht]
      exact ⟨hs.1, fun t => (hs.2 t).step kall⟩
    cases st3 with
    | busy => simp at hh
    | over => simp at hh
    | ready =>
      simp only [Option.some.injEq, Prod.mk.injEq] at hh
      obtain ⟨rfl, rfl, rfl⟩ := hh
      obtain ⟨w4, g1, g2⟩ := fin none (by simp) (fun L' fn tm D => ⟨rfl, by simp [recOf]⟩)
      exact ⟨none, w4, g1, g2 .normal _ rfl rfl⟩
    | done e0 =>
      simp only [Option.some.injEq, Prod.mk.injEq] at hh
      obtain ⟨rfl, rfl, rfl⟩ := hh
      obtain ⟨w4, g1, g2⟩ := fin (codeOf e0) (by simp) (fun L' fn tm D => ⟨rfl, by simp [recOf]⟩)
      refine ⟨codeOf e0, w4, g1, ?_⟩
      cases e0 with
      | normal => exact g2 .normal _ rfl rfl
      | exit id => exact wpIn_exit (g2 (.exit id) _ rfl rfl)
      | ret => exact wpIn_ret (g2 .ret _ rfl rfl)

theorem region_mix [DFlag] (hP : Good C.P) {run : FuncId → List AV → H → Option (AV × H)} (hrun : Ok C.P run) {cf : FuncId} {id : Nat} {ops : Array Oper} {ir : Bool} (hok : codeOk C cf n ir (.region id ops true) = true)
    {σ : List (Option Nat)} {h : H} {w : World} {s : PT} {a : Act} {s' : PT} {h' : H} (hr : HRel C.P B A0 σ h w) (hs : SRel C.P (Alw C.P B A0 σ h) σ h w n s a.tmps) (hh : mixV C run cf ops s h = some (s', h')) :
    (Code.region id ops true).wpIn (FR ro) nd C.P (PostE C.P B A0 n σ h w a.defers .normal s' h') a w := by
  obtain ⟨hd, _⟩ := region_ok hok
  unfold mixV at hh
  split at hh <;> first | (cases hh; done) | skip
  rename_i htmp
  split at hh <;> first | (cases hh; done) | skip
  rename_i s1 h1 F hto
  split at hh <;> first | (cases hh; done) | skip
  rename_i hF
  simp only [Option.some.injEq, Prod.mk.injEq] at hh
  obtain ⟨rfl, rfl⟩ := hh
  obtain ⟨val, hs0, fp, tr, q3, q4, q5⟩ := mtrace_of hto
  refine wpIn_region_any hP.mixed ?_
  have hg : Grows w { w with drawn := w.drawn + 1 } := Grows.drew w
  have hr1 := hr.grows hg
  have st1 : Step C.P B A0 σ h w σ h { w with drawn := w.drawn + 1 } := .grows hr hg
  obtain ⟨v1, v2⟩ := voids hr1 ops.size
  have hrep : ∀ i, (Array.replicate ops.size false).getD i false = false := fun i => by rw [Array.getD_eq_getD_getElem?, Array.getElem?_replicate]; split <;> simp
  have hsel : sel ops val s (fun i => (Array.replicate ops.size false).getD i false) ops.size = s := by
    have : ∀ m, sel ops val s (fun i => (Array.replicate ops.size false).getD i false) m = s := by
      intro m
      induction m with
      | zero => rfl
      | succ m ih =>
        simp only [sel]
        rw [if_neg (by rw [hrep]; simp), ih]
    exact this _
  have hselH : selH (fun i => (fp i).2) hs0 (fun i => (Array.replicate ops.size false).getD i false) ops.size = h ++ List.replicate ops.size .void := by
    have : ∀ m, selH (fun i => (fp i).2) hs0 (fun i => (Array.replicate ops.size false).getD i false) m = hs0 0 := by
      intro m
      induction m with
      | zero => rfl
      | succ m ih =>
        simp only [selH]
        rw [if_neg (by rw [hrep]; simp), ih]
    rw [this, tr.zero]
  refine mix_wp (n := n) hP hrun htmp hd tr (fun i j hij hj hm => fpOk_spec hF (q5 i (by omega)) (q5 j hj) hij hm) (σ0 := σ) (h0 := h) (w0 := w) (a0 := a)
    (fun σ' w' a' k1 k2 k3 k4 => PostE.here (e := .normal) k4 (q4 ▸ k1) (q4 ▸ k2) (by rw [q3] at k3; exact q4 ▸ k3)) ops.size _ a _ (σ ++ List.replicate ops.size none) (by simp)
    (by rw [hselH]; exact v1) (by rw [hselH]; exact st1.trans v2) (by rw [hselH, hsel]; exact hs.step (st1.trans v2)) rfl (fun j o _ h => by rw [hrep] at h; cases h) ?_
  have : ∀ m, unl (fun i => (Array.replicate ops.size false).getD i false) m ≤ m := by
    intro m
    induction m with
    | zero => simp [unl]
    | succ m ih => simp only [unl]; split <;> omega
  exact this _

theorem exec_wp [DFlag] (hP : Good C.P) {run : FuncId → List AV → H → Option (AV × H)} (hrun : Ok C.P run) {cf : FuncId} (hnt : ro = none → ∀ fn, C.P.funcs[cf]? = some fn → fn.ntmps = n) : ∀ (m : Nat),
    (∀ (c : Code), codeOk C cf n ro.isSome c = true → ∀ (σ : List (Option Nat)) (h : H) (w : World) (s : PT) (a : Act) (e : Ex) (s' : PT) (h' : H), HRel C.P B A0 σ h w → SRel C.P (Alw C.P B A0 σ h) σ h w n s a.tmps →
      exec C run cf m c s h = some (e, s', h') → c.wpIn (FR ro) nd C.P (PostE C.P B A0 n σ h w a.defers e s' h') a w) ∧
    (∀ (c : Code), codeOk C cf n ro.isSome c = true → ∀ (σ : List (Option Nat)) (h : H) (w : World) (s : PT) (a : Act) (e : Ex) (s' : PT) (h' : H), HRel C.P B A0 σ h w → SRel C.P (Alw C.P B A0 σ h) σ h w n s a.tmps →
      exec C run cf m (.loop c) s h = some (e, s', h') → LoopWp (FR ro) nd C.P c (PostE C.P B A0 n σ h w a.defers e s' h') a w) := by
  intro m
  induction m with
  | zero => exact ⟨fun c _ σ h w s a e s' h' _ _ hh => by simp [exec] at hh, fun c _ σ h w s a e s' h' _ _ hh => by simp [exec] at hh⟩
  | succ m ih =>
    obtain ⟨ih1, ih2⟩ := ih
    have round : ∀ (c : Code), codeOk C cf n ro.isSome c = true → ∀ (σ : List (Option Nat)) (h : H) (w : World) (s : PT) (a : Act) (e : Ex) (s' : PT) (h' : H), HRel C.P B A0 σ h w → SRel C.P (Alw C.P B A0 σ h) σ h w n s a.tmps →
        exec C run cf (m + 1) (.loop c) s h = some (e, s', h') → c.wpIn (FR ro) nd C.P (Exit.then (LoopWp (FR ro) nd C.P c (PostE C.P B A0 n σ h w a.defers e s' h')) (PostE C.P B A0 n σ h w a.defers e s' h')) a w := by
      intro c hok σ h w s a e s' h' hr hs hh
      simp only [exec] at hh
      split at hh
      · rename_i s1 h1 hb
        refine wpIn_mono (ih1 c hok σ h w s a _ _ _ hr hs hb) fun e1 a1 w1 ⟨p1, p2, σ1, p3, p4, p5⟩ => ?_
        subst p1
        exact (ih2 c hok σ1 h1 w1 s1 a1 e s' h' p3 p5 hh).mono fun e2 a2 w2 q => q.after p4 p2
      · rename_i hno
        refine wpIn_mono (ih1 c hok σ h w s a _ _ _ hr hs hh) fun e1 a1 w1 q => ?_
        cases e with
        | normal => exact absurd hh (hno _ _)
        | exit id => obtain ⟨p1, r⟩ := q; subst p1; exact ⟨rfl, r⟩
        | ret => obtain ⟨p1, r⟩ := q; subst p1; exact ⟨rfl, r⟩
    refine ⟨fun c hok σ h w s a e s' h' hr hs hh => ?_, fun c hok σ h w s a e s' h' hr hs hh => .of (round c hok σ h w s a e s' h' hr hs hh)⟩
    cases c with
    | skip =>
      simp only [exec, Option.some.injEq, Prod.mk.injEq] at hh
      obtain ⟨rfl, rfl, rfl⟩ := hh
      exact wpIn_skip (PostE.here rfl hr (.refl _ _ _) hs)
    | region id ops draw =>
      simp only [exec] at hh
      split at hh
      · rename_i hmx
        split at hh <;> first | (cases hh; done) | skip
        rename_i s1 h1 ho
        simp only [Option.some.injEq, Prod.mk.injEq] at hh
        obtain ⟨rfl, rfl, rfl⟩ := hh
        simp only [Bool.and_eq_true] at hmx
        obtain ⟨rfl, _⟩ := hmx
        exact region_mix hP hrun hok hr hs ho
      rename_i hmx
      split at hh <;> first | (cases hh; done) | skip
      rename_i s1 h1 ho
      split at hh <;> first | (cases hh; done) | skip
      rename_i hdr
      simp only [Option.some.injEq, Prod.mk.injEq] at hh
      obtain ⟨rfl, rfl, rfl⟩ := hh
      exact region_wp hP hrun hok hr hs ho hdr (by simpa using hmx)
    | seq x y =>
      simp only [codeOk, Bool.and_eq_true] at hok
      simp only [exec] at hh
      refine wpIn_seq ?_
      split at hh
      · rename_i s1 h1 hb
        refine wpIn_mono (ih1 x hok.1 σ h w s a _ _ _ hr hs hb) fun e1 a1 w1 ⟨p1, p2, σ1, p3, p4, p5⟩ => ?_
        subst p1
        exact wpIn_mono (ih1 y hok.2 σ1 h1 w1 s1 a1 e s' h' p3 p5 hh) fun e2 a2 w2 q => q.after p4 p2
      · rename_i hno
        refine wpIn_mono (ih1 x hok.1 σ h w s a _ _ _ hr hs hh) fun e1 a1 w1 q => ?_
        cases e with
        | normal => exact absurd hh (hno _ _)
        | exit id => obtain ⟨p1, r⟩ := q; subst p1; exact ⟨rfl, r⟩
        | ret => obtain ⟨p1, r⟩ := q; subst p1; exact ⟨rfl, r⟩
    | cond c x y =>
      simp only [codeOk, Bool.and_eq_true] at hok
      simp only [exec] at hh
      split at hh <;> first | (cases hh; done) | skip
      · rename_i hc
        exact wpIn_cond_true (rel_bool (ev_sound hr.gr hs hc)) (ih1 x hok.1 σ h w s a e s' h' hr hs hh)
      · rename_i hc
        exact wpIn_cond_false (rel_bool (ev_sound hr.gr hs hc)) (ih1 y hok.2 σ h w s a e s' h' hr hs hh)
    | block id b =>
      simp only [codeOk] at hok
      simp only [exec] at hh
      refine wpIn_block ?_
      split at hh
      · rename_i i s1 h1 hb
        refine wpIn_mono (ih1 b hok σ h w s a _ _ _ hr hs hb) fun e1 a1 w1 ⟨p1, r⟩ => ?_
        subst p1
        split at hh
        · rename_i hi
          simp only [Option.some.injEq, Prod.mk.injEq] at hh
          obtain ⟨rfl, rfl, rfl⟩ := hh
          subst hi
          simp only [Ex.toExit, Exit.inBlock, if_true]
          exact ⟨rfl, r⟩
        · rename_i hi
          simp only [Option.some.injEq, Prod.mk.injEq] at hh
          obtain ⟨rfl, rfl, rfl⟩ := hh
          simp only [Ex.toExit, Exit.inBlock, if_neg hi]
          exact ⟨rfl, r⟩
      · rename_i hno
        refine wpIn_mono (ih1 b hok σ h w s a _ _ _ hr hs hh) fun e1 a1 w1 q => ?_
        cases e with
        | normal => obtain ⟨p1, r⟩ := q; subst p1; exact ⟨rfl, r⟩
        | exit i => exact absurd hh (hno _ _ _)
        | ret => obtain ⟨p1, r⟩ := q; subst p1; exact ⟨rfl, r⟩
    | loop b =>
      simp only [codeOk] at hok
      exact loop_of (round b hok σ h w s a e s' h' hr hs hh)
    | exit id =>
      simp only [exec, Option.some.injEq, Prod.mk.injEq] at hh
      obtain ⟨rfl, rfl, rfl⟩ := hh
      exact wpIn_exit (PostE.here rfl hr (.refl _ _ _) hs)
    | ret =>
      simp only [exec, Option.some.injEq, Prod.mk.injEq] at hh
      obtain ⟨rfl, rfl, rfl⟩ := hh
      exact wpIn_ret (PostE.here rfl hr (.refl _ _ _) hs)
    | rangeFunc g ps assign body =>
      cases ro with
      | some l0 => simp [codeOk] at hok
      | none =>
        simp only [exec] at hh
        split at hh <;> first | (cases hh; done) | skip
        rename_i gf cap fn hg hf
        split at hh <;> first | (cases hh; done) | skip
        rename_i hb
        split at hh <;> first | (cases hh; done) | skip
        rename_i v0 h2 hcall
        exact range_wp hP hrun (hnt rfl fn hf) hr hs hg hb hcall hh
    | _ => simp [exec] at hh

theorem initS_get : ∀ (l : List AV) (i : Nat) (s : PT) (t : Nat), (initS i l s).get t = if i ≤ t ∧ t < i + l.length then l.getD (t - i) AV.undef else s.get t := by
  intro l
  induction l with
  | nil => intro i s t; simp only [initS, List.length_nil]; rw [if_neg (by omega)]
  | cons v l ih =>
    intro i s t
    simp only [initS, ih, PT.get_set, List.length_cons]
    by_cases e : t = i
    · subst e; rw [if_neg (by omega), if_pos rfl, if_pos (by omega)]; simp
    · by_cases e2 : i + 1 ≤ t ∧ t < i + 1 + l.length
      · rw [if_pos e2, if_pos (by omega), show t - i = (t - (i + 1)) + 1 by omega]; rfl
      · rw [if_neg e2, if_neg e, if_neg (by omega)]

theorem init_rel {P : Program} {A : Nat → Nat → Prop} {σ : List (Option Nat)} {h : H} {w : World} {args : List AV} {vs : Array Value} (hl : vs.size = args.length) (hn : args.length ≤ n)
    (ha : ∀ (i : Nat) a v, args[i]? = some a → vs[i]? = some v → Rel P A σ h w a v) : SRel P A σ h w n (initS 0 args .leaf) (vs ++ Array.replicate (n - vs.size) undef) := by
  refine ⟨by simp; omega, fun t => ?_⟩
  rw [initS_get]
  by_cases ht : t < args.length
  · rw [if_pos (by omega)]
    have hv : vs[t]? = some (vs[t]'(by omega)) := Array.getElem?_eq_getElem _
    have hc : args[t]? = some args[t] := List.getElem?_eq_getElem ht
    rw [Array.getD_eq_getD_getElem?, Array.getElem?_append_left (by omega), hv]
    have := ha t _ _ hc hv
    simpa [List.getD_eq_getElem?_getD, hc] using this
  · rw [if_neg (by omega), PT.get_leaf, Array.getD_eq_getD_getElem?, Array.getElem?_append_right (by omega), Array.getElem?_replicate]
    split <;> exact undef_rel

/-- One result, as the model reads it. -/
def resF (tm : Array Value) : ResultVar → Sem Value
  | .tmp t => pure (tm.getD t undef)
  | .cell a t => do loadVar t (← asAddr (tm.getD a undef))
theorem resV_run {P : Program} {σ : List (Option Nat)} {h : H} {w : World} {s : PT} {tm : Array Value} (hr : HRel P B A0 σ h w) (hs : SRel P (Alw P B A0 σ h) σ h w n s tm) {x : ResultVar} {r : AV} (hh : resV P s h x = some r) :
    ∃ v, (resF tm x).run P w = .ok v w ∧ Rel P (Alw P B A0 σ h) σ h w r v := by
  cases x with
  | tmp t => simp only [resV, Option.some.injEq] at hh; subst hh; exact ⟨_, rfl, hs.2 t⟩
  | cell a t =>
    simp only [resV] at hh
    obtain ⟨v, e1, e2⟩ := loadV_sound hr hh (hs.2 a)
    refine ⟨v, ?_, e2⟩
    have hp : ∃ p, tm.getD a undef = .pointer (some p) := by
      have := hs.2 a
      unfold loadV at hh
      split at hh <;> first | (cases hh; done) | skip
      · rename_i id off hsa; rw [hsa] at this; obtain ⟨b, e, _⟩ := rel_ptr this; exact ⟨_, e⟩
      · rename_i e off hsa; rw [hsa] at this; obtain ⟨b, o, f, e, _⟩ := rel_iptr this; exact ⟨_, e⟩
    obtain ⟨p, hp⟩ := hp
    simp only [resF, hp, asAddr, Sem.run_bind, Sem.run_pure, Result.andThen_ok]
    simpa only [hp, Instr.loadAt, Instr.sureAddr, Sem.run_bind, Sem.run_pure, Result.andThen_ok] using e1

theorem resVs_run {P : Program} {σ : List (Option Nat)} {h : H} {w : World} {s : PT} {tm : Array Value} (hr : HRel P B A0 σ h w) (hs : SRel P (Alw P B A0 σ h) σ h w n s tm) : ∀ (l : List ResultVar) (rs : List AV), resVs P s h l = some rs →
    ∃ vs : List Value, (l.mapM (resF tm)).run P w = .ok vs w ∧ vs.length = rs.length ∧
      ∀ (i : Nat) a v, rs[i]? = some a → vs[i]? = some v → Rel P (Alw P B A0 σ h) σ h w a v := by
  intro l
  induction l with
  | nil => intro rs hh; simp only [resVs, Option.some.injEq] at hh; subst hh; exact ⟨[], rfl, rfl, by simp⟩
  | cons x l ih =>
    intro rs hh
    simp only [resVs] at hh
    split at hh <;> first | (cases hh; done) | skip
    rename_i a r h1 h2
    simp only [Option.some.injEq] at hh; subst hh
    obtain ⟨v, e1, e2⟩ := resV_run hr hs h1
    obtain ⟨vs, g1, g2, g3⟩ := ih r h2
    refine ⟨v :: vs, ?_, by simp [g2], fun i a' v' ha hv => ?_⟩
    · rw [List.mapM_cons]
      simp only [Sem.run_bind, Sem.run_pure]
      rw [e1]
      simp only [Result.andThen_ok, g1]
    · cases i with
      | zero => simp at ha hv; subst ha hv; exact e2
      | succ i => simp at ha hv; exact g3 i a' v' ha hv

theorem results_run {P : Program} {σ : List (Option Nat)} {h : H} {w : World} {s : PT} {tm : Array Value} (hr : HRel P B A0 σ h w) (hs : SRel P (Alw P B A0 σ h) σ h w n s tm) {fn : Func} {r : AV} (hh : resultV P s h fn.results.toList = some r) :
    ∃ v, (results fn tm).run P w = .ok v w ∧ Rel P (Alw P B A0 σ h) σ h w r v := by
  have key : ∀ rs, resVs P s h fn.results.toList = some rs → ∃ vs : List Value, (results fn tm).run P w = .ok (if hsz : vs.toArray.size = 1 then vs.toArray[0] else .tuple vs.toArray) w ∧ vs.length = rs.length ∧
      ∀ (i : Nat) a v, rs[i]? = some a → vs[i]? = some v → Rel P (Alw P B A0 σ h) σ h w a v := by
    intro rs hrs
    obtain ⟨vs, g1, g2, g3⟩ := resVs_run hr hs _ _ hrs
    refine ⟨vs, ?_, g2, g3⟩
    simp only [results, Array.mapM_eq_mapM_toList, Sem.run_bind, Sem.run_map]
    change (((Sem.run P (List.mapM (resF tm) fn.results.toList) w).andThen _).andThen _) = _
    rw [g1]
    rfl
  unfold resultV at hh
  split at hh
  · rename_i x hx
    obtain ⟨vs, g1, g2, g3⟩ := key [r] (by rw [hx]; simp only [resVs, hh])
    have hsz : vs.length = 1 := by simpa using g2
    obtain ⟨v, rfl⟩ := List.length_eq_one_iff.1 hsz
    exact ⟨v, by rw [g1]; rfl, g3 0 r v rfl rfl⟩
  · rename_i hno
    split at hh <;> first | (cases hh; done) | skip
    rename_i rs hrs
    simp only [Option.some.injEq] at hh; subst hh
    obtain ⟨vs, g1, g2, g3⟩ := key rs hrs
    have hlen : ∀ (l : List ResultVar) rs, resVs P s h l = some rs → rs.length = l.length := by
      intro l
      induction l with
      | nil => intro rs hh; simp only [resVs, Option.some.injEq] at hh; subst hh; rfl
      | cons x l ih =>
        intro rs hh
        simp only [resVs] at hh
        split at hh <;> first | (cases hh; done) | skip
        rename_i a r _ h2
        simp only [Option.some.injEq] at hh; subst hh
        simp [ih r h2]
    have hne : vs.length ≠ 1 := fun e => by
      have h1 : fn.results.toList.length = 1 := by rw [← hlen _ _ hrs]; omega
      obtain ⟨x, hx⟩ := List.length_eq_one_iff.1 h1
      exact hno x hx
    refine ⟨.tuple vs.toArray, ?_, .tuple (by simpa using g2) (fun i a v ha hv => g3 i a v ha (by simpa using hv))⟩
    rw [g1, dif_neg (by simpa using hne)]
end

/-- What is asked of a function that is taken by its contract. -/
def PrimOk [DFlag] (P : Program) (f : FuncId) (p : List AV → H → Option (AV × H)) : Prop :=
  ∀ args h r h', p args h = some (r, h') → ∀ (B : Nat) (A0 : Nat → Nat → Prop) (σ : List (Option Nat)) (w : World) (vs : Array Value), HRel P B A0 σ h w → vs.size = args.length →
    (∀ (i : Nat) a v, args[i]? = some a → vs[i]? = some v → Rel P (Alw P B A0 σ h) σ h w a v) →
    Calls P f vs w (fun e w' => ∃ v, e = .returned v ∧ Leaves P B A0 σ h w r h' v w')

section
variable {B : Nat} {A0 : Nat → Nat → Prop} {n : Nat}
theorem setPs_rel {P : Program} {A : Nat → Nat → Prop} {σ : List (Option Nat)} {h : H} {w : World} : ∀ (ps : List Tmp) (args : List AV) (vs : List Value) (s : PT) (tm : Array Value), SRel P A σ h w n s tm → (∀ p ∈ ps, p < n) → vs.length = args.length →
    (∀ (i : Nat) a v, args[i]? = some a → vs[i]? = some v → Rel P A σ h w a v) → SRel P A σ h w n (setPs (ps.zip args) s) ((ps.zip vs).foldl (fun tmps (t, a) => tmps.setIfInBounds t a) tm) := by
  intro ps
  induction ps with
  | nil => intro args vs s tm hs _ _ _; exact hs
  | cons p ps ih =>
    intro args vs s tm hs hp hl ha
    cases args with
    | nil => cases vs with
      | nil => exact hs
      | cons _ _ => simp at hl
    | cons x args => cases vs with
      | nil => simp at hl
      | cons v vs =>
        simp only [List.zip_cons_cons, setPs, List.foldl_cons]
        refine ih args vs _ _ ?_ (fun q hq => hp q (by simp [hq])) (by simpa using hl) (fun i a v h1 h2 => ha (i + 1) a v (by simpa using h1) (by simpa using h2))
        have := SRel.put (a := { tmps := tm, defers := [] }) hs (d := some p) (fun t ht => by cases ht; exact hp p (by simp)) (ha 0 x v rfl rfl)
        exact this

theorem takeAll [DFlag] {P : Program} {fn : Func} {tm : Array Value} {σ σ' : List (Option Nat)} {h h' : H} {w0 : World} {s : PT} {r : AV} {nd : Nat} : ∀ (ms : List Deferred) (w : World), HRel P B A0 σ' h' w → Step P B A0 σ h w0 σ' h' w → B ≤ w0.heap.size →
    SRel P (Alw P B A0 σ' h') σ' h' w n s tm → resultV P s h' fn.results.toList = some r → Marked w0.heap.size w ms →
    LeavesInM Fence.wide nd P fn tm (fun e w' => ∃ v, e = .returned v ∧ Leaves P B A0 σ h w0 r h' v w') ms .returning w := by
  intro ms
  induction ms with
  | nil =>
    intro w hr hst _ hs hv _
    obtain ⟨u, g1, g2⟩ := results_run hr hs hv
    exact ⟨u, g1, u, rfl, σ', hr, hst, g2⟩
  | cons m ms ih =>
    intro w hr hst hB hs hv hm
    obtain ⟨⟨D, rfl, h2, h3, h4⟩, hm⟩ := hm
    refine ⟨by simp, .inl ⟨D, _, rfl, run_takeDeferred h3, ?_⟩⟩
    have hk : Step P B A0 σ' h' w σ' h' w := .refl _ _ _
    refine ih _ (hr.take h3) (hst.take h3 (by omega) h2) hB ⟨hs.1, fun t => ?_⟩ hv ?_
    · have hstep : ∀ {c : AV} {v : Value}, Rel P (Alw P B A0 σ' h') σ' h' w c v → Rel P (Alw P B A0 σ' h') σ' h' (w.putObj D (.deferred none)) c v := fun r => HRel.takeRel h3 r
      exact hstep (hs.2 t)
    · -- the other marks lie elsewhere
      have : ∀ (l : List Deferred), Marked w0.heap.size w l → (∀ D', ({ target := .collected D', args := #[] } : Deferred) ∈ l → D' ≠ D) → Marked w0.heap.size (w.putObj D (.deferred none)) l := by
        intro l
        induction l with
        | nil => intro _ _; trivial
        | cons m l ihl =>
          intro hm hne
          obtain ⟨⟨D2, e1, e2, e3, e4⟩, hm⟩ := hm
          exact ⟨⟨D2, e1, e2, by rw [World.putObj_heap_other (hne D2 (by rw [e1]; simp))]; exact e3, e4⟩, ihl hm (fun D' hD' => hne D' (List.mem_cons_of_mem _ hD'))⟩
      exact this ms hm h4

theorem callR_ok [DFlag] {C : Cfg} (hP : Good C.P) (hprim : ∀ f, PrimOk C.P f (C.prim f)) : ∀ (m : Nat), Ok C.P (callR C m) := by
  intro m
  induction m with
  | zero => exact ⟨fun f args h r h' _ hh => by simp [callR] at hh, fun i args h r h' hh => by simp [callR] at hh⟩
  | succ m ih =>
    refine ⟨fun f args h r h' hbo hh B A0 σ w vs hr hl ha => ?_, fun i args h r h' hh B A0 σ w vs hr hl ha l hsl => ?_⟩
    · simp only [callR] at hh
      split at hh
      · rename_i hno; simp [hasBody, hno] at hbo
      rename_i fn hf
      split at hh
      · rename_i z hz
        simp only [Option.some.injEq] at hh; subst hh
        exact hprim f args h r h' hz B A0 σ w vs hr hl ha
      split at hh <;> first | (cases hh; done) | skip
      rename_i c hb
      split at hh <;> first | (cases hh; done) | skip
      rename_i hc
      have fin : ∀ e s1 h1, (e = Ex.normal ∨ e = Ex.ret) → exec C (callR C m) f m c (initS 0 args .leaf) h = some (e, s1, h1) → (match resultV C.P s1 h1 fn.results.toList with | some v => some (v, h1) | none => none) = some (r, h') →
          Calls C.P f vs w (fun e w' => ∃ v, e = .returned v ∧ Leaves C.P B A0 σ h w r h' v w') := by
        intro e s1 h1 he hx hres
        split at hres <;> first | (cases hres; done) | skip
        rename_i v hv
        simp only [Option.some.injEq, Prod.mk.injEq] at hres
        obtain ⟨rfl, rfl⟩ := hres
        refine (callsIn_wide (n := 0)).1 (callsIn_of_wp_marks hf hb trivial ?_)
        have hs := init_rel (n := fn.ntmps) hl hc.2 ha
        refine wpIn_mono ((exec_wp (ro := none) (nd := 0) (n := fn.ntmps) (cf := f) hP ih (fun _ fn' hf' => by rw [hf] at hf'; cases hf'; rfl) m).1 c hc.1 σ h w _ { tmps := vs ++ Array.replicate (fn.ntmps - vs.size) undef, defers := [] } e s1 h1 hr hs hx) fun e' a' w' ⟨p1, ⟨ms, p2, pm⟩, σ1, p3, p4, p5⟩ => ?_
        subst p1
        simp only [List.append_nil] at p2
        have key := takeAll (fn := fn) (nd := 0) ms w' p3 p4 hr.base p5 hv pm
        rw [← p2] at key
        rcases he with rfl | rfl <;> exact key
      split at hh <;> first | (cases hh; done) | skip
      · rename_i s1 h1 hx; exact fin _ s1 h1 (.inl rfl) hx hh
      · rename_i s1 h1 hx; exact fin _ s1 h1 (.inr rfl) hx hh
    · simp only [callR] at hh
      have hno : C.P.funcs[yb C.P + i]? = none := Array.getElem?_eq_none (by simp [yb]; omega)
      rw [hno] at hh
      simp only [show yb C.P ≤ yb C.P + i from Nat.le_add_right _ _, if_true, Nat.add_sub_cancel_left] at hh
      unfold roundV at hh
      split at hh <;> first | (cases hh; done) | skip
      rename_i L hi
      split at hh <;> first | (cases hh; done) | skip
      rename_i hc
      obtain ⟨hc1, hc2, hc3, hc4⟩ := hc
      split at hh <;> first | (cases hh; done) | skip
      rename_i s1 h1 hx1
      split at hh <;> first | (cases hh; done) | skip
      rename_i L1 hi1
      split at hh <;> first | (cases hh; done) | skip
      rename_i e s2 h2 hx2
      split at hh <;> first | (cases hh; done) | skip
      rename_i L2 hi2
      obtain ⟨l', fn, tm, D, q1, q2, q3, q4, q5⟩ := hr.loop i L .ready hi (by simp)
      rw [hsl] at q1; simp only [Option.some.injEq] at q1; subst q1
      have hy := run_yield (P := C.P) (args := vs) q3 (by show vs.size = L.ps.size; omega)
      refine ⟨fn, _, L.assign, L.body, hy, fun k => roundIn_of_wpIn (F := Fence.wide) trivial ?_⟩
      have hps : SRel C.P (Alw C.P B A0 σ h) σ h w L.n (setPs (L.ps.toList.zip args) L.s) (Array.foldl (fun tmps (t, a) => tmps.setIfInBounds t a) tm (L.ps.zip vs)) := by
        have := setPs_rel L.ps.toList args vs.toList L.s tm ⟨q4, q5⟩ (fun p hp => by simpa using Array.all_eq_true_iff_forall_mem.1 hc2 p (by simpa using hp)) (by simpa using hl) (fun i a v h1 h2 => ha i a v h1 (by simpa using h2))
        rw [← Array.foldl_toList]
        simpa [Array.toList_zip] using this
      have hnr : (some l : Option Nat) = none → ∀ fn, C.P.funcs[L.cf]? = some fn → fn.ntmps = L.n := fun h => by cases h
      refine wpIn_mono ((exec_wp (ro := some l) (nd := k) (n := L.n) (cf := L.cf) hP ih hnr m).1 L.assign hc3 σ h w _ { tmps := _, defers := [] } _ s1 h1 hr hps hx1) ?_
      rintro e1 a1 w1 ⟨rfl, _, σ1, k1, k2, k3⟩
      obtain ⟨e2, st2, e3⟩ := k2.loops i L .ready hi
      rw [hi1] at e3; simp only [Option.some.injEq, VObj.loop.injEq] at e3
      obtain ⟨rfl, rfl⟩ := e3
      obtain ⟨l', fn1, tm1, D1, r1, r2, r3, r4, r5⟩ := k1.loop i L1 .ready hi1 (by simp)
      rw [e2, hsl] at r1; simp only [Option.some.injEq] at r1; subst r1
      refine ⟨_, run_beginRound r3 rfl, ?_⟩
      have b1 : HRel C.P B A0 σ1 (h1.set i (.loop L1 .busy)) (w1.putObj l (.loop { recOf L1 fn1 tm1 D1 .ready with state := .busy })) := HRel.turn k1 hi1 (by simp) (e2.trans hsl) r3 (fun _ => rfl)
      have b2 : Step C.P B A0 σ1 h1 w1 σ1 (h1.set i (.loop L1 .busy)) (w1.putObj l (.loop { recOf L1 fn1 tm1 D1 .ready with state := .busy })) := Step.turn k1 hi1 r3 r2
      refine wpIn_mono ((exec_wp (ro := some l) (nd := k) (n := L1.n) (cf := L1.cf) hP ih hnr m).1 L1.body hc4 σ1 _ _ s1 a1 e s2 h2 b1 ⟨k3.1, fun t => (k3.2 t).step b2⟩ hx2) ?_
      rintro e4 a4 w4 ⟨rfl, _, σ4, c1, c2, c3⟩
      have hil : i < h1.length := (List.getElem?_eq_some_iff.1 hi1).1
      obtain ⟨e5, st5, e6⟩ := c2.loops i L1 .busy (List.getElem?_set_self hil)
      rw [hi2] at e6; simp only [Option.some.injEq, VObj.loop.injEq] at e6
      obtain ⟨rfl, rfl⟩ := e6
      obtain ⟨l', fn2, tm2, D2, z1, z2, z3, z4, z5⟩ := c1.loop i L2 .busy hi2 (by simp)
      rw [e5, e2, hsl] at z1; simp only [Option.some.injEq] at z1; subst z1
      have hsl4 : σ4[i]? = some (some l) := e5.trans (e2.trans hsl)
      have fin : ∀ (jump : Option Code) (st : LSt), st ≠ .over → recOf L2 fn2 tm2 D2 st = { recOf L2 fn2 tm2 D2 .busy with state := if jump.isNone then .ready else .done, pending := jump } → some (AV.bool jump.isNone, h2.set i (.loop L2 st)) = some (r, h') →
          ∃ v w', (Instr.endRound l jump).run C.P w4 = .ok v w' ∧ ∃ v', Ending.returned v = .returned v' ∧ Leaves C.P B A0 σ h w r h' v' w' := fun jump st hno hrec hres => by
        simp only [Option.some.injEq, Prod.mk.injEq] at hres
        obtain ⟨rfl, rfl⟩ := hres
        refine ⟨_, _, run_endRound jump z3, _, rfl, σ4, HRel.turn c1 hi2 (by simp) hsl4 z3 (fun _ => hrec.symm), ((k2.trans b2).trans c2).trans (Step.turn c1 hi2 z3 z2), .data (.bool _)⟩
      cases e with
      | normal => exact fin none .ready (by simp) rfl hh
      | exit id => exact fin (some (.exit id)) (.done (.exit id)) (by simp) rfl hh
      | ret => exact fin (some .ret) (.done .ret) (by simp) rfl hh
end
end Go.V
