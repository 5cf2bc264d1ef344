/- How a value of the value machine stands for a value of the model, in a world; and that it goes on doing so while a call works on memory of its own. -/
import Derived.Test.YtdoegkegjaadeaaGreatDoorQV1
namespace Go.V
open Go

/-- A value without own memory: what it leads to lies in cells that A allows. -/
inductive IRel (A : Nat → Nat → Prop) (w : World) : AV → Value → Prop
  | bool (b : Bool) : IRel A w (.bool b) (.bool b)
  | int (k : IntKind) (n : Int) : IRel A w (.int k n) (.int k n)
  | str (s : ByteArray) : IRel A w (.str s) (.string s)
  | nilptr : IRel A w .nilptr (.pointer none)
  | nilmap : IRel A w .nilmap (.map none)
  | nilFunc : IRel A w .nilFunc .nilFunc
  | nilIface : IRel A w .nilIface .nilIface
  | iptr {e : AV} {off b o : Nat} (f : Nat → Value) (h1 : ∀ c ∈ e.cells, c.one = true)
      (h2 : ∀ (j : Nat) c, e.cells[j]? = some c → A b (o + j) ∧ w.cell? ⟨b, o + j, none⟩ = some (f j))
      (h3 : ∀ (j : Nat) c, e.cells[j]? = some c → IRel A w c (f j)) : IRel A w (.iptr e off) (.pointer (some ⟨b, o + off, none⟩))
  | islNil : IRel A w (.isl [] .unk) (.slice none 0 0)
  | islEmpty (a : Addr) (cap : Nat) (hm : cap ≤ maxLen) : IRel A w (.isl [] .unk) (.slice (some a) 0 cap)
  | isl {es : List AV} {sz b o cap : Nat} (f : Nat → Nat → Value) (hz : 0 < sz) (hc : es.length ≤ cap) (hm : cap ≤ maxLen)
      (h0 : ∀ e ∈ es, e.cells.length = sz ∧ notTuple e = true) (h1 : ∀ e ∈ es, ∀ c ∈ e.cells, c.one = true)
      (h2 : ∀ (i j : Nat) e c, es[i]? = some e → e.cells[j]? = some c → A b (o + i * sz + j) ∧ w.cell? ⟨b, o + i * sz + j, none⟩ = some (f i j))
      (h3 : ∀ (i j : Nat) e c, es[i]? = some e → e.cells[j]? = some c → IRel A w c (f i j)) :
      IRel A w (.isl es .unk) (.slice (some ⟨b, o, none⟩) es.length cap)
  | func {f : FuncId} {cs : List AV} {vs : Array Value} (hl : vs.size = cs.length)
      (h : ∀ (i : Nat) (a : AV) (v : Value), cs[i]? = some a → vs[i]? = some v → IRel A w a v) : IRel A w (.func f cs) (.func (.func f) #[] vs)
  | iface {t : TypeId} {a : AV} {v : Value} (hn : notTuple a = true) (h : IRel A w a v) : IRel A w (.iface t a) (.iface t v)
  | agg {cs : List AV} {vs : Array Value} (h1 : ∀ c ∈ cs, c.one = true) (hl : vs.size = cs.length)
      (h : ∀ (i : Nat) (a : AV) (v : Value), cs[i]? = some a → vs[i]? = some v → IRel A w a v) : IRel A w (.agg cs) (.agg vs)
  | tuple {cs : List AV} {vs : Array Value} (hl : vs.size = cs.length)
      (h : ∀ (i : Nat) (a : AV) (v : Value), cs[i]? = some a → vs[i]? = some v → IRel A w a v) : IRel A w (.tuple cs) (.tuple vs)

theorem IRel.mono {A A' : Nat → Nat → Prop} {w w' : World} (hA : ∀ b o x, A b o → w.cell? ⟨b, o, none⟩ = some x → A' b o ∧ w'.cell? ⟨b, o, none⟩ = some x)
    {a : AV} {v : Value} (h : IRel A w a v) : IRel A' w' a v := by
  induction h with
  | bool b => exact .bool b
  | int k n => exact .int k n
  | str s => exact .str s
  | nilptr => exact .nilptr
  | nilmap => exact .nilmap
  | nilFunc => exact .nilFunc
  | nilIface => exact .nilIface
  | iptr f h1 h2 h3 ih => exact .iptr f h1 (fun j c hc => hA _ _ _ (h2 j c hc).1 (h2 j c hc).2) ih
  | islNil => exact .islNil
  | islEmpty a cap hm => exact .islEmpty a cap hm
  | isl f hz hc hm h0 h1 h2 h3 ih => exact .isl f hz hc hm h0 h1 (fun i j e c he hj => hA _ _ _ (h2 i j e c he hj).1 (h2 i j e c he hj).2) ih
  | func hl _ ih => exact .func hl ih
  | iface hn _ ih => exact .iface hn ih
  | agg h1 hl _ ih => exact .agg h1 hl ih
  | tuple hl _ ih => exact .tuple hl ih

/-- The row of a slice that may grow, as the model holds it. -/
def TokOk (P : Program) (σ : List (Option Nat)) (w : World) (t : Nat) (v : Value) (n : Nat) (ty : TypeId) : Prop :=
  (v = .slice none 0 0 ∧ σ[t]? = some none ∧ n = 0) ∨
  ∃ b cap vs sz, σ[t]? = some (some b) ∧ v = .slice (some ⟨b, 0, none⟩) n cap ∧ (∃ fr, w.heap[b]? = some (.cells vs ty fr)) ∧
    sizeV P ty = some sz ∧ vs.size = cap * sz ∧ n ≤ cap ∧ cap ≤ maxLen

inductive Rel (P : Program) (A : Nat → Nat → Prop) (σ : List (Option Nat)) (h : H) (w : World) : AV → Value → Prop
  | data {a : AV} {v : Value} (hd : IRel A w a v) : Rel P A σ h w a v
  | yield {i l : Nat} (hs : σ[i]? = some (some l)) (hk : ∃ L st, h[i]? = some (.loop L st)) : Rel P A σ h w (.yield i) (.func (.yield l) #[] #[])
  | mp {id b : Nat} (hs : σ[id]? = some (some b)) (hk : ∃ es, h[id]? = some (.map es)) : Rel P A σ h w (.mp id) (.map (some b))
  | ptr {id off b : Nat} (hs : σ[id]? = some (some b)) (hk : ∃ cs st, h[id]? = some (.cells cs st)) : Rel P A σ h w (.ptr id off) (.pointer (some ⟨b, off, none⟩))
  | msl {id off sz len c b : Nat} {cap : Option Nat} (hs : σ[id]? = some (some b)) (hk : ∃ cs st, h[id]? = some (.cells cs st)) (h0 : 0 < sz) (hc : len ≤ c) (hm : c ≤ maxLen) (hcap : ∀ n, cap = some n → c = n) (hw : ∃ vs ty fr, w.heap[b]? = some (.cells vs ty fr) ∧ off + c * sz ≤ vs.size) :
      Rel P A σ h w (.msl id off sz len cap) (.slice (some ⟨b, off, none⟩) len c)
  | full {es : List AV} {base : Option Addr} {n : Nat} (hd : IRel A w (.isl es .unk) (.slice base n n)) : Rel P A σ h w (.isl es .full) (.slice base n n)
  | tok {es : List AV} {t : Nat} {v : Value} (hd : IRel A w (.isl es .unk) v)
      (ht : ∃ u ty, h[t]? = some (.tok u ty) ∧ es.length ≤ u ∧ (es.length = u → TokOk P σ w t v u ty)) : Rel P A σ h w (.isl es (.tok t)) v
  | func {f : FuncId} {cs : List AV} {vs : Array Value} (hl : vs.size = cs.length)
      (hr : ∀ (i : Nat) (a : AV) (v : Value), cs[i]? = some a → vs[i]? = some v → Rel P A σ h w a v) : Rel P A σ h w (.func f cs) (.func (.func f) #[] vs)
  | iface {t : TypeId} {a : AV} {v : Value} (hn : notTuple a = true) (hr : Rel P A σ h w a v) : Rel P A σ h w (.iface t a) (.iface t v)
  | agg {cs : List AV} {vs : Array Value} (h1 : ∀ c ∈ cs, c.one = true) (hl : vs.size = cs.length)
      (hr : ∀ (i : Nat) (a : AV) (v : Value), cs[i]? = some a → vs[i]? = some v → Rel P A σ h w a v) : Rel P A σ h w (.agg cs) (.agg vs)
  | tuple {cs : List AV} {vs : Array Value} (hl : vs.size = cs.length)
      (hr : ∀ (i : Nat) (a : AV) (v : Value), cs[i]? = some a → vs[i]? = some v → Rel P A σ h w a v) : Rel P A σ h w (.tuple cs) (.tuple vs)

/-- The cells that hold what may not be turned any more. -/
def Alw (P : Program) (B : Nat) (A0 : Nat → Nat → Prop) (σ : List (Option Nat)) (h : H) (b o : Nat) : Prop :=
  if b < B then A0 b o else
    (∀ (i : Nat) cs, h[i]? = some (.cells cs .live) → σ[i]? ≠ some (some b)) ∧
    (∀ (i : Nat) u ty, h[i]? = some (.tok u ty) → σ[i]? = some (some b) → ∃ sz, sizeV P ty = some sz ∧ o < u * sz)

/-- The shape of no block turns. -/
def Shapes (w w' : World) : Prop := ∀ (b : Nat) (vs : Array Value) ty fr, w.heap[b]? = some (Obj.cells vs ty fr) → ∃ (vs' : Array Value) (fr' : Nat × Nat), w'.heap[b]? = some (Obj.cells vs' ty fr') ∧ vs'.size = vs.size

/-- Whether a proof is to say, too, that the tape of choices only goes on (what the kit's contract of sorting asks of the order). -/
class DFlag where
  D : Prop
instance (priority := low) noD : DFlag := ⟨False⟩
structure Step [DFlag] (P : Program) (B : Nat) (A0 : Nat → Nat → Prop) (σ : List (Option Nat)) (h : H) (w : World) (σ' : List (Option Nat)) (h' : H) (w' : World) : Prop where
  below : RowKit.Below B w w'
  shapes : Shapes w w'
  kept : ∀ b o x, Alw P B A0 σ h b o → w.cell? ⟨b, o, none⟩ = some x → Alw P B A0 σ' h' b o ∧ w'.cell? ⟨b, o, none⟩ = some x
  cells : ∀ (i : Nat) cs st, h[i]? = some (.cells cs st) → σ'[i]? = σ[i]? ∧ ∃ cs' st', h'[i]? = some (.cells cs' st')
  toks : ∀ (i : Nat) u ty, h[i]? = some (.tok u ty) → ∃ u', h'[i]? = some (.tok u' ty) ∧ u ≤ u' ∧ (u' = u → σ'[i]? = σ[i]?)
  loops : ∀ (i : Nat) L st, h[i]? = some (.loop L st) → σ'[i]? = σ[i]? ∧ ∃ st', h'[i]? = some (.loop L st')
  maps : ∀ (i : Nat) es, h[i]? = some (.map es) → σ'[i]? = σ[i]? ∧ ∃ es', h'[i]? = some (.map es')
  marks : ∀ k : Nat, w.heap[k]? = some (.deferred (some [])) → w'.heap[k]? = some (.deferred (some []))
  drawn : DFlag.D → w.drawn ≤ w'.drawn

section
variable {P : Program} {B : Nat} {A0 : Nat → Nat → Prop}
theorem Shapes.refl (w : World) : Shapes w w := fun _ vs _ fr h => ⟨vs, fr, h, rfl⟩
theorem Shapes.trans {a b c : World} (h : Shapes a b) (k : Shapes b c) : Shapes a c := fun i vs ty fr hi => by
  obtain ⟨vs', fr', h1, h2⟩ := h i vs ty fr hi
  obtain ⟨vs'', fr'', h3, h4⟩ := k i vs' ty fr' h1
  exact ⟨vs'', fr'', h3, h4.trans h2⟩
theorem Step.refl [DFlag] (σ : List (Option Nat)) (h : H) (w : World) : Step P B A0 σ h w σ h w :=
  ⟨.refl _ _, .refl _, fun _ _ _ a c => ⟨a, c⟩, fun _ cs st hi => ⟨rfl, cs, st, hi⟩, fun _ u _ hi => ⟨u, hi, Nat.le_refl _, fun _ => rfl⟩, fun _ _ st hi => ⟨rfl, st, hi⟩, fun _ es hi => ⟨rfl, es, hi⟩, fun _ hk => hk, fun _ => Nat.le_refl _⟩
theorem Step.trans [DFlag] {σ σ1 σ2 : List (Option Nat)} {h h1 h2 : H} {w w1 w2 : World} (a : Step P B A0 σ h w σ1 h1 w1) (b : Step P B A0 σ1 h1 w1 σ2 h2 w2) : Step P B A0 σ h w σ2 h2 w2 where
  below := a.below.trans b.below
  shapes := a.shapes.trans b.shapes
  kept := fun x o v hx hc => let r := a.kept x o v hx hc; b.kept x o v r.1 r.2
  cells := fun i cs st hi => by
    obtain ⟨e1, cs1, st1, h1'⟩ := a.cells i cs st hi
    obtain ⟨e2, r⟩ := b.cells i cs1 st1 h1'
    exact ⟨e2.trans e1, r⟩
  toks := fun i u ty hi => by
    obtain ⟨u1, h1', l1, e1⟩ := a.toks i u ty hi
    obtain ⟨u2, h2', l2, e2⟩ := b.toks i u1 ty h1'
    exact ⟨u2, h2', Nat.le_trans l1 l2, fun e => by rw [e2 (by omega), e1 (by omega)]⟩
  loops := fun i L st hi => by
    obtain ⟨e1, st1, h1'⟩ := a.loops i L st hi
    obtain ⟨e2, r⟩ := b.loops i L st1 h1'
    exact ⟨e2.trans e1, r⟩
  maps := fun i es hi => by
    obtain ⟨e1, es1, h1'⟩ := a.maps i es hi
    obtain ⟨e2, r⟩ := b.maps i es1 h1'
    exact ⟨e2.trans e1, r⟩
  marks := fun k hk => b.marks k (a.marks k hk)
  drawn := fun d => Nat.le_trans (a.drawn d) (b.drawn d)

theorem Rel.step [DFlag] {σ σ' : List (Option Nat)} {h h' : H} {w w' : World} (s : Step P B A0 σ h w σ' h' w') {a : AV} {v : Value}
    (r : Rel P (Alw P B A0 σ h) σ h w a v) : Rel P (Alw P B A0 σ' h') σ' h' w' a v := by
  induction r with
  | data hd => exact .data (hd.mono s.kept)
  | yield hs hk => obtain ⟨L, st, hi⟩ := hk; exact .yield ((s.loops _ L st hi).1.trans hs) ⟨L, (s.loops _ L st hi).2⟩
  | mp hs hk => obtain ⟨es, hi⟩ := hk; exact .mp ((s.maps _ es hi).1.trans hs) (s.maps _ es hi).2
  | ptr hs hk => obtain ⟨cs, st, hi⟩ := hk; exact .ptr ((s.cells _ cs st hi).1.trans hs) (s.cells _ cs st hi).2
  | msl hs hk h0 hc hm hcap hw =>
    obtain ⟨cs, st, hi⟩ := hk
    obtain ⟨vs, ty, fr, e1, e2⟩ := hw
    obtain ⟨vs', fr', m1, m2⟩ := s.shapes _ vs ty fr e1
    exact .msl ((s.cells _ cs st hi).1.trans hs) (s.cells _ cs st hi).2 h0 hc hm hcap ⟨vs', ty, fr', m1, by omega⟩
  | full hd => exact .full (hd.mono s.kept)
  | tok hd ht =>
    obtain ⟨u, ty, h1, h2, h3⟩ := ht
    obtain ⟨u', g1, g2, g3⟩ := s.toks _ u ty h1
    refine .tok (hd.mono s.kept) ⟨u', ty, g1, Nat.le_trans h2 g2, fun e => ?_⟩
    have eu : u' = u := by omega
    subst eu
    rcases h3 (by omega) with ⟨k1, k2, k3⟩ | ⟨b, cap, vs, sz, k1, k2, k3, k4, k5, k6, k7⟩
    · exact .inl ⟨k1, (g3 rfl).trans k2, k3⟩
    · obtain ⟨fr, k3⟩ := k3
      obtain ⟨vs', fr', m1, m2⟩ := s.shapes b vs ty _ k3
      exact .inr ⟨b, cap, vs', sz, (g3 rfl).trans k1, k2, ⟨fr', m1⟩, k4, m2.trans k5, k6, k7⟩
  | func hl _ ih => exact .func hl ih
  | iface hn _ ih => exact .iface hn ih
  | agg h1 hl _ ih => exact .agg h1 hl ih
  | tuple hl _ ih => exact .tuple hl ih

/-- A loop's record, as it is left in a state. -/
def codeOf : Ex → Option Code
  | .normal => none
  | .exit id => some (.exit id)
  | .ret => some .ret
def recOf (L : LoopV) (fn : FuncId) (tm : Array Value) (D : Nat) : LSt → Loop
  | .ready => { state := .ready, pending := none, fn, tmps := tm, params := L.ps, assign := L.assign, body := L.body, defers := D }
  | .busy => { state := .busy, pending := none, fn, tmps := tm, params := L.ps, assign := L.assign, body := L.body, defers := D }
  | .done e => { state := .done, pending := codeOf e, fn, tmps := tm, params := L.ps, assign := L.assign, body := L.body, defers := D }
  | .over => { state := .done, pending := none, fn, tmps := tm, params := L.ps, assign := L.assign, body := L.body, defers := D }

/-- From here on a row takes no more. -/
def deadTok : Nat := 4611686018427387904
/-- The call's own memory: each object lies in a block of its own. -/
structure HRel (P : Program) (B : Nat) (A0 : Nat → Nat → Prop) (σ : List (Option Nat)) (h : H) (w : World) : Prop where
  base : B ≤ w.heap.size
  len : σ.length = h.length
  cells : ∀ (i : Nat) cs st, h[i]? = some (.cells cs st) → st ≠ .dead → ∃ b vs ty, σ[i]? = some (some b) ∧ B ≤ b ∧ w.heap[b]? = some (.cells vs ty (0, 0)) ∧
    cs.length ≤ vs.size ∧ (∀ c ∈ cs, c.one = true) ∧ ∀ (k : Nat) c v, cs[k]? = some c → vs[k]? = some v → Rel P (Alw P B A0 σ h) σ h w c v
  tok : ∀ (i : Nat) u ty, h[i]? = some (.tok u ty) → (σ[i]? = some none ∧ (u = 0 ∨ deadTok ≤ u)) ∨ ∃ b vs sz cap, σ[i]? = some (some b) ∧ B ≤ b ∧
    w.heap[b]? = some (.cells vs ty (0, 0)) ∧ sizeV P ty = some sz ∧ vs.size = cap * sz ∧ u ≤ cap ∧ cap ≤ maxLen
  loop : ∀ (i : Nat) L st, h[i]? = some (.loop L st) → st ≠ .over → ∃ l fn tm D, σ[i]? = some (some l) ∧ B ≤ l ∧ w.heap[l]? = some (.loop (recOf L fn tm D st)) ∧
    tm.size = L.n ∧ ∀ t, Rel P (Alw P B A0 σ h) σ h w (L.s.get t) (tm.getD t undef)
  map : ∀ (i : Nat) es, h[i]? = some (.map es) → ∃ b mes clock, σ[i]? = some (some b) ∧ B ≤ b ∧ w.heap[b]? = some (.map mes clock) ∧ mes.size = es.length ∧
    ∀ (k : Nat) e m, es[k]? = some e → mes[k]? = some m → toVal e.1 = some m.key ∧ notTuple e.2 = true ∧ Rel P (Alw P B A0 σ h) σ h w e.2 m.val
  uniq : ∀ (i j : Nat) b x y, h[i]? = some x → h[j]? = some y → σ[i]? = some (some b) → σ[j]? = some (some b) → x.gone = false → y.gone = false → i = j
  glob : ∀ g a, globData g = some a → IRel (fun b o => b < B ∧ A0 b o) w (.iptr a 0) (.pointer (some ⟨g, 0, none⟩))
/-- What package-level variables hold lies in memory as is said. -/
def GlobR (A : Nat → Nat → Prop) (w : World) : Prop := ∀ g a, globData g = some a → IRel A w (.iptr a 0) (.pointer (some ⟨g, 0, none⟩))
theorem HRel.gr {P : Program} {B : Nat} {A0 : Nat → Nat → Prop} {σ : List (Option Nat)} {h : H} {w : World} (hr : HRel P B A0 σ h w) : GlobR (Alw P B A0 σ h) w := fun g a hg =>
  (hr.glob g a hg).mono fun b o x ab hc => ⟨by unfold Alw; rw [if_pos ab.1]; exact ab.2, hc⟩
theorem HRel.globBelow {P : Program} {B : Nat} {A0 : Nat → Nat → Prop} {σ : List (Option Nat)} {h : H} {w w' : World} (hr : HRel P B A0 σ h w) (hb : RowKit.Below B w w') : ∀ g a, globData g = some a → IRel (fun b o => b < B ∧ A0 b o) w' (.iptr a 0) (.pointer (some ⟨g, 0, none⟩)) := fun g a hg =>
  (hr.glob g a hg).mono fun b o x ab hc => ⟨ab, by rw [World.cell?_of_block (w := w) (hb.block b ab.1)]; exact hc⟩

/-- A slot holds what the value machine's slot says. -/
def SRel (P : Program) (A : Nat → Nat → Prop) (σ : List (Option Nat)) (h : H) (w : World) (n : Nat) (s : PT) (tm : Array Value) : Prop :=
  tm.size = n ∧ ∀ t, Rel P A σ h w (s.get t) (tm.getD t undef)
end

theorem PT.get_leaf (n : Nat) : PT.get .leaf n = AV.undef := by cases n <;> rfl
theorem PT.get_setF : ∀ (f : Nat) (t : PT) (n : Nat) (v : AV) (m : Nat), n < f → (PT.setF f t n v).get m = if m = n then v else t.get m := by
  intro f
  induction f with
  | zero => intro t n v m h; omega
  | succ f ih =>
    intro t n v m h
    cases n with
    | zero => cases t <;> cases m <;> simp [PT.setF, PT.get]
    | succ n =>
      have hb : n / 2 < f := by omega
      cases t with
      | leaf =>
        cases m with
        | zero => by_cases e : n % 2 = 0 <;> simp [PT.setF, PT.get, e]
        | succ m =>
          by_cases e : n % 2 = 0 <;> by_cases e' : m % 2 = 0 <;> simp only [PT.setF, PT.get, e, e', if_true, if_false, ih _ _ _ _ hb] <;> (try split) <;> (try split) <;> first | rfl | omega
      | node l u r =>
        cases m with
        | zero => by_cases e : n % 2 = 0 <;> simp [PT.setF, PT.get, e]
        | succ m =>
          by_cases e : n % 2 = 0 <;> by_cases e' : m % 2 = 0 <;> simp only [PT.setF, PT.get, e, e', if_true, if_false, ih _ _ _ _ hb] <;> (try split) <;> (try split) <;> first | rfl | omega
theorem PT.get_set (t : PT) (n m : Nat) (v : AV) : (t.set n v).get m = if m = n then v else t.get m := PT.get_setF _ _ _ _ _ (by omega)

end Go.V
