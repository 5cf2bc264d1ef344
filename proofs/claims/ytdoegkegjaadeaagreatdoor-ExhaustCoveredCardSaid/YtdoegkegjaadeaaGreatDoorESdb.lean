/- A mixed region, walked by its value. -/
import Derived.Test.YtdoegkegjaadeaaGreatDoorESd
namespace Go.VZ
open Go Go.V Go.Proofs TL
theorem W_regionM {C : Cfg} {cf : FuncId} {R : Ex → PT → H → Prop} {k : List It} {s s' : PT} {h h' : H} (id : Nat) (ops : Array Oper) (hm : C.mix cf id = true) (hx : mixV C (Go.V.Call C) cf ops s h = some (s', h')) (hk : N C cf R k s' h') : W C cf R (.region id ops true) k s h :=
  ⟨.normal, s', h', by rw [Exe_mix id ops hm, hx], hk⟩
end Go.VZ

/- Covered of the program, as a call. -/
namespace Go.VZ
open Go Go.V Go.Proofs TL
def encY' (l : List Mo) : AV := .agg [.isl [] .full, moments l, .isl [] .full, .isl [] .full]
def encF' (s : List (T × T)) : AV := .agg [.isl [] .full, binds s, .isl [] .full]
theorem bld57 (l : List Mo) : buildV C.P 57 [(1, moments l)] = some (encY' l) := by kernel_rfl
theorem bld59 (s : List (T × T)) : buildV C.P 59 [(1, binds s)] = some (encF' s) := by kernel_rfl
theorem call22 (s : List (T × T)) (l : List Mo) (cl : List Int) (x : Ext) (hs : small s) (hm : smallM l) (hl : l.length ≤ 10000) (hc : cl.length ≤ 80000) (hok : ∀ l', subM s l = some l' → smallM l') (h : H) : callV C h (.func 22 []) (some [encY' l, encF' s, .isl (cl.map (AV.int .i64)) x]) = some (.bool (covered s l cl), h) :=
  callV_strip (by kernel_rfl) rfl (args' := [encY l, encF s, ints cl]) rfl rfl (by simp) (covered22 s l cl hs hm hl hc hok)
end Go.VZ

/- Rows of moments that are appended to. -/
namespace Go.VZ
open Go Go.V Go.Proofs TL
@[go_sem] theorem is50 : isSliceT C.P 50 = some 54 := by kernel_rfl
theorem append50 {h : H} {v : AV} {xs ys : List Mo} {x : Ext} (o : OwnR 54 h v (xs.map encM)) (hl : xs.length + ys.length ≤ 100000000000) :
    ∃ v' h', appendW C.P false h 50 v (.isl (ys.map encM) x) = some (v', h') ∧ OwnR 54 h' v' ((xs ++ ys).map encM) ∧ Keep h h' (idOf v) ∧ (idOf v' = idOf v ∨ idOf v = none ∧ idOf v' = some h.length) := by
  have := append_own (x := x) u50 s54 b54 z54 rfl o (szOk_encM xs) (szOk_encM ys) (by simp only [List.length_map]; omega)
  rwa [← List.map_append] at this
/-- A moment whose row of terms is one's own. -/
theorem build50_1 (h : H) (m : Mo) (ts : List T) (x : Ext) : buildSliceV C.P h 50 1 [(0, .agg [.int .i64 m.kind, .int .i64 m.number, .int .i64 m.role, .isl m.ag .unk, .int .i64 m.goal, .isl (ts.map enc) x])] = some (.isl [encM (m.put ts)] .full, h) := buildSlice_dats u50 s54 z54 rfl (by omega) rfl rfl rfl (by simp) rfl
end Go.VZ

/- Mixed regions, walked operation by operation. -/
namespace Go.V
open Go
/-- A mixed region from operation i on. -/
def MX (C : Cfg) (cf : FuncId) (ops : Array Oper) (base : Nat) (K : PT → H → List FP → Prop) : Nat → List Oper → PT → H → List FP → Prop
  | _, [], s, h, F => K s h F
  | i, o :: l, s, h, F => ∃ v h2 f, mixStep C (Call C) cf ops base i o s h = some (v, h2, f) ∧ MX C cf ops base K (i + 1) l (putV s o.dst v) h2 (F ++ [f])
theorem MX_to {C : Cfg} {cf : FuncId} {ops : Array Oper} {base : Nat} {K : PT → H → List FP → Prop} {s0 : PT} {h0 : H} : ∀ (l : List Oper) (i : Nat) (s : PT) (h : H) (F : List FP), i + l.length = ops.size → ops.toList.drop i = l →
    mixTo C (Call C) cf ops base i s0 h0 = some (s, h, F) → MX C cf ops base K i l s h F → ∃ s' h' F', mixTo C (Call C) cf ops base ops.size s0 h0 = some (s', h', F') ∧ K s' h' F'
  | [], i, s, h, F, hi, _, hs, hm => ⟨s, h, F, by rw [← hi]; exact hs, hm⟩
  | o :: l, i, s, h, F, hi, hd, hs, ⟨v, h2, f, e, hm⟩ => by
    have hlt : i < ops.size := by simp only [List.length_cons] at hi; omega
    have ho : ops[i]? = some o := by
      have := congrArg (fun l => l[0]?) hd
      simpa using this
    refine MX_to l (i + 1) _ _ _ (by simp only [List.length_cons] at hi; omega) (by rw [← List.tail_drop, hd]; rfl) ?_ hm
    simp only [mixTo, hs, ho, e]
def lids : AV → List Nat
  | .ptr id _ => [id]
  | _ => []
section
variable {C : Cfg} {cf : FuncId} {ops : Array Oper} {base : Nat} {K : PT → H → List FP → Prop} {i : Nat} {l : List Oper} {s : PT} {h : H} {F : List FP}
theorem foot_pure {o : Oper} (ha : active o = false) (hl : isLoad o = false) : foot C s h o = some ([], false) := by
  unfold foot
  rw [if_neg (by rw [ha]; simp)]
  unfold isLoad at hl
  split
  · rename_i e; rw [e] at hl; cases hl
  · rfl
theorem MX_pure0 {o : Oper} (v : AV) (hg : o.guard = none) (ha : active o = false) (hl : isLoad o = false) (hp : isVoid h[base + i]? = true) (hv : opN C.P s o = some v) (hm : v.mv h.length (base + i) = v)
    (hk : MX C cf ops base K (i + 1) l (putV s o.dst v) h (F ++ [([], [])])) : MX C cf ops base K i (o :: l) s h F := by
  refine ⟨v, h, ([], []), ?_, hk⟩
  unfold mixStep
  rw [if_pos (by simp [Region.wanted, hg]), foot_pure ha hl, opV_pure ha hl, hv]
  dsimp only
  rw [if_pos ⟨by omega, rfl, hp⟩, hm]
  rfl
theorem MX_pure {d : Tmp} {op : Op} {ty : TypeId} {p : String} {af : Array Edge} (v : AV) (ha : active ⟨some d, op, ty, p, af, none⟩ = false) (hl : isLoad ⟨some d, op, ty, p, af, none⟩ = false) (hp : isVoid h[base + i]? = true) (hv : opN C.P s ⟨some d, op, ty, p, af, none⟩ = some v) (hm : v.mv h.length (base + i) = v)
    (hk : MX C cf ops base K (i + 1) l (s.set d v) h (F ++ [([], [])])) : MX C cf ops base K i (⟨some d, op, ty, p, af, none⟩ :: l) s h F := MX_pure0 v rfl ha hl hp hv hm hk
theorem MX_load {d : Tmp} {t ty : TypeId} {x : Operand} {p : String} {af : Array Edge} (a v : AV) (hx : ev s x = some a) (hv : loadV C.P h t a = some v) (hn : (lids a).contains (base + i) = false) (hp : isVoid h[base + i]? = true) (hm : v.mv h.length (base + i) = v)
    (hk : MX C cf ops base K (i + 1) l (s.set d v) h (F ++ [(lids a, [])])) : MX C cf ops base K i (⟨some d, .load t x, ty, p, af, none⟩ :: l) s h F := by
  refine ⟨v, h, (lids a, []), ?_, hk⟩
  have hf : foot C s h ⟨some d, .load t x, ty, p, af, none⟩ = some (lids a, false) := by
    simp only [foot, active, Bool.false_eq_true, if_false, hx]
    cases a <;> rfl
  unfold mixStep
  rw [if_pos (by simp [Region.wanted]), hf, opV_load rfl]
  simp only [hx, hv]
  rw [if_pos ⟨by omega, hn, hp⟩, hm]
  rfl
theorem fin_none (p : Nat) (h : H) : fin p [] h h = h := by
  apply List.ext_getElem?
  intro j
  rw [fin_get]
  simp
theorem fin_push {p : Nat} {h : H} {y : VObj} (hp : p < h.length) : fin p [] h (h ++ [y]) = h.set p (y.mv h.length p) := by
  apply List.ext_getElem?
  intro j
  rw [fin_get, List.getElem?_set]
  by_cases e : p = j
  · subst e; simp [hp]
  · simp [e, show ¬ j = p from fun h => e h.symm]
theorem fin_store {p id : Nat} {h : H} {z : VObj} (hp : id ≠ p) : fin p [id] h (h.set id z) = h.set id (z.mv h.length p) := by
  apply List.ext_getElem?
  intro j
  rw [fin_get]
  by_cases e : id = j
  · subst e
    by_cases hl : id < h.length
    · simp [hl, hp]
    · simp [hl]
  · by_cases e2 : j = p
    · subst e2
      have e3 : (h.set id z)[h.length]? = none := by simp
      rw [e3, List.getElem?_set_ne e (a := z.mv h.length j)]
      simp
    · simp [e, e2, show ¬ j = id from fun h => e h.symm]
theorem isVoid_lt {h : H} {p : Nat} (hp : isVoid h[p]? = true) : p < h.length := by
  cases e : h[p]? with
  | none => rw [e] at hp; cases hp
  | some x => exact (List.getElem?_eq_some_iff.1 e).1
theorem MX_call {d : Tmp} {ty : TypeId} {p : String} {af : Array Edge} {f : FuncId} {args : List Operand} {at_ : Array TypeId} (al : List AV) (v : AV) (hb : hasBody C.P f = true) (hmd : C.mode f = .strip) (hx : evs s args = some al) (hr : reachs h deep al = [])
    (hc : callV C h (.func f []) (some al) = some (v, h)) (hp : isVoid h[base + i]? = true) (hm : v.mv h.length (base + i) = v)
    (hk : MX C cf ops base K (i + 1) l (s.set d v) h (F ++ [([base + i], [base + i])])) : MX C cf ops base K i (⟨some d, .call { callee := .value (.func f), args := args.toArray, argTypes := at_ }, ty, p, af, none⟩ :: l) s h F := by
  refine ⟨v, h, ([base + i], [base + i]), ?_, hk⟩
  have hf : foot C s h ⟨some d, .call { callee := .value (.func f), args := args.toArray, argTypes := at_ }, ty, p, af, none⟩ = some ([], true) := by
    simp only [foot, active, if_true, hx, ev, hb, hmd, List.append_nil, hr]
  have ho : opV C (Call C) cf s h ⟨some d, .call { callee := .value (.func f), args := args.toArray, argTypes := at_ }, ty, p, af, none⟩ = some (v, h) := by
    rw [opV_active rfl, ← hc]
    simp only [opA, hx, ev, callV]
  unfold mixStep
  rw [if_pos (by simp [Region.wanted]), hf, ho]
  dsimp only
  rw [if_pos ⟨by omega, rfl, hp⟩, hm, if_pos rfl, if_pos rfl, fin_none]
theorem MX_push0 {o : Oper} (v : AV) (y : VObj) (hg : o.guard = none) (hf : foot C s h o = some ([], true)) (ho : opV C (Call C) cf s h o = some (v, h ++ [y])) (hp : isVoid h[base + i]? = true)
    (hk : MX C cf ops base K (i + 1) l (putV s o.dst (v.mv h.length (base + i))) (h.set (base + i) (y.mv h.length (base + i))) (F ++ [([base + i], [base + i])])) : MX C cf ops base K i (o :: l) s h F := by
  refine ⟨v.mv h.length (base + i), h.set (base + i) (y.mv h.length (base + i)), ([base + i], [base + i]), ?_, hk⟩
  unfold mixStep
  rw [if_pos (by simp [Region.wanted, hg]), hf, ho]
  dsimp only
  rw [if_pos ⟨by simp, rfl, hp⟩, if_pos rfl, if_pos rfl, fin_push (isVoid_lt hp)]
theorem MX_alloc {d : Tmp} {t ty : TypeId} {p : String} {af : Array Edge} (z : AV) (hz : zeroV C.P t = some z) (hp : isVoid h[base + i]? = true)
    (hk : MX C cf ops base K (i + 1) l (s.set d (.ptr (base + i) 0)) (h.set (base + i) ((VObj.cells z.cells .live).mv h.length (base + i))) (F ++ [([base + i], [base + i])])) : MX C cf ops base K i (⟨some d, .alloc t, ty, p, af, none⟩ :: l) s h F := by
  refine MX_push0 (.ptr h.length 0) (.cells z.cells .live) rfl rfl ?_ hp ?_
  · rw [opV_active rfl]; simp only [opA, hz]
  · have : (AV.ptr h.length 0).mv h.length (base + i) = .ptr (base + i) 0 := by simp [AV.mv]
    rw [this]; exact hk
theorem MX_store {t ty : TypeId} {a x : Operand} {p : String} {af : Array Edge} (id off : Nat) (v : AV) (z : VObj) (hx : ev s a = some (.ptr id off)) (hv : ev s x = some v) (hs : storeV C.P h t (.ptr id off) v = some (h.set id z)) (hn : id ≠ base + i) (hp : isVoid h[base + i]? = true)
    (hk : MX C cf ops base K (i + 1) l (s) (h.set id (z.mv h.length (base + i))) (F ++ [([base + i, id], [base + i, id])])) : MX C cf ops base K i (⟨none, .store t a x, ty, p, af, none⟩ :: l) s h F := by
  refine ⟨AV.undef, h.set id (z.mv h.length (base + i)), ([base + i, id], [base + i, id]), ?_, hk⟩
  have hf : foot C s h ⟨none, .store t a x, ty, p, af, none⟩ = some ([id], true) := by simp only [foot, active, if_true, hx]
  have ho : opV C (Call C) cf s h ⟨none, .store t a x, ty, p, af, none⟩ = some (AV.undef, h.set id z) := by
    rw [opV_active rfl]
    simp only [opA, hx, hv, hs]
  unfold mixStep
  rw [if_pos (by simp [Region.wanted]), hf, ho]
  dsimp only
  rw [if_pos ⟨by simp, by simpa using fun e => hn e.symm, hp⟩, if_pos rfl, if_pos rfl, fin_store hn]
  rfl
end
end Go.V
namespace Go.VZ
open Go Go.V Go.Proofs TL
theorem W_mixed {C : Cfg} {cf : FuncId} {R : Ex → PT → H → Prop} {k : List It} {s : PT} {h : H} (id : Nat) (ops : Array Oper) (hm : C.mix cf id = true) (ht : tmpOk ops = true)
    (hx : MX C cf ops h.length (fun s' h' F => fpOk ops F = true ∧ N C cf R k s' h') 0 ops.toList s (h ++ List.replicate ops.size .void) []) : W C cf R (.region id ops true) k s h := by
  obtain ⟨s', h', F, e, hf, hk⟩ := MX_to ops.toList 0 s _ [] (by simp) rfl rfl hx
  exact W_regionM id ops hm (by simp only [mixV, ht, if_true, e, hf]) hk
end Go.VZ

/- The mixed region of the document's Covered: one term with the bindings put. -/
namespace Go.VZ
open Go Go.V Go.Proofs TL
theorem mv_enc (i k : Nat) (t : T) : (enc t).mv i k = enc t := by
  cases t; simp only [enc, AV.mv, AV.mvs]
theorem mv_zero (i k : Nat) : VObj.mv i k (.cells [.int .i64 0, .str ⟨#[]⟩, .int .i64 0, .isl [] .full] .live) = .cells [.int .i64 0, .str ⟨#[]⟩, .int .i64 0, .isl [] .full] .live := rfl
theorem mv_cellsT (i k : Nat) (t : T) : VObj.mv i k (.cells (enc t).cells .live) = .cells (enc t).cells .live := by rw [enc_cells]; rfl
/-- The memory of a mixed region: old objects, and places. -/
structure Pl (h H0 : H) (n : Nat) : Prop where
  len : H0.length = h.length + n
  old : ∀ j, j < h.length → H0[j]? = h[j]?
  void : ∀ i, i < n → H0[h.length + i]? = some .void
theorem Pl.mk' (h : H) (n : Nat) : Pl h (h ++ List.replicate n .void) n := ⟨by simp, fun j hj => List.getElem?_append_left hj, fun i hi => by rw [List.getElem?_append_right (by omega)]; simp [hi]⟩
theorem Pl.isV {h H0 : H} {n : Nat} (p : Pl h H0 n) {i : Nat} (hi : i < n) : isVoid H0[h.length + i]? = true := by rw [p.void i hi]; rfl
theorem Pl.get {h H0 : H} {n : Nat} (p : Pl h H0 n) {j : Nat} {o : VObj} (hj : h[j]? = some o) : H0[j]? = some o := by rw [p.old j (List.getElem?_eq_some_iff.1 hj).1]; exact hj
theorem ptr_mv {i j o n k : Nat} (h : i < j) (hn : j ≤ n) : (AV.ptr i o).mv n k = .ptr i o := by simp [AV.mv]; omega
theorem isV_set {H0 : H} {a b : Nat} {y : VObj} (hb : isVoid H0[b]? = true) (h : a ≠ b) : isVoid (H0.set a y)[b]? = true := by rw [List.getElem?_set_ne h]; exact hb
theorem ldn25 {h : H} {i : Nat} (t : T) (hi : h[i]? = some (.cells (enc t).cells .live)) : loadV C.P h 25 (.ptr i 0) = some (enc t) := by
  rw [enc_cells] at hi
  simp [loadV, hi, cellsAt, a25, s25]; rw [enc_eq]
theorem lids_no {i o k : Nat} (h : i ≠ k) : (lids (.ptr i o)).contains k = false := by simpa [lids] using fun e => h e.symm
end Go.VZ

/- Covered, the document's way: walked. -/
namespace Go.VZ
open Go Go.V Go.Proofs TL
theorem ld23n {h : H} {i : Nat} (m : Mo) (hi : h[i]? = some (.cells (encM m).cells .live)) : loadV C.P h 23 (.ptr i 5) = some (terms m.terms) := by
  simp [loadV, hi, cellsAt, a23, s23, encM, cells_agg, terms, notTuple]
def cellsP (m : Mo) (es : List AV) (x : Ext) : List AV := [.int .i64 m.kind, .int .i64 m.number, .int .i64 m.role, .isl m.ag .unk, .int .i64 m.goal, .isl es x]
theorem st23n {h : H} {i : Nat} (m : Mo) (es : List AV) (x : Ext) (hi : h[i]? = some (.cells (encM m).cells .live)) : storeV C.P h 23 (.ptr i 5) (.isl es x) = some (h.set i (.cells (cellsP m es x) .live)) := by
  simp [storeV, hi, s23, encM, cells_agg, cellsP]
theorem ld54n {h : H} {i : Nat} (m : Mo) (es : List AV) (x : Ext) (hi : h[i]? = some (.cells (cellsP m es x) .live)) : loadV C.P h 54 (.ptr i 0) = some (.agg (cellsP m es x)) := by
  simp [loadV, hi, cellsAt, a54, s54, cellsP]
theorem call47' (l : List Mo) (x : Ext) (cl : List Int) (hs : smallM l) (hl : l.length < 1000000) (hc : cl.length < 1000000) (h : H) : callV C h (.func 47 []) (some [.isl (l.map encM) x, ints cl]) = some (.bool (possible l cl).1, h) := by
  have e : CallP C 47 [moments l, ints cl] = some (.bool (possible l cl).1) := by
    cases l with
    | nil => exact possible47z cl hc
    | cons a l => exact possible47 (a :: l) cl hs hl hc (by simp)
  exact callV_strip (by kernel_rfl) rfl (args' := [moments l, ints cl]) rfl rfl (by simp) e
def C57 (l : List Mo) : VObj := .cells [.isl [] .unk, moments l, .isl [] .unk, .isl [] .unk] .live
def C59 (s : List (T × T)) : VObj := .cells [.isl [] .unk, binds s, .isl [] .unk] .live
def NO24 (s : List (T × T)) (l : List Mo) (cl : List Int) (n : Nat) (st : PT) (h : H) : Prop := ∃ (k : Nat) (done : List Mo), n = l.length - k ∧ k ≤ l.length ∧ done.length = k ∧ h[0]? = some (C57 l) ∧ h[1]? = some (C59 s) ∧
  st.get 2 = ints cl ∧ st.get 3 = .ptr 0 0 ∧ st.get 4 = .ptr 1 0 ∧ st.get 8 = .int .i64 k ∧ OwnR 54 h (st.get 7) (done.map encM) ∧ subM s l = (subM s (l.drop k)).map (done ++ ·)
def NI24 (s : List (T × T)) (l : List Mo) (cl : List Int) (k : Nat) (done : List Mo) (m : Mo) (i9 : Nat) (n : Nat) (st : PT) (h : H) : Prop := ∃ (j : Nat) (td : List T), n = m.terms.length - j ∧ j ≤ m.terms.length ∧ td.length = j ∧ h[0]? = some (C57 l) ∧ h[1]? = some (C59 s) ∧ h[i9]? = some (.cells (encM m).cells .live) ∧
  st.get 2 = ints cl ∧ st.get 3 = .ptr 0 0 ∧ st.get 4 = .ptr 1 0 ∧ st.get 8 = .int .i64 k ∧ st.get 9 = .ptr i9 0 ∧ st.get 11 = .int .i64 j ∧ OwnR 54 h (st.get 7) (done.map encM) ∧ OwnR 25 h (st.get 10) (td.map enc) ∧
  applyAll s m.terms = (if (applyAll s (m.terms.drop j)).2 ≠ 0 then ([], (applyAll s (m.terms.drop j)).2) else (td ++ (applyAll s (m.terms.drop j)).1, 0))
theorem own_ne {h : H} {v w : AV} {xs ys : List AV} (o : OwnR 54 h v xs) (p : OwnR 25 h w ys) : ∀ i, idOf v = some i → idOf w ≠ some i := by
  intro i hi hj
  rcases o with rfl | ⟨a, rfl, ha⟩
  · cases hi
  · rcases p with rfl | ⟨b, rfl, hb⟩
    · cases hj
    · simp only [idOf, Option.some.injEq] at hi hj
      subst hi; subst hj; rw [ha] at hb
      simp at hb
theorem ga {h g : H} {j : Nat} {o : VObj} (e : h[j]? = some o) : (h ++ g)[j]? = some o := by rw [List.getElem?_append_left (List.getElem?_eq_some_iff.1 e).1]; exact e
theorem own_not {e : TypeId} {h : H} {v : AV} {xs : List AV} (o : OwnR e h v xs) {i : Nat} {cs : List AV} {st : OSt} (hi : h[i]? = some (.cells cs st)) : idOf v ≠ some i := by
  intro hj
  rcases o with rfl | ⟨a, rfl, ha⟩
  · cases hj
  · simp only [idOf, Option.some.injEq] at hj
    subst hj; rw [ha] at hi; cases hi
set_option maxRecDepth 8000 in
set_option maxHeartbeats 4000000 in
theorem covered24 (s : List (T × T)) (l : List Mo) (cl : List Int) (hs : small s) (hsl : s.length < 1000000) (hm : smallM l) (hl : l.length ≤ 10000) (hc : cl.length ≤ 80000) (hok : ∀ l', subM s l = some l' → smallM l') : CallP C 24 [encY l, encF s, ints cl] = some (.bool (covered s l cl)) := by
  refine CallP_W rfl Tryz.func24 rfl (by kernel_rfl) (by simp [Tryz.f24]) fun R hR => ?_
  have fin : ∀ (st : PT) (h : H) (b : Bool), st.get 6 = .bool b → b = covered s l cl → R .ret st h := fun st h b h6 hb => hR _ _ _ (.inr rfl) ⟨.bool b, by simp [resultV, resV, Tryz.f24, h6], by rw [hb]; exact snap_dat rfl rfl⟩
  have hln : lenV C.P 50 (moments l) = some (.int .i64 l.length) := by simp [moments, len50]
  simp [go_sem, initS, box57, box59]
  refine W_loop (NO24 s l cl) l.length ⟨0, [], rfl, Nat.zero_le _, rfl, rfl, rfl, by simp [go_sem], by simp [go_sem], by simp [go_sem], by simp [go_sem], .inr ⟨2, by simp [go_sem]⟩, by simp⟩ ?_
  rintro n st h ⟨k, done, rfl, hk, hdl, n0, n1, g2, g3, g4, g8, go, hd⟩
  have q0 : loadV C.P h 50 (.ptr 0 1) = some (moments l) := ld50c n0
  by_cases hlt : k < l.length
  · have hlt' : (k : Int) < l.length := by omega
    have hix : indexAddrV C.P 50 (moments l) (.int .i64 k) = some (.iptr (encM l[k]) 0) := idx50 l k hlt .unk
    have e4 := zv54b l[k] h
    have hl2 : 2 ≤ h.length := by have := (List.getElem?_eq_some_iff.1 n1).1; omega
    obtain ⟨h2, eh2⟩ : ∃ g, g = h ++ [.cells (encM l[k]).cells .live] := ⟨_, rfl⟩
    rw [← eh2] at e4
    have w2 : IntKind.i64.wrap ((k : Int) + 1) = ((k + 1 : Nat) : Int) := by rw [wrap_in (by omega)]; omega
    simp [go_sem, g2, g3, g4, g8, q0, hln, hlt', hix, ld54, e4]
    have go2 : OwnR 54 (h2 ++ [.tok 0 25]) (st.get 7) (done.map encM) := by
      rw [eh2, List.append_assoc]; exact go.keep (Keep.append _ _ none) (by simp)
    refine W_loop (NI24 s l cl k done l[k] h.length) l[k].terms.length ⟨0, [], rfl, Nat.zero_le _, rfl, ga (by rw [eh2]; exact ga n0), ga (by rw [eh2]; exact ga n1), ga (by rw [eh2]; simp), by simp [go_sem, g2], by simp [go_sem, g3], by simp [go_sem, g4], by simp [go_sem, g8], by simp [go_sem], by simp [go_sem], by simpa [go_sem] using go2, .inr ⟨h2.length, by simp [go_sem]⟩, ?_⟩ ?_
    · by_cases hz : (applyAll s l[k].terms).2 = 0
      · simp [hz]; exact applyAll_ok s _ hz
      · simp [hz]; exact applyAll_err s _ hz
    clear g2 g3 g4 g8 go go2 n0 n1 q0
    generalize ei9 : h.length = i9
    clear eh2 e4 h2
    rintro n st h ⟨j, td, rfl, hj, htl, n0, n1, n9, g2, g3, g4, g8, g9, g11, go7, go10, hd2⟩
    have q1 := ld23n l[k] n9
    have hmk := hm _ (List.getElem_mem hlt)
    have hmk1 := hmk.1
    have hln3 : lenV C.P 23 (terms l[k].terms) = some (.int .i64 l[k].terms.length) := by simp [terms, len23]
    have fa := fa54_5 i9
    obtain ⟨v7, ev7⟩ : ∃ v, v = st.get 7 := ⟨_, rfl⟩
    obtain ⟨v10, ev10⟩ : ∃ v, v = st.get 10 := ⟨_, rfl⟩
    rw [← ev7] at go7
    rw [← ev10] at go10
    by_cases hjt : j < l[k].terms.length
    · have hjt' : (j : Int) < l[k].terms.length := by omega
      have hix2 : indexAddrV C.P 23 (terms l[k].terms) (.int .i64 j) = some (.iptr (enc l[k].terms[j]) 0) := idx23 l[k].terms j hjt .unk
      have hi9 : i9 < h.length := (List.getElem?_eq_some_iff.1 n9).1
      have hl2' : 1 < h.length := (List.getElem?_eq_some_iff.1 n1).1
      have ck := call46 s l[k].terms[j] hs (hmk.2 _ (List.getElem_mem hjt)) hsl
      simp only [resV2] at ck
      simp [go_sem, g2, g3, g4, g8, g9, g11, q1, fa, hln3, hjt']
      refine W_mixed 10 _ (by rw [mixC]; decide) (by kernel_rfl) ?_
      generalize hH0 : h ++ List.replicate _ VObj.void = H0
      have pl : Pl h H0 14 := hH0 ▸ Pl.mk' h 14
      have hlen := pl.len
      clear hH0
      have p1 := pl.get n1
      have p9 := pl.get n9
      have q1' := ld23n l[k] p9
      have q59 : loadV C.P H0 46 (.ptr 1 1) = some (binds s) := ld46c p1
      refine MX_pure (.ptr 1 1) rfl rfl (pl.isV (i := 0) (by decide)) (by simp [opN, go_sem, g4]) (ptr_mv hl2' (by omega)) ?_
      obtain ⟨r, er⟩ : ∃ r, r = applyR s l[k].terms[j] := ⟨_, rfl⟩
      simp only [← er] at ck
      have mvr : ∀ i k, (AV.tuple [enc r.1, .int .i64 r.2]).mv i k = .tuple [enc r.1, .int .i64 r.2] := fun i k => by simp only [AV.mv, AV.mvs, mv_enc]
      have hrs : reachs H0 deep [binds s, enc l[k].terms[j]] = [] := (dats_snap (h := H0) (dat_binds2 s l[k].terms[j]) (by simp [short_binds, short_enc]) deep (by simp [deep])).2
      have ld := ld25 l[k].terms[j] H0
      refine MX_load (.ptr 1 1) (binds s) (by simp [go_sem]) q59 (lids_no (by omega)) (pl.isV (i := 1) (by decide)) rfl ?_
      refine MX_pure (.ptr i9 5) rfl rfl (pl.isV (i := 2) (by decide)) (by simp [opN, go_sem, g9, fa]) (ptr_mv hi9 (by omega)) ?_
      refine MX_load (.ptr i9 5) (terms l[k].terms) (by simp [go_sem]) q1' (lids_no (by omega)) (pl.isV (i := 3) (by decide)) rfl ?_
      refine MX_pure (.int .i64 j) rfl rfl (pl.isV (i := 4) (by decide)) (by simp [opN, go_sem, g11]) rfl ?_
      refine MX_pure (.iptr (enc l[k].terms[j]) 0) rfl rfl (pl.isV (i := 5) (by decide)) (by simp [opN, go_sem, hix2]) rfl ?_
      refine MX_load (.iptr (enc l[k].terms[j]) 0) (enc l[k].terms[j]) (by simp [go_sem]) ld (by simp [lids]) (pl.isV (i := 6) (by decide)) (mv_enc _ _ _) ?_
      refine MX_call (args := [.tmp 35, .tmp 40]) [binds s, enc l[k].terms[j]] (.tuple [enc r.1, .int .i64 r.2]) (by kernel_rfl) rfl (by simp [go_sem]) hrs (ck _) (pl.isV (i := 7) (by decide)) (mvr _ _) ?_
      refine MX_pure (.tuple [enc r.1, .int .i64 r.2]) rfl rfl (pl.isV (i := 8) (by decide)) (by simp [opN, go_sem]) (mvr _ _) ?_
      refine MX_pure (enc r.1) rfl rfl (pl.isV (i := 9) (by decide)) (by simp [opN, go_sem]) (mv_enc _ _ _) ?_
      refine MX_pure (.int .i64 r.2) rfl rfl (pl.isV (i := 10) (by decide)) (by simp [opN, go_sem]) rfl ?_
      refine MX_alloc _ zv25 (pl.isV (i := 11) (by decide)) ?_
      simp only [cells_agg, mv_zero]
      have hlt3 : h.length + 11 < H0.length := by omega
      obtain ⟨H1, eH1⟩ : ∃ g, g = H0.set (h.length + 11) (.cells zc .live) := ⟨_, rfl⟩
      have hH1 : H1[h.length + 11]? = some (.cells zc .live) := by rw [eH1]; exact List.getElem?_set_self hlt3
      have hs3 : storeV C.P H1 25 (.ptr (h.length + 11) 0) (enc r.1) = some (H1.set (h.length + 11) (.cells (enc r.1).cells .live)) := by
        rw [enc_eq]; simp [storeV, hH1, s25, zc, cells_agg]
      have hv12 : isVoid H1[h.length + 12]? = true := by rw [eH1]; exact isV_set (pl.isV (i := 12) (by decide)) (by omega)
      have hv13 : isVoid H1[h.length + 13]? = true := by rw [eH1]; exact isV_set (pl.isV (i := 13) (by decide)) (by omega)
      rw [← zc, ← eH1]
      refine MX_store (h.length + 11) 0 (enc r.1) _ (by simp [go_sem]) (by simp [go_sem]) hs3 (by omega) hv12 ?_
      rw [mv_cellsT]
      refine MX_pure (.int .i64 r.2) rfl rfl (isV_set hv13 (by omega)) (by simp [opN, go_sem]) rfl ?_
      refine ⟨?_, ?_⟩
      · unfold fpOk
        generalize hb : Region.before _ = b
        have hb2 : (b.getD 12 0).testBit 11 = true := by rw [← hb]; kernel_rfl
        clear hb
        have o1 : 1 ≠ h.length + 7 := by omega
        have o2 : 1 ≠ h.length + 11 := by omega
        have o3 : 1 ≠ h.length + 12 := by omega
        have o4 : i9 ≠ h.length + 7 := by omega
        have o5 : i9 ≠ h.length + 11 := by omega
        have o6 : i9 ≠ h.length + 12 := by omega
        simp [lids, meet, List.range, List.range.loop, o1, o2, o3, o4, o5, o6]
        exact ⟨.inl (by omega), .inl (by omega), .inl ⟨by omega, by omega⟩, by simpa [Array.getD_eq_getD_getElem?] using hb2⟩
      obtain ⟨H2, eH2⟩ : ∃ g, g = H1.set (h.length + 11) (.cells (enc r.1).cells .live) := ⟨_, rfl⟩
      rw [← eH2]
      have hkp : Keep h H2 none := ⟨by rw [eH2, eH1]; simp; omega, fun j hj _ => by rw [eH2, List.getElem?_set_ne (by omega), eH1, List.getElem?_set_ne (by omega), pl.old j hj]⟩
      have hlH1 : h.length + 11 < H1.length := by rw [eH1]; simpa using hlt3
      have e7 : loadV C.P H2 25 (.ptr (h.length + 11) 0) = some (enc r.1) := ldn25 r.1 (by rw [eH2]; exact List.getElem?_set_self hlH1)
      clear eH2 hs3 hv12 hv13 hH1 eH1 q1' q59 hrs ld
      have go10' := go10.keep hkp (by simp)
      have go7' := go7.keep hkp (by simp)
      have n0' := hkp.get n0 (by simp)
      have n1' := hkp.get n1 (by simp)
      have n9' := hkp.get n9 (by simp)
      obtain ⟨v', h4, ha, ho, hkq, hid⟩ := append23 (ys := [r.1]) (x := .full) go10' (by simp only [htl, List.length_cons, List.length_nil]; omega)
      simp only [List.map_cons, List.map_nil] at ha
      have w3 : IntKind.i64.wrap ((j : Int) + 1) = ((j + 1 : Nat) : Int) := by rw [wrap_in (by omega)]; omega
      rw [List.drop_eq_getElem_cons hjt, applyAll, ← er] at hd2
      by_cases hz : r.2 = 0
      · simp [go_sem, g2, g3, g4, g8, g9, g11, ← ev10, e7, hz, build23_1, ha, -Int.natCast_add, w3]
        have kq1 : idOf v10 ≠ some 0 := own_not go10' n0'
        have kq2 : idOf v10 ≠ some 1 := own_not go10' n1'
        have kq3 : idOf v10 ≠ some i9 := own_not go10' n9'
        refine ⟨l[k].terms.length - (j + 1), by omega, j + 1, td ++ [r.1], rfl, hjt, by simp [htl], hkq.get n0' kq1, hkq.get n1' kq2, hkq.get n9' kq3, by simp [go_sem, g2], by simp [go_sem, g3], by simp [go_sem, g4], by simp [go_sem, g8], by simp [go_sem, g9], by simp [go_sem], ?_, by simpa [go_sem] using ho, ?_⟩
        · have e : ∀ i, idOf v7 = some i → idOf v10 ≠ some i := own_ne go7' go10'
          have := go7'.keep hkq e
          simpa [go_sem, ← ev7] using this
        · rw [hd2]
          by_cases hq : (applyAll s (l[k].terms.drop (j + 1))).2 = 0
          · simp [hz, hq]
          · simp [hz, hq]
      · simp [go_sem, g2, g3, g4, g8, g9, g11, ← ev10, e7, hz]
        refine fin _ _ false (by simp [go_sem]) ?_
        simp only [ne_eq, hz, not_false_eq_true, if_true] at hd2
        rw [List.drop_eq_getElem_cons hlt, subM, if_pos (by rw [hd2]; exact hz)] at hd
        simp [covered, hd]
    · have : j = l[k].terms.length := by omega
      subst this
      rw [List.drop_length, applyAll] at hd2
      simp only [ne_eq, not_true_eq_false, if_false, List.append_nil] at hd2
      obtain ⟨x10, hx10⟩ := go10.isl
      obtain ⟨x7, hx7⟩ := go7.isl
      have e1 := st23n l[k] (td.map enc) x10 n9
      obtain ⟨h2, eh2⟩ : ∃ g, g = h.set i9 (.cells (cellsP l[k] (td.map enc) x10) .live) := ⟨_, rfl⟩
      rw [← eh2] at e1
      have e2 : loadV C.P h2 54 (.ptr i9 0) = some (.agg (cellsP l[k] (td.map enc) x10)) := ld54n l[k] _ _ (by rw [eh2]; exact List.getElem?_set_self (List.getElem?_eq_some_iff.1 n9).1)
      have e3 := build50_1 h2 l[k] td x10
      have hks : Keep h h2 (some i9) := by rw [eh2]; exact .set _ _ _
      have go7' : OwnR 54 h2 v7 (done.map encM) := go7.keep hks (fun i hi e => own_not go7 n9 (by simp only [Option.some.injEq] at e; rw [hi, e]))
      obtain ⟨v', h4, ha, ho, hkq, hid⟩ := append50 (ys := [l[k].put td]) (x := .full) go7' (by simp only [hdl, List.length_cons, List.length_nil]; omega)
      simp only [List.map_cons, List.map_nil] at ha
      have i9n : i9 ≠ 0 ∧ i9 ≠ 1 := by
        constructor <;> intro e <;> subst e
        · rw [n0] at n9; simp [C57, encM, cells_agg] at n9
        · rw [n1] at n9; simp [C59, encM, cells_agg] at n9
      have n0' := hks.get n0 (by simp; omega)
      have n1' := hks.get n1 (by simp; omega)
      have e3' : buildSliceV C.P h2 50 1 [(0, .agg (cellsP l[k] (td.map enc) x10))] = some (.isl [encM (l[k].put td)] .full, h2) := e3
      simp [go_sem, g2, g3, g4, g8, g9, g11, q1, fa, hln3, ← ev10, ← ev7, hx10, e1, e2, e3', ha, -Int.natCast_add, w2, show ∀ l, notTuple (AV.agg l) = true from fun _ => rfl]
      have kq1 : idOf v7 ≠ some 0 := own_not go7' n0'
      have kq2 : idOf v7 ≠ some 1 := own_not go7' n1'
      rw [List.drop_eq_getElem_cons hlt, subM, hd2] at hd
      simp only [ne_eq, not_true_eq_false, if_false] at hd
      refine ⟨l.length - (k + 1), by omega, k + 1, done ++ [l[k].put td], rfl, hlt, by simp [hdl], hkq.get n0' kq1, hkq.get n1' kq2, by simp [go_sem, g2], by simp [go_sem, g3], by simp [go_sem, g4], by simp [go_sem], by simpa [go_sem] using ho, ?_⟩
      rw [hd]
      cases subM s (l.drop (k + 1)) <;> simp
  · have : k = l.length := by omega
    subst this
    rw [List.drop_length, subM] at hd
    simp only [Option.map_some, List.append_nil] at hd
    obtain ⟨x, hx⟩ := go.isl
    have c47 := call47' done x cl (hok _ hd) (by omega) (by omega) h
    simp [go_sem, g2, g3, g4, g8, q0, hln, hx, c47]
    exact fin _ _ (possible done cl).1 (by simp [go_sem]) (by simp [covered, hd])
theorem call24 (s : List (T × T)) (l : List Mo) (cl : List Int) (x : Ext) (hs : small s) (hsl : s.length < 1000000) (hm : smallM l) (hl : l.length ≤ 10000) (hc : cl.length ≤ 80000) (hok : ∀ l', subM s l = some l' → smallM l') (h : H) : callV C h (.func 24 []) (some [encY' l, encF' s, .isl (cl.map (AV.int .i64)) x]) = some (.bool (covered s l cl), h) :=
  callV_strip (by kernel_rfl) rfl (args' := [encY l, encF s, ints cl]) rfl rfl (by simp) (covered24 s l cl hs hsl hm hl hc hok)
end Go.VZ

/- The law on Covered: sizes, and the walk. -/
namespace Go.VZ
open Go Go.V Go.Proofs TL
theorem mem_sizes : ∀ {l : List T} {t : T}, t ∈ l → t.size ≤ sizes l
  | a :: l, t, h => by
    rw [sizes]
    rcases List.mem_cons.1 h with rfl | h
    · omega
    · have := mem_sizes h; omega
theorem few_terms {l : List T} {c n : Int} (h : fewT l c n = true) (hn : 0 ≤ n) (hc : c < 4000000) (hm : n < 4000000) : smallT l := by
  simp only [fewT, Bool.and_eq_true, decide_eq_true_eq] at h
  have := (budgets_law l n (by omega)).2 h.2
  exact ⟨by omega, fun t ht => by have := mem_sizes ht; omega⟩
theorem few_binds {s : List (T × T)} (h : fewB s 20 200 = true) : small s ∧ s.length < 1000000 := by
  have h1 := few_terms h (by omega) (by omega) (by omega)
  simp only [fewB, fewT, Bool.and_eq_true, decide_eq_true_eq, flatB_len] at h
  refine ⟨fun b hb => ⟨h1.2 _ ?_, h1.2 _ ?_⟩, by omega⟩ <;> exact List.mem_flatMap.2 ⟨b, hb, by simp⟩
theorem apply_size {s : List (T × T)} {t : T} (h : (applyR s t).2 = 0) : (applyR s t).1.size ≤ 400 := by
  unfold applyR at h ⊢
  split at h
  · rename_i h1; exact absurd h h1
  · rw [if_neg (by assumption)]
    split at h
    · rename_i h1; exact absurd h h1
    · rw [if_neg (by assumption)]
      split at h
      · rename_i h1; exact absurd h h1
      · rename_i h1
        rw [if_neg h1]
        exact (nodes_zero (Decidable.not_not.1 h1)).2.1
theorem applyAll_size {s : List (T × T)} : ∀ {ts : List T}, (applyAll s ts).2 = 0 → (applyAll s ts).1.length = ts.length ∧ ∀ t ∈ (applyAll s ts).1, t.size ≤ 400
  | [], _ => by simp [applyAll]
  | t :: ts, h => by
    rw [applyAll] at h ⊢
    split at h
    · rename_i h1; exact absurd h h1
    · rename_i h1
      rw [if_neg h1]
      split at h
      · rename_i h2; exact absurd h h2
      · rename_i h2
        rw [if_neg h2]
        have ih := applyAll_size (Decidable.not_not.1 h2)
        refine ⟨by simp [ih.1], fun x hx => ?_⟩
        rcases List.mem_cons.1 hx with rfl | hx
        · exact apply_size (Decidable.not_not.1 h1)
        · exact ih.2 x hx
theorem subM_small {s : List (T × T)} : ∀ {l l' : List Mo}, smallM l → subM s l = some l' → smallM l'
  | [], l', _, h => by
    simp only [subM, Option.some.injEq] at h; subst h; exact fun m hm => by simp at hm
  | m :: l, l', hs, h => by
    rw [subM] at h
    split at h
    · cases h
    · rename_i h1
      obtain ⟨l2, h2, rfl⟩ := Option.map_eq_some_iff.1 h
      have ih := subM_small (fun x hx => hs x (List.mem_cons_of_mem _ hx)) h2
      have h3 := applyAll_size (Decidable.not_not.1 h1)
      have h4 := (hs m (by simp)).1
      intro x hx
      rcases List.mem_cons.1 hx with rfl | hx
      · exact ⟨by show (applyAll s m.terms).1.length < _; omega, fun t ht => by have := h3.2 t ht; omega⟩
      · exact ih x hx
theorem call20 (h : H) : callV C h (.func 20 []) (some []) = some (.bool true, h) := by
  have hp : C.prim 20 [] [] = some (.bool true, []) := by kernel_rfl
  have hq : Go.V.Call C 20 [] [] = some (.bool true, []) := Call_prim (C := C) (fn := Tryz.f20) Tryz.func20 hp
  have e : CallP C 20 [] = some (.bool true) := by
    unfold CallP
    rw [hq]; rfl
  exact callV_strip (by kernel_rfl) rfl (args' := []) rfl rfl (by simp) e
theorem zv57 : zeroV C.P 57 = some (.agg [.isl [] .full, .isl [] .full, .isl [] .full, .isl [] .full]) := by kernel_rfl
theorem zv59 : zeroV C.P 59 = some (.agg [.isl [] .full, .isl [] .full, .isl [] .full]) := by kernel_rfl
theorem s57 : sizeV C.P 57 = some 4 := by kernel_rfl
theorem s59 : sizeV C.P 59 = some 3 := by kernel_rfl
theorem a57 : isAggB C.P 57 = some true := by kernel_rfl
theorem a59 : isAggB C.P 59 = some true := by kernel_rfl
theorem st57 (l : List Mo) (h : H) (a b c d : AV) (Y : VObj) : storeV C.P (h ++ [.cells [a, b, c, d] .live, Y]) 57 (.ptr h.length 0) (encY' l) = some (h ++ [.cells (encY' l).cells .live, Y]) := by
  simp [storeV, s57, encY', cells_agg]
theorem st59 (s : List (T × T)) (h : H) (e f g : AV) (X : VObj) : storeV C.P (h ++ [X, .cells [e, f, g] .live]) 59 (.ptr (h.length + 1) 0) (encF' s) = some (h ++ [X, .cells (encF' s).cells .live]) := by
  simp [storeV, s59, encF', cells_agg]
theorem ld57 (l : List Mo) (h : H) (Y : VObj) : loadV C.P (h ++ [.cells (encY' l).cells .live, Y]) 57 (.ptr h.length 0) = some (encY' l) := by
  simp [loadV, cellsAt, a57, s57, encY', cells_agg]
theorem ld59 (s : List (T × T)) (h : H) (X : VObj) : loadV C.P (h ++ [X, .cells (encF' s).cells .live]) 59 (.ptr (h.length + 1) 0) = some (encF' s) := by
  simp [loadV, cellsAt, a59, s59, encF', cells_agg]
def NI6 (l : List Mo) (s : List (T × T)) (cl : List Int) (n : Nat) (st : PT) (h : H) : Prop := ∃ k : Nat, n = l.length - k ∧ k ≤ l.length ∧ (∀ m ∈ l.take k, fewT m.terms 8 60 = true) ∧ st.get 0 = moments l ∧ st.get 1 = binds s ∧ st.get 2 = ints cl ∧ st.get 29 = moments l ∧ st.get 30 = .int .i64 l.length ∧ st.get 31 = .int .i64 k
set_option maxRecDepth 8000 in
set_option maxHeartbeats 4000000 in
theorem law6 (l : List Mo) (s : List (T × T)) (cl : List Int) (hsl : s.length * 112 ≤ 140737488355328) : CallP C 6 [moments l, binds s, ints cl] = some (.bool true) := by
  refine CallP_W rfl Tryz.func6 rfl (by kernel_rfl) (by simp [Tryz.f6]) fun R hR => ?_
  have fin : ∀ (st : PT) (h : H), st.get 6 = .bool true → R .ret st h := fun st h h6 => hR _ _ _ (.inr rfl) ⟨.bool true, by simp [resultV, resV, Tryz.f6, h6], snap_dat rfl rfl⟩
  have hln : lenV C.P 50 (moments l) = some (.int .i64 l.length) := by simp [moments, len50]
  have hlc : lenV C.P 47 (ints cl) = some (.int .i64 cl.length) := len47q cl
  have c21 := call21 s 20 200 (by omega) (by omega) (by omega) (by omega) hsl
  simp +contextual [go_sem, initS, call20, hln, hlc, c21]
  refine Ife_iff.2 ⟨fun h1 => ?_, fun h1 => ?_⟩
  · simp [go_sem, call20]
    exact fin _ _ (by simp [go_sem])
  have hb : fewB s 20 200 = true := by
    cases e : fewB s 20 200 with
    | true => rfl
    | false => exact absurd (.inr e) h1
  have hl20 : l.length ≤ 20 := by
    refine Decidable.byContradiction fun e => h1 (.inl (.inl ?_)); omega
  have hc20 : cl.length ≤ 20 := by
    refine Decidable.byContradiction fun e => h1 (.inl (.inr ?_)); omega
  obtain ⟨hs, hsl2⟩ := few_binds hb
  clear h1 c21 hsl
  simp [go_sem, hln]
  refine W_loop (NI6 l s cl) l.length ⟨0, rfl, Nat.zero_le _, by simp, by simp [go_sem], by simp [go_sem], by simp [go_sem], by simp [go_sem], by simp [go_sem], by simp [go_sem]⟩ ?_
  rintro n st h ⟨k, rfl, hk, hf, g0, g1, g2, g29, g30, g31⟩
  by_cases hlt : k < l.length
  · have hlt' : (k : Int) < l.length := by omega
    have hix : indexAddrV C.P 50 (moments l) (.int .i64 k) = some (.iptr (encM l[k]) 0) := idx50 l k hlt .unk
    have e4 := zv54b l[k] h
    have e5 := ld23m (h := h) l[k]
    have fa := fa54_5 h.length
    have c9 := call9 l[k].terms 8 60 (by omega) (by omega)
    have w2 : IntKind.i64.wrap ((k : Int) + 1) = ((k + 1 : Nat) : Int) := by rw [wrap_in (by omega)]; omega
    by_cases hz : fewT l[k].terms 8 60 = true
    · simp [go_sem, g29, g30, g31, hlt', hix, ld54, e4, e5, fa, c9, hz, -Int.natCast_add, w2]
      refine ⟨l.length - (k + 1), by omega, k + 1, rfl, hlt, ?_, by simp [go_sem, g0], by simp [go_sem, g1], by simp [go_sem, g2], by simp [go_sem, g29], by simp [go_sem, g30], by simp [go_sem]⟩
      intro m hm
      rw [← List.take_append_getElem hlt] at hm
      rcases List.mem_append.1 hm with hm | hm
      · exact hf m hm
      · simp at hm; subst hm; exact hz
    · simp [go_sem, g29, g30, g31, hlt', hix, ld54, e4, e5, fa, c9, hz]
      exact fin _ _ (by simp [go_sem])
  · have : k = l.length := by omega
    subst this
    rw [List.take_length] at hf
    have hm : smallM l := fun m hm => few_terms (hf m hm) (by omega) (by omega) (by omega)
    have hok : ∀ l', subM s l = some l' → smallM l' := fun l' h => subM_small hm h
    obtain ⟨x, c23⟩ := call23 cl (by omega)
    have c22 := call22 s l cl x hs hm (by omega) (by omega) hok
    have eb : ∀ b : Bool, binV C.P .eql 4 (.tmp 48) (.tmp 52) (.bool b) (.bool b) = some (.bool true) := fun b => by cases b <;> kernel_rfl
    have c24 : ∀ h, callV C h (.func 24 []) (some [encY' l, encF' s, ints cl]) = some (.bool (covered s l cl), h) := call24 s l cl .unk hs hsl2 hm (by omega) (by omega) hok
    simp [go_sem, g0, g1, g2, g29, g30, g31, bld57, bld59, zv57, zv59, show notTuple (binds s) = true from rfl, show notTuple (moments l) = true from rfl, st57, st59, ld57, ld59, c23, c22, c24, eb]
    exact fin _ _ (by simp [go_sem])
end Go.VZ
