/- The facts of a clause: both ways of the same text; mixed regions with rows of one's own. -/
import Derived.Test.YtdoegkegjaadeaaGreatDoorQSd
namespace Go.V
open Go
section
variable {C : Cfg} {cf : FuncId} {ops : Array Oper} {base : Nat} {K : PT → H → List FP → Prop} {i : Nat} {l : List Oper} {s : PT} {h : H} {F : List FP}
/-- An operation in general. -/
theorem MX_op {o : Oper} (T : List Nat) (v : AV) (h' g : H) (hg : o.guard = none) (hf : foot C s h o = some (T, true)) (ho : opV C (Call C) cf s h o = some (v, h')) (hl : h'.length ≤ h.length + 1) (hT : T.contains (base + i) = false) (hp : isVoid h[base + i]? = true)
    (hfin : fin (base + i) T h h' = g) (hk : MX C cf ops base K (i + 1) l (putV s o.dst (v.mv h.length (base + i))) g (F ++ [((base + i) :: T, (base + i) :: T)])) : MX C cf ops base K i (o :: l) s h F := by
  refine ⟨v.mv h.length (base + i), g, ((base + i) :: T, (base + i) :: T), ?_, hk⟩
  unfold mixStep
  rw [if_pos (by simp [Region.wanted, hg]), hf, ho]
  dsimp only
  rw [if_pos ⟨hl, hT, hp⟩, if_pos rfl, if_pos rfl, hfin]
theorem foot_call {d : Tmp} {ty : TypeId} {p : String} {af : Array Edge} {f : FuncId} {args : List Operand} {at_ : Array TypeId} {al : List AV} (hb : hasBody C.P f = true) (hmd : C.mode f = .strip ∨ C.mode f = .ownM) (hx : evs s args = some al) (hr : reachs h deep al = []) :
    foot C s h ⟨some d, .call { callee := .value (.func f), args := args.toArray, argTypes := at_ }, ty, p, af, none⟩ = some ([], true) := by
  rcases hmd with e | e <;> simp only [foot, active, if_true, hx, ev, hb, e, List.append_nil, hr]
theorem opV_call {d : Tmp} {ty : TypeId} {p : String} {af : Array Edge} {f : FuncId} {args : List Operand} {at_ : Array TypeId} {al : List AV} {v : AV} {h' : H} (hx : evs s args = some al) (hc : callV C h (.func f []) (some al) = some (v, h')) :
    opV C (Call C) cf s h ⟨some d, .call { callee := .value (.func f), args := args.toArray, argTypes := at_ }, ty, p, af, none⟩ = some (v, h') := by
  rw [opV_active rfl, ← hc]
  simp only [opA, hx, ev, callV]
theorem MX_callM {d : Tmp} {ty : TypeId} {p : String} {af : Array Edge} {f : FuncId} {args : List Operand} {at_ : Array TypeId} (al : List AV) (v : AV) (y : VObj) (hb : hasBody C.P f = true) (hmd : C.mode f = .strip ∨ C.mode f = .ownM) (hx : evs s args = some al) (hr : reachs h deep al = [])
    (hc : callV C h (.func f []) (some al) = some (v, h ++ [y])) (hp : isVoid h[base + i]? = true)
    (hk : MX C cf ops base K (i + 1) l (s.set d (v.mv h.length (base + i))) (h.set (base + i) (y.mv h.length (base + i))) (F ++ [([base + i], [base + i])])) : MX C cf ops base K i (⟨some d, .call { callee := .value (.func f), args := args.toArray, argTypes := at_ }, ty, p, af, none⟩ :: l) s h F :=
  MX_push0 v y rfl (foot_call hb hmd hx hr) (opV_call hx hc) hp hk
theorem MX_call0 {d : Tmp} {ty : TypeId} {p : String} {af : Array Edge} {f : FuncId} {args : List Operand} {at_ : Array TypeId} (al : List AV) (v : AV) (hb : hasBody C.P f = true) (hmd : C.mode f = .strip ∨ C.mode f = .ownM) (hx : evs s args = some al) (hr : reachs h deep al = [])
    (hc : callV C h (.func f []) (some al) = some (v, h)) (hp : isVoid h[base + i]? = true)
    (hk : MX C cf ops base K (i + 1) l (s.set d (v.mv h.length (base + i))) h (F ++ [([base + i], [base + i])])) : MX C cf ops base K i (⟨some d, .call { callee := .value (.func f), args := args.toArray, argTypes := at_ }, ty, p, af, none⟩ :: l) s h F :=
  MX_op [] v h h rfl (foot_call hb hmd hx hr) (opV_call hx hc) (by omega) rfl hp (fin_none _ _) hk
theorem MX_build {d : Tmp} {t ty : TypeId} {len : Nat} {parts : List (Nat × Operand)} {p : String} {af : Array Edge} (ps : List (Nat × AV)) (v : AV) (hx : partsV s parts = some ps) (hr : reachs h deep (ps.map (·.2)) = [])
    (hc : buildSliceV C.P h t len ps = some (v, h)) (hp : isVoid h[base + i]? = true)
    (hk : MX C cf ops base K (i + 1) l (s.set d (v.mv h.length (base + i))) h (F ++ [([base + i], [base + i])])) : MX C cf ops base K i (⟨some d, .buildSlice t len parts.toArray, ty, p, af, none⟩ :: l) s h F := by
  refine MX_op [] v h h rfl ?_ ?_ (by omega) rfl hp (fin_none _ _) hk
  · simp only [foot, active, if_true, hx, hr]
  · rw [opV_active rfl]; simp only [opA, hx, hc]
theorem MX_append {d : Tmp} {ty t : TypeId} {a b : Operand} {p : String} {af : Array Edge} (va vb v : AV) (h' g : H) (hx : ev s a = some va) (hy : ev s b = some vb) (hc : appendW C.P (C.wr cf d) h t va vb = some (v, h')) (hl : h'.length ≤ h.length + 1)
    (hT : (mslId va ++ tokId va ++ mslId vb).contains (base + i) = false) (hp : isVoid h[base + i]? = true) (hfin : fin (base + i) (mslId va ++ tokId va ++ mslId vb) h h' = g)
    (hk : MX C cf ops base K (i + 1) l (s.set d (v.mv h.length (base + i))) g (F ++ [((base + i) :: (mslId va ++ tokId va ++ mslId vb), (base + i) :: (mslId va ++ tokId va ++ mslId vb))])) : MX C cf ops base K i (⟨some d, .call { callee := .builtin .append, args := #[a, b], argTypes := #[t, t] }, ty, p, af, none⟩ :: l) s h F := by
  refine MX_op _ v h' g rfl ?_ ?_ hl hT hp hfin hk
  · simp only [foot, active, if_true, hx, hy]
  · rw [opV_active rfl]; simp only [opA, hx, hy, wrO, hc, if_true]
theorem fin_dead {p id : Nat} {h : H} {z y : VObj} (hp : p < h.length) (hn : id ≠ p) : fin p [id] h (h.set id z ++ [y]) = (h.set id (z.mv h.length p)).set p (y.mv h.length p) := by
  apply List.ext_getElem?
  intro j
  rw [fin_get, List.getElem?_set, List.getElem?_set]
  by_cases e : p = j
  · subst e; simp [hp]
  · by_cases e2 : id = j
    · subst e2
      by_cases hl : id < h.length
      · simp [e, hl, hn, List.getElem?_append_left]
      · simp [e, hl, hn]
    · simp [e, e2, show ¬ j = p from fun h => e h.symm, show ¬ j = id from fun h => e2 h.symm]
end
end Go.V

/- The facts of a clause: both ways walked. -/
namespace Go.VZ
open Go Go.V Go.Proofs TL
theorem mvs_self (l : List AV) (h : ∀ a ∈ l, ∀ i k, a.mv i k = a) (i k : Nat) : AV.mvs i k l = l := mvs_id fun _j a ha => h a (List.mem_of_getElem? ha) i k
theorem mv_fa (f : Fa) (i k : Nat) : (encFa f).mv i k = encFa f := rfl
theorem mv_facts (l : List Fa) (i k : Nat) : (factsV l).mv i k = factsV l := rfl
theorem mv_cl (c : Cl) (i k : Nat) : (encCl c).mv i k = encCl c := rfl
theorem mvs_cellsF (l : List Fa) (i k : Nat) : AV.mvs i k (cellsF l) = cellsF l := mvs_self _ (by
  intro a ha i k
  simp only [cellsF, List.mem_flatMap] at ha
  obtain ⟨f, _, ha⟩ := ha
  simp only [faC, List.mem_cons, List.not_mem_nil, or_false] at ha
  rcases ha with rfl | rfl | rfl <;> rfl) i k
theorem mv_cellsF (l : List Fa) (i k : Nat) : VObj.mv i k (.cells (cellsF l) .live) = .cells (cellsF l) .live := by simp [VObj.mv, mvs_cellsF]
theorem call96n (h : H) : callV C h (.func 96 []) (some [factsV []]) = some (.isl [] .full, h) := by
  have e1 := (dats_snap (h := h) (l := [factsV []]) (l' := [.isl [] .unk]) rfl rfl deep (by simp [deep]))
  have hbd : hasBody C.P 96 = true := by kernel_rfl
  simp only [callV, hbd, if_true, List.append_nil]
  unfold applyCall
  rw [show C.mode 96 = .ownM from rfl]
  dsimp only
  rw [e1.2]
  simp only [Go.V.freeze, e1.1]
  have hp : C.prim 96 [.isl [] .unk] [] = some (.isl [] .full, []) := by simp [C, prim, primClone, cloneIds]
  have hq : Go.V.Call C 96 [.isl [] .unk] [] = some (.isl [] .full, []) := Call_prim (C := C) (fn := Tryz.f96) Tryz.func96 hp
  rw [hq]
  rfl
theorem call96c (a : Fa) (l : List Fa) (h : H) (hl : (a :: l).length ≤ 10000) : callV C h (.func 96 []) (some [factsV (a :: l)]) = some (.msl h.length 0 3 (a :: l).length none, h ++ [.cells (cellsF (a :: l)) .live]) := by
  have hcl := cellsF_len (a :: l)
  exact callV_ownM3 (by kernel_rfl) rfl (args' := [factsV (a :: l)]) rfl rfl (by simp) (by omega) (clone96 a l hl) rfl (dats_cellsF _) (short_cellsF _) (by omega) (by omega)
theorem parts1 {s : PT} {x : Operand} {v : AV} (h : ev s x = some v) (hn : notTuple v = true) : partsV s [(0, x)] = some [(0, v)] := by simp [partsV, h, hn]
theorem reachs_fa (h : H) (f : Fa) : reachs h deep [encFa f] = [] := (dats_snap (h := h) (l := [encFa f]) (l' := [encFa f]) rfl rfl deep (by simp [deep])).2
theorem reachs_facts (h : H) (l : List Fa) : reachs h deep [factsV l] = [] := (dats_snap (h := h) (l := [factsV l]) (l' := [factsV l]) rfl rfl deep (by simp [deep])).2
theorem appN0 (h : H) (f : Fa) : appendW C.P true h 33 (.isl [] .full) (.isl [encFa f] .full) = some (.msl h.length 0 3 1 none, h ++ [.cells (cellsF [f]) .live]) := by
  obtain ⟨id, h', e, _⟩ := appendF (h := h) (v := .isl [] .full) (l := []) f (.inl ⟨rfl, rfl⟩) (by simp)
  have hsz := szOk_encFa [f]
  have e4 : srcV h 3 (.isl [encFa f] .full) = some (faC f, 1) := by
    simp only [List.map_cons, List.map_nil] at hsz
    simp only [srcV, hsz, if_true]; simp [encFa, cells_agg]
  simp only [appendW, knownCap, Bool.not_true, if_false, Bool.false_eq_true, appendN, u33, s35, b35, z35, e4]
  simp [szOk, cellsF]
theorem appN1 {h : H} {id : Nat} {l : List Fa} (f : Fa) (hid : h[id]? = some (.cells (cellsF l) .live)) (hl : l.length ≤ 10000) : appendW C.P true h 33 (.msl id 0 3 l.length none) (.isl [encFa f] .full) = some (.msl h.length 0 3 (l.length + 1) none, h.set id (.cells (cellsF l) .dead) ++ [.cells (cellsF (l ++ [f])) .live]) := by
  have hsz := szOk_encFa [f]
  have e4 : srcV h 3 (.isl [encFa f] .full) = some (faC f, 1) := by
    simp only [List.map_cons, List.map_nil] at hsz
    simp only [srcV, hsz, if_true]; simp [encFa, cells_agg]
  have hcl := cellsF_len l
  have hcf : cellsF (l ++ [f]) = cellsF l ++ faC f := by simp [cellsF]
  simp only [appendW, knownCap, Bool.not_true, if_false, Bool.false_eq_true, appendN, u33, s35, b35, z35, e4, hid]
  rw [if_neg (by simp), if_neg (by simp), if_pos ⟨trivial, trivial, by omega, by omega⟩, List.take_of_length_le (by omega), hcf]
set_option maxRecDepth 8000 in
set_option maxHeartbeats 4000000 in
theorem factsOf57 (c : Cl) (hl : c.body.length ≤ 10000) : CallP C 57 [encCl c] = some (factsV (factsOf c)) := by
  refine CallP_W rfl Tryz.func57 rfl (by kernel_rfl) (by simp [Tryz.f57]) fun R hR => ?_
  simp [go_sem, box37]
  refine W_mixed 1 _ (by rw [mixC]; decide) (by kernel_rfl) ?_
  show MX C 57 _ 1 _ 0 _ _ _ _
  generalize hH0 : [VObj.cells (clC c) .live] ++ List.replicate _ VObj.void = H0
  have pl : Pl [.cells (clC c) .live] H0 8 := hH0 ▸ Pl.mk' _ 8
  have hlen := pl.len
  clear hH0
  have p0 : H0[0]? = some (.cells (clC c) .live) := pl.get rfl
  have q0 := ld33c p0
  have q1 := ld35c p0
  simp only [List.length_cons, List.length_nil, Nat.zero_add] at hlen pl
  refine MX_pure (.ptr 0 0) rfl rfl (pl.isV (i := 0) (by decide)) (by simp [opN, go_sem]) (ptr_mv (by omega) (Nat.le_refl _)) ?_
  refine MX_load (.ptr 0 0) (factsV c.body) (by simp [go_sem]) q0 (lids_no (by simp)) (pl.isV (i := 1) (by decide)) rfl ?_
  rcases c with ⟨body, head⟩
  cases body with
  | nil =>
    refine MX_call0 (args := [.tmp 4]) [factsV []] (.isl [] .full) (by kernel_rfl) (.inr rfl) (by simp [go_sem]) (reachs_facts _ _) (call96n _) (pl.isV (i := 2) (by decide)) ?_
    refine MX_pure (.ptr 0 1) rfl rfl (pl.isV (i := 3) (by decide)) (by simp [opN, go_sem]) (ptr_mv (by omega) (Nat.le_refl _)) ?_
    refine MX_load (.ptr 0 1) (encFa head) (by simp [go_sem]) q1 (lids_no (by simp)) (pl.isV (i := 4) (by decide)) rfl ?_
    refine MX_build (parts := [(0, .tmp 7)]) [(0, encFa head)] (.isl [encFa head] .full) (parts1 (by simp [go_sem]) rfl) (reachs_fa _ _) (build33_1 _ _) (pl.isV (i := 5) (by decide)) ?_
    refine MX_append (.isl [] .full) (.isl [encFa head] .full) _ _ _ (by simp [go_sem]; rfl) (by simp [go_sem]; rfl) (by rw [wrC]; exact appN0 _ _) (by simp) rfl (pl.isV (i := 6) (by decide)) (fin_push (by omega)) ?_
    refine MX_pure (.msl 7 0 3 1 none) rfl rfl ?_ (by simp [opN, go_sem, AV.mv]) (by simp [AV.mv, hlen]) ?_
    · rw [List.getElem?_set_ne (by simp)]; exact pl.isV (i := 7) (by decide)
    refine ⟨by kernel_rfl, ?_⟩
    simp [go_sem]
    refine hR _ _ _ (.inr rfl) ⟨.msl 7 0 3 1 none, by simp [resultV, resV, Tryz.f57, go_sem], ?_⟩
    rw [mv_cellsF]
    exact snap_rowF (l := [head]) (by simp [hlen]) (by simp)
  | cons a l =>
    have hc := call96c a l H0 hl
    refine MX_callM (args := [.tmp 4]) [factsV (a :: l)] _ _ (by kernel_rfl) (.inr rfl) (by simp [go_sem]) (reachs_facts _ _) hc (pl.isV (i := 2) (by decide)) ?_
    rw [mv_cellsF, show (AV.msl H0.length 0 3 (a :: l).length none).mv H0.length (1 + 2) = .msl 3 0 3 (a :: l).length none by simp [AV.mv]]
    obtain ⟨H1, eH1⟩ : ∃ g, g = H0.set (1 + 2) (.cells (cellsF (a :: l)) .live) := ⟨_, rfl⟩
    have hH1 : H1[3]? = some (.cells (cellsF (a :: l)) .live) := by rw [eH1]; simp [hlen]
    have hlen1 : H1.length = 9 := by rw [eH1]; simp [hlen]
    have hv : ∀ i, i < 8 → i ≠ 2 → isVoid H1[1 + i]? = true := fun i hi hn => by rw [eH1]; exact isV_set (pl.isV hi) (by omega)
    have p1 : H1[0]? = some (.cells (clC ⟨a :: l, head⟩) .live) := by rw [eH1, List.getElem?_set_ne (by simp)]; exact p0
    have q1' := ld35c p1
    rw [← eH1]
    refine MX_pure (.ptr 0 1) rfl rfl (hv 3 (by decide) (by decide)) (by simp [opN, go_sem]) (ptr_mv (n := H1.length) (by omega) (Nat.le_refl _)) ?_
    refine MX_load (.ptr 0 1) (encFa head) (by simp [go_sem]) q1' (lids_no (by simp)) (hv 4 (by decide) (by decide)) rfl ?_
    refine MX_build (parts := [(0, .tmp 7)]) [(0, encFa head)] (.isl [encFa head] .full) (parts1 (by simp [go_sem]) rfl) (reachs_fa _ _) (build33_1 _ _) (hv 5 (by decide) (by decide)) ?_
    refine MX_append (.msl 3 0 3 (a :: l).length none) (.isl [encFa head] .full) _ _ _ (by simp [go_sem]) (by simp [go_sem]; rfl) (by rw [wrC]; exact appN1 _ hH1 hl) (by simp) (by simp [mslId, tokId]) (hv 6 (by decide) (by decide)) (fin_dead (by omega) (by simp)) ?_
    refine MX_pure (.msl 7 0 3 (l.length + 2) none) rfl rfl ?_ (by simp [opN, go_sem, AV.mv]) (by simp [AV.mv, hlen1]) ?_
    · rw [List.getElem?_set_ne (by simp), List.getElem?_set_ne (by simp)]; exact hv 7 (by decide) (by decide)
    refine ⟨by simp [lids, mslId, tokId]; kernel_rfl, ?_⟩
    simp [go_sem]
    refine hR _ _ _ (.inr rfl) ⟨.msl 7 0 3 (l.length + 2) none, by simp [resultV, resV, Tryz.f57, go_sem], ?_⟩
    rw [mv_cellsF]
    have := snap_rowF (h := (H1.set 3 (VObj.mv H1.length (1 + 6) (.cells (cellsF (a :: l)) .dead))).set (1 + 6) (.cells (cellsF (a :: l ++ [head])) .live)) (id := 7) (l := a :: l ++ [head]) (by simp [hlen1]) (by simp at hl ⊢; omega)
    simpa [factsOf] using this
theorem call57 (c : Cl) (hl : c.body.length ≤ 10000) (h : H) : callV C h (.func 57 []) (some [encCl c]) = some (factsV (factsOf c), h) := callV_strip (by kernel_rfl) rfl (dat_cl c) (by simp [short_cl]) (by simp) (factsOf57 c hl)
set_option maxRecDepth 8000 in
set_option maxHeartbeats 4000000 in
theorem factsOf50 (c : Cl) (hl : c.body.length ≤ 10000) : CallP C 50 [encCl c] = some (factsV (factsOf c)) := by
  refine CallP_W rfl Tryz.func50 rfl (by kernel_rfl) (by simp [Tryz.f50]) fun R hR => ?_
  simp [go_sem, box37]
  refine W_mixed 1 _ (by rw [mixC]; decide) (by kernel_rfl) ?_
  show MX C 50 _ 1 _ 0 _ _ _ _
  generalize hH0 : [VObj.cells (clC c) .live] ++ List.replicate _ VObj.void = H0
  have pl : Pl [.cells (clC c) .live] H0 8 := hH0 ▸ Pl.mk' _ 8
  have hlen := pl.len
  clear hH0
  have p0 : H0[0]? = some (.cells (clC c) .live) := pl.get rfl
  have q0 := ld33c p0
  have q1 := ld35c p0
  simp only [List.length_cons, List.length_nil, Nat.zero_add] at hlen pl
  refine MX_pure (.ptr 0 0) rfl rfl (pl.isV (i := 0) (by decide)) (by simp [opN, go_sem]) (ptr_mv (by omega) (Nat.le_refl _)) ?_
  refine MX_load (.ptr 0 0) (factsV c.body) (by simp [go_sem]) q0 (lids_no (by simp)) (pl.isV (i := 1) (by decide)) rfl ?_
  rcases c with ⟨body, head⟩
  cases body with
  | nil =>
    refine MX_call0 (args := [.tmp 4]) [factsV []] (.isl [] .full) (by kernel_rfl) (.inr rfl) (by simp [go_sem]) (reachs_facts _ _) (call96n _) (pl.isV (i := 2) (by decide)) ?_
    refine MX_pure (.ptr 0 1) rfl rfl (pl.isV (i := 3) (by decide)) (by simp [opN, go_sem]) (ptr_mv (by omega) (Nat.le_refl _)) ?_
    refine MX_load (.ptr 0 1) (encFa head) (by simp [go_sem]) q1 (lids_no (by simp)) (pl.isV (i := 4) (by decide)) rfl ?_
    refine MX_build (parts := [(0, .tmp 7)]) [(0, encFa head)] (.isl [encFa head] .full) (parts1 (by simp [go_sem]) rfl) (reachs_fa _ _) (build33_1 _ _) (pl.isV (i := 5) (by decide)) ?_
    refine MX_append (.isl [] .full) (.isl [encFa head] .full) _ _ _ (by simp [go_sem]; rfl) (by simp [go_sem]; rfl) (by rw [wrC]; exact appN0 _ _) (by simp) rfl (pl.isV (i := 6) (by decide)) (fin_push (by omega)) ?_
    refine MX_pure (.msl 7 0 3 1 none) rfl rfl ?_ (by simp [opN, go_sem, AV.mv]) (by simp [AV.mv, hlen]) ?_
    · rw [List.getElem?_set_ne (by simp)]; exact pl.isV (i := 7) (by decide)
    refine ⟨by kernel_rfl, ?_⟩
    simp [go_sem]
    refine hR _ _ _ (.inr rfl) ⟨.msl 7 0 3 1 none, by simp [resultV, resV, Tryz.f50, go_sem], ?_⟩
    rw [mv_cellsF]
    exact snap_rowF (l := [head]) (by simp [hlen]) (by simp)
  | cons a l =>
    have hc := call96c a l H0 hl
    refine MX_callM (args := [.tmp 4]) [factsV (a :: l)] _ _ (by kernel_rfl) (.inr rfl) (by simp [go_sem]) (reachs_facts _ _) hc (pl.isV (i := 2) (by decide)) ?_
    rw [mv_cellsF, show (AV.msl H0.length 0 3 (a :: l).length none).mv H0.length (1 + 2) = .msl 3 0 3 (a :: l).length none by simp [AV.mv]]
    obtain ⟨H1, eH1⟩ : ∃ g, g = H0.set (1 + 2) (.cells (cellsF (a :: l)) .live) := ⟨_, rfl⟩
    have hH1 : H1[3]? = some (.cells (cellsF (a :: l)) .live) := by rw [eH1]; simp [hlen]
    have hlen1 : H1.length = 9 := by rw [eH1]; simp [hlen]
    have hv : ∀ i, i < 8 → i ≠ 2 → isVoid H1[1 + i]? = true := fun i hi hn => by rw [eH1]; exact isV_set (pl.isV hi) (by omega)
    have p1 : H1[0]? = some (.cells (clC ⟨a :: l, head⟩) .live) := by rw [eH1, List.getElem?_set_ne (by simp)]; exact p0
    have q1' := ld35c p1
    rw [← eH1]
    refine MX_pure (.ptr 0 1) rfl rfl (hv 3 (by decide) (by decide)) (by simp [opN, go_sem]) (ptr_mv (n := H1.length) (by omega) (Nat.le_refl _)) ?_
    refine MX_load (.ptr 0 1) (encFa head) (by simp [go_sem]) q1' (lids_no (by simp)) (hv 4 (by decide) (by decide)) rfl ?_
    refine MX_build (parts := [(0, .tmp 7)]) [(0, encFa head)] (.isl [encFa head] .full) (parts1 (by simp [go_sem]) rfl) (reachs_fa _ _) (build33_1 _ _) (hv 5 (by decide) (by decide)) ?_
    refine MX_append (.msl 3 0 3 (a :: l).length none) (.isl [encFa head] .full) _ _ _ (by simp [go_sem]) (by simp [go_sem]; rfl) (by rw [wrC]; exact appN1 _ hH1 hl) (by simp) (by simp [mslId, tokId]) (hv 6 (by decide) (by decide)) (fin_dead (by omega) (by simp)) ?_
    refine MX_pure (.msl 7 0 3 (l.length + 2) none) rfl rfl ?_ (by simp [opN, go_sem, AV.mv]) (by simp [AV.mv, hlen1]) ?_
    · rw [List.getElem?_set_ne (by simp), List.getElem?_set_ne (by simp)]; exact hv 7 (by decide) (by decide)
    refine ⟨by simp [lids, mslId, tokId]; kernel_rfl, ?_⟩
    simp [go_sem]
    refine hR _ _ _ (.inr rfl) ⟨.msl 7 0 3 (l.length + 2) none, by simp [resultV, resV, Tryz.f50, go_sem], ?_⟩
    rw [mv_cellsF]
    have := snap_rowF (h := (H1.set 3 (VObj.mv H1.length (1 + 6) (.cells (cellsF (a :: l)) .dead))).set (1 + 6) (.cells (cellsF (a :: l ++ [head])) .live)) (id := 7) (l := a :: l ++ [head]) (by simp [hlen1]) (by simp at hl ⊢; omega)
    simpa [factsOf] using this
theorem call50 (c : Cl) (hl : c.body.length ≤ 10000) (h : H) : callV C h (.func 50 []) (some [encCl c]) = some (factsV (factsOf c), h) := callV_strip (by kernel_rfl) rfl (dat_cl c) (by simp [short_cl]) (by simp) (factsOf50 c hl)
end Go.VZ

/- What stays in memory. -/
namespace Go.VZ
open Go Go.V Go.Proofs TL
theorem ga {h g : H} {j : Nat} {o : VObj} (e : h[j]? = some o) : (h ++ g)[j]? = some o := by rw [List.getElem?_append_left (List.getElem?_eq_some_iff.1 e).1]; exact e
theorem own_not {e : TypeId} {h : H} {v : AV} {xs : List AV} (o : OwnR e h v xs) {i : Nat} {cs : List AV} {st : OSt} (hi : h[i]? = some (.cells cs st)) : idOf v ≠ some i := by
  intro hj
  rcases o with rfl | ⟨a, rfl, ha⟩
  · cases hj
  · simp only [idOf, Option.some.injEq] at hj
    subst hj; rw [ha] at hi; cases hi
end Go.VZ

/- The closures that gather terms: walked. -/
namespace Go.VZ
open Go Go.V Go.Proofs TL
/-- A row of terms in a cell of memory; what lies elsewhere. -/
def Ok3 (i3 : Nat) (pr : List (Nat × VObj)) (h : H) (l : List T) : Prop := ∃ v, h[i3]? = some (.cells [v] .live) ∧ Row h v l ∧ ∀ p ∈ pr, h[p.1]? = some p.2 ∧ p.1 ≠ i3 ∧ idOf v ≠ some p.1
theorem row_lt {h : H} {v : AV} {l : List T} (r : Row h v l) {i : Nat} (e : idOf v = some i) : i < h.length := by
  rcases r with ⟨rfl, rfl⟩ | ⟨id, rfl, hid⟩
  · cases e
  · simp only [idOf, Option.some.injEq] at e; subst e; exact (List.getElem?_eq_some_iff.1 hid).1
theorem row_ga {h g : H} {v : AV} {l : List T} (r : Row h v l) : Row (h ++ g) v l := by
  rcases r with ⟨rfl, rfl⟩ | ⟨id, rfl, hid⟩
  · exact .inl ⟨rfl, rfl⟩
  · exact .inr ⟨id, rfl, ga hid⟩
theorem Ok3.push {i3 : Nat} {pr : List (Nat × VObj)} {h : H} {l : List T} (k : Ok3 i3 pr h l) (o : VObj) : Ok3 i3 ((h.length, o) :: pr) (h ++ [o]) l := by
  obtain ⟨v, k1, k2, k3⟩ := k
  refine ⟨v, ga k1, row_ga k2, fun p hp => ?_⟩
  rcases List.mem_cons.1 hp with rfl | hp
  · exact ⟨by simp, fun e => by have := (List.getElem?_eq_some_iff.1 k1).1; simp only at e; omega, fun e => by have := row_lt k2 e; simp only at this; omega⟩
  · exact ⟨ga (k3 p hp).1, (k3 p hp).2⟩
theorem Ok3.less {i3 : Nat} {pr pr' : List (Nat × VObj)} {h : H} {l : List T} (k : Ok3 i3 pr h l) (hp : ∀ p ∈ pr', p ∈ pr) : Ok3 i3 pr' h l := by
  obtain ⟨v, k1, k2, k3⟩ := k
  exact ⟨v, k1, k2, fun p h => k3 p (hp p h)⟩
theorem Ok3.at_ {i3 : Nat} {pr : List (Nat × VObj)} {h : H} {l : List T} (k : Ok3 i3 pr h l) {j : Nat} {o : VObj} (hp : (j, o) ∈ pr) : h[j]? = some o := by
  obtain ⟨v, k1, k2, k3⟩ := k
  exact (k3 _ hp).1
/-- A closure that gathers terms. -/
def Clo (g : FuncId) (caps : List AV) (i3 : Nat) (pr0 : List (Nat × VObj)) (f : T → List T) : Prop := ∀ (t : T) (h : H) (l : List T), t.size < 4000000 → l.length < 100000000 → Ok3 i3 pr0 h l →
  ∃ h', callV C h (.func g caps) (some [enc t]) = some (.tuple [], h') ∧ ∀ pr, Ok3 i3 pr h l → Ok3 i3 pr h' (l ++ f t)
theorem zvt : notTuple (.agg [.int .i64 0, .str ⟨#[]⟩, .int .i64 0, .isl [] .full]) = true := rfl
def zt : AV := .agg [.int .i64 0, .str ⟨#[]⟩, .int .i64 0, .isl [] .full]
def zu : AV := .agg [.int .i64 0, .str ⟨#[]⟩, .int .i64 0, .isl [] .unk]
def zuc : List AV := [.int .i64 0, .str ⟨#[]⟩, .int .i64 0, .isl [] .unk]
theorem build23_z (h : H) : buildSliceV C.P h 23 1 [(0, zt)] = some (.isl [zu] .full, h) := buildSlice_dats u23 s25 z25 rfl (by omega) rfl (es := [zu]) rfl rfl (by simp) rfl
theorem reachs_zt (h : H) : reachs h deep [zt] = [] := (dats_snap (h := h) (l := [zt]) (l' := [zu]) rfl rfl deep (by simp [deep])).2
theorem appZ0 (h : H) : appendW C.P true h 23 (.isl [] .full) (.isl [zu] .full) = some (.msl h.length 0 4 1 none, h ++ [.cells zuc .live]) := by
  have e4 : srcV h 4 (.isl [zu] .full) = some (zuc, 1) := by simp [srcV, szOk, zu, cells_agg, zuc]
  simp only [appendW, knownCap, Bool.not_true, if_false, Bool.false_eq_true, appendN, u23, s25, b25, z25, e4]
  simp [szOk]
theorem appZ1 {h : H} {id : Nat} {l : List T} (hid : h[id]? = some (.cells (cellsT l) .live)) (hl : l.length < 100000000) : appendW C.P true h 23 (.msl id 0 4 l.length none) (.isl [zu] .full) = some (.msl h.length 0 4 (l.length + 1) none, h.set id (.cells (cellsT l) .dead) ++ [.cells (cellsT l ++ zuc) .live]) := by
  have e4 : srcV h 4 (.isl [zu] .full) = some (zuc, 1) := by simp [srcV, szOk, zu, cells_agg, zuc]
  have hcl := cellsT_len l
  simp only [appendW, knownCap, Bool.not_true, if_false, Bool.false_eq_true, appendN, u23, s25, b25, z25, e4, hid]
  rw [if_neg (by simp), if_neg (by simp), if_pos ⟨trivial, trivial, by omega, by omega⟩, List.take_of_length_le (by omega)]
theorem st25r {h : H} {id : Nat} {l : List T} (x : T) (hid : h[id]? = some (.cells (cellsT l ++ zuc) .live)) : storeV C.P h 25 (.ptr id (4 * l.length)) (enc x) = some (h.set id (.cells (cellsT (l ++ [x])) .live)) := by
  have hcl := cellsT_len l
  have e : cellsT (l ++ [x]) = cellsT l ++ (enc x).cells := by simp [cellsT]
  rw [e]
  simp only [storeV, hid, s25]
  rw [enc_eq]
  have e2 : (cellsT l ++ zuc).length = 4 * l.length + 4 := by simp [hcl, zuc]
  simp only [List.length_cons, List.length_nil, e2]
  rw [if_pos ⟨trivial, by omega⟩, List.take_append_of_le_length (by omega), List.take_of_length_le (by omega), List.drop_of_length_le (by omega), List.append_nil]
  rfl
theorem mvs_cellsT (l : List T) (i k : Nat) : AV.mvs i k (cellsT l) = cellsT l := mvs_self _ (by
  intro a ha i k
  simp only [cellsT, List.mem_flatMap] at ha
  obtain ⟨f, _, ha⟩ := ha
  rw [enc_cells] at ha
  simp only [List.mem_cons, List.not_mem_nil, or_false] at ha
  rcases ha with rfl | rfl | rfl | rfl <;> rfl) i k
theorem mv_cellsL (l : List T) (i k : Nat) : VObj.mv i k (.cells (cellsT l) .live) = .cells (cellsT l) .live := by simp [VObj.mv, mvs_cellsT]
theorem mv_cellsLz (l : List T) (i k : Nat) : VObj.mv i k (.cells (cellsT l ++ zuc) .live) = .cells (cellsT l ++ zuc) .live := by
  have : AV.mvs i k (cellsT l ++ zuc) = cellsT l ++ zuc := mvs_self _ (by
    intro a ha i k
    rcases List.mem_append.1 ha with ha | ha
    · simp only [cellsT, List.mem_flatMap] at ha
      obtain ⟨f, _, ha⟩ := ha
      rw [enc_cells] at ha
      simp only [List.mem_cons, List.not_mem_nil, or_false] at ha
      rcases ha with rfl | rfl | rfl | rfl <;> rfl
    · simp only [zuc, List.mem_cons, List.not_mem_nil, or_false] at ha
      rcases ha with rfl | rfl | rfl | rfl <;> rfl) i k
  simp [VObj.mv, this]

theorem row_not {h : H} {v : AV} {l : List T} (r : Row h v l) {i : Nat} {x : AV} {st : OSt} (hi : h[i]? = some (.cells [x] st)) : idOf v ≠ some i := by
  intro e
  rcases r with ⟨rfl, rfl⟩ | ⟨id, rfl, hid⟩
  · cases e
  · simp only [idOf, Option.some.injEq] at e; subst e
    rw [hid] at hi
    have := cellsT_len l
    simp only [Option.some.injEq, VObj.cells.injEq] at hi
    rw [hi.1] at this; simp at this; omega
theorem ld23v {h : H} {i : Nat} {v : AV} {l : List T} (hi : h[i]? = some (.cells [v] .live)) (r : Row h v l) : loadV C.P h 23 (.ptr i 0) = some v := by
  rcases r with ⟨rfl, rfl⟩ | ⟨id, rfl, hid⟩ <;> simp [loadV, hi, cellsAt, a23, s23]
theorem st23v {h : H} {i : Nat} {v u : AV} (hi : h[i]? = some (.cells [v] .live)) (hu : ∃ id n, u = .msl id 0 4 n none) : storeV C.P h 23 (.ptr i 0) u = some (h.set i (.cells [u] .live)) := by
  obtain ⟨id, n, rfl⟩ := hu
  simp [storeV, hi, s23]
theorem lenRow {h : H} {v : AV} {l : List T} (r : Row h v l) : lenV C.P 23 v = some (.int .i64 l.length) := by
  rcases r with ⟨rfl, rfl⟩ | ⟨id, rfl, hid⟩
  · simp [lenV, u23]
  · simp [lenV, u23]
theorem evc (s : PT) : ev s (.const (.agg #[.int .i64 0, .string ⟨#[]⟩, .int .i64 0, .slice none 0 0])) = some zt := by kernel_rfl
theorem ptr_mv' {i o n k : Nat} (h : i < n) : (AV.ptr i o).mv n k = .ptr i o := by simp [AV.mv]; omega
end Go.VZ

/- The closures that gather terms: walked. -/
namespace Go.VZ
open Go Go.V Go.Proofs TL
theorem callV_openc {f : FuncId} {args caps : List AV} {h : H} (hb : hasBody C.P f = true) (hm : C.mode f = .openH) : callV C h (.func f caps) (some args) = Go.V.Call C f (args ++ caps) h := by
  simp only [callV, hb, if_true]
  unfold applyCall
  rw [hm]
/-- What the appending regions leave. -/
theorem ok3_done {i3 b : Nat} {h H2 : H} {l : List T} {t : T} {v : AV} (k1 : h[i3]? = some (.cells [v] .live)) (_k2 : Row h v l) (hb : h.length ≤ b) (e3 : H2[i3]? = some (.cells [.msl b 0 4 (l.length + 1) none] .live)) (eb : H2[b]? = some (.cells (cellsT (l ++ [t])) .live))
    (ho : ∀ j, j < h.length → j ≠ i3 → idOf v ≠ some j → H2[j]? = h[j]?) : ∀ pr, Ok3 i3 pr h l → Ok3 i3 pr H2 (l ++ [t]) := by
  rintro pr ⟨v', k1', _, k3⟩
  rw [k1] at k1'; simp only [Option.some.injEq, VObj.cells.injEq, List.cons.injEq, and_true] at k1'; subst k1'
  refine ⟨_, e3, .inr ⟨b, by simp, eb⟩, fun p hp => ?_⟩
  obtain ⟨a, c, d⟩ := k3 p hp
  have hlt := (List.getElem?_eq_some_iff.1 a).1
  exact ⟨by rw [ho _ hlt c d]; exact a, c, fun e => by simp only [idOf, Option.some.injEq] at e; omega⟩
set_option maxRecDepth 8000 in
set_option maxHeartbeats 4000000 in
theorem clo153 (i3 : Nat) : Clo 153 [.ptr i3 0] i3 [] (fun t => [t]) := by
  rintro t h l ht hl ⟨v, k1, k2, -⟩
  rw [callV_openc (by kernel_rfl) rfl]
  show ∃ h', Go.V.Call C 153 [enc t, .ptr i3 0] h = _ ∧ _
  suffices hh : ∃ r h', Go.V.Call C 153 [enc t, .ptr i3 0] h = some (r, h') ∧ (r = .tuple [] ∧ ∀ pr, Ok3 i3 pr h l → Ok3 i3 pr h' (l ++ [t])) by
    obtain ⟨r, h', a, rfl, c⟩ := hh
    exact ⟨h', a, c⟩
  refine Call_WQ rfl Tryz.func153 rfl (by kernel_rfl) (by simp [Tryz.f153]) fun R hR => ?_
  simp [go_sem, box25]
  obtain ⟨h1, eh1⟩ : ∃ g, g = h ++ [.cells (enc t).cells .live] := ⟨_, rfl⟩
  rw [← enc_cells, ← eh1]
  have n1 : h1[h.length]? = some (.cells (enc t).cells .live) := by rw [eh1]; simp
  have n3 : h1[i3]? = some (.cells [v] .live) := by rw [eh1]; exact ga k1
  have hr1 : Row h1 v l := by rw [eh1]; exact row_ga k2
  have hlen1 : h1.length = h.length + 1 := by rw [eh1]; simp
  have hi3 : i3 < h.length := (List.getElem?_eq_some_iff.1 k1).1
  have old : ∀ j, j < h.length → h1[j]? = h[j]? := fun j hj => by rw [eh1]; exact List.getElem?_append_left hj
  clear eh1
  refine W_mixed 1 _ (by rw [mixC]; decide) (by kernel_rfl) ?_
  show MX C 153 _ h1.length _ 0 _ _ _ _
  generalize hH0 : h1 ++ List.replicate _ VObj.void = H0
  have pl : Pl h1 H0 8 := hH0 ▸ Pl.mk' _ 8
  have hlen := pl.len
  clear hH0
  have p1 := pl.get n1
  have p3 := pl.get n3
  have r0 : Row H0 v l := by
    rcases hr1 with ⟨rfl, rfl⟩ | ⟨id, rfl, hid⟩
    · exact .inl ⟨rfl, rfl⟩
    · exact .inr ⟨id, rfl, pl.get hid⟩
  have q0 := ld23v p3 r0
  have q1 := ldn25 t p1
  have hln := lenRow k2
  have hvm : v.mv H0.length (h1.length + 0) = v := by
    rcases k2 with ⟨rfl, rfl⟩ | ⟨id, rfl, hid⟩
    · rfl
    · have := (List.getElem?_eq_some_iff.1 hid).1
      simp [AV.mv]; omega
  refine MX_load (.ptr i3 0) v (by simp [go_sem]) q0 (lids_no (by omega)) (pl.isV (i := 0) (by decide)) hvm ?_
  refine MX_load (.ptr h.length 0) (enc t) (by simp [go_sem]) q1 (lids_no (by omega)) (pl.isV (i := 1) (by decide)) (mv_enc _ _ _) ?_
  refine MX_pure (.int .i64 l.length) rfl rfl (pl.isV (i := 2) (by decide)) (by simp [opN, go_sem, hln]) rfl ?_
  refine MX_build (parts := [(0, .const (.agg #[.int .i64 0, .string ⟨#[]⟩, .int .i64 0, .slice none 0 0]))]) [(0, zt)] (.isl [zu] .full) (parts1 (evc _) rfl) (reachs_zt _) (build23_z _) (pl.isV (i := 3) (by decide)) ?_
  have hb4 : h1.length + 4 < H0.length := by omega
  -- the appended row, in its place
  have app : ∃ h' g, appendW C.P true H0 23 v (.isl [zu] .full) = some (.msl H0.length 0 4 (l.length + 1) none, h') ∧ h'.length ≤ H0.length + 1 ∧ (mslId v ++ tokId v ++ mslId (.isl [zu] .full)).contains (h1.length + 4) = false ∧
      fin (h1.length + 4) (mslId v ++ tokId v ++ mslId (.isl [zu] .full)) H0 h' = g ∧ g.length = H0.length ∧ g[h1.length + 4]? = some (.cells (cellsT l ++ zuc) .live) ∧ ∀ j, j ≠ h1.length + 4 → idOf v ≠ some j → g[j]? = H0[j]? := by
    rcases r0 with ⟨rfl, rfl⟩ | ⟨id, rfl, hid⟩
    · refine ⟨_, _, appZ0 _, by simp, rfl, fin_push hb4, by simp, ?_, fun j hj _ => List.getElem?_set_ne (fun e => hj e.symm)⟩
      rw [List.getElem?_set_self hb4]; rfl
    · have hid1 : id < h1.length := by
        rcases hr1 with ⟨e, _⟩ | ⟨id', e, hid'⟩
        · subst e; exact absurd hid (by intro hh; rename_i c; cases c)
        · simp only [AV.msl.injEq] at e; rw [← e.1] at hid'; exact (List.getElem?_eq_some_iff.1 hid').1
      refine ⟨_, _, appZ1 hid hl, by simp, by simp [mslId, tokId]; omega, fin_dead hb4 (by omega), by simp, ?_, fun j hj hn => ?_⟩
      · rw [List.getElem?_set_self (by simpa using hb4), mv_cellsLz]
      · rw [List.getElem?_set_ne (fun e => hj e.symm), List.getElem?_set_ne (fun e => hn (by rw [e]; rfl))]
  obtain ⟨h', g, a1, a2, a3, a4, a5, a6, a7⟩ := app
  refine MX_append v (.isl [zu] .full) _ h' g (by simp [go_sem]) (by simp [go_sem]; rfl) (by rw [wrC]; exact a1) a2 a3 (pl.isV (i := 4) (by decide)) a4 ?_
  rw [show (AV.msl H0.length 0 4 (l.length + 1) none).mv H0.length (h1.length + 4) = .msl (h1.length + 4) 0 4 (l.length + 1) none by simp [AV.mv]]
  have nv : ∀ i, 4 < i → i < 8 → isVoid g[h1.length + i]? = true := fun i hi hi8 => by
    rw [a7 _ (by omega) (fun e => by have := row_lt hr1 e; omega)]; exact pl.isV hi8
  refine MX_pure (.ptr (h1.length + 4) (4 * l.length)) rfl rfl (nv 5 (by decide) (by decide)) (by simp [opN, go_sem, idxRow]) (ptr_mv' (by omega)) ?_
  have s1 := st25r t a6
  refine MX_store (h1.length + 4) (4 * l.length) (enc t) _ (by simp [go_sem]) (by simp [go_sem]) s1 (by omega) (nv 6 (by decide) (by decide)) ?_
  rw [mv_cellsL]
  obtain ⟨g2, eg2⟩ : ∃ g2, g2 = g.set (h1.length + 4) (.cells (cellsT (l ++ [t])) .live) := ⟨_, rfl⟩
  rw [← eg2]
  have b1 : g2[h1.length + 4]? = some (.cells (cellsT (l ++ [t])) .live) := by rw [eg2]; exact List.getElem?_set_self (by omega)
  have b2 : ∀ j, j ≠ h1.length + 4 → g2[j]? = g[j]? := fun j hj => by rw [eg2]; exact List.getElem?_set_ne (fun e => hj e.symm)
  have b3 : g2[i3]? = some (.cells [v] .live) := by rw [b2 _ (by omega), a7 _ (by omega) (row_not k2 k1)]; exact p3
  have b4 : g2.length = H0.length := by rw [eg2]; simpa using a5
  clear eg2
  have s2 := st23v (u := .msl (h1.length + 4) 0 4 (l.length + 1) none) b3 ⟨_, _, rfl⟩
  refine MX_store i3 0 (.msl (h1.length + 4) 0 4 (l.length + 1) none) _ (by simp [go_sem]) (by simp [go_sem]) s2 (by omega) (by rw [b2 _ (by omega)]; exact nv 7 (by decide) (by decide)) ?_
  rw [show VObj.mv g2.length (h1.length + 7) (.cells [.msl (h1.length + 4) 0 4 (l.length + 1) none] .live) = .cells [.msl (h1.length + 4) 0 4 (l.length + 1) none] .live by simp [VObj.mv, AV.mvs, AV.mv]; omega]
  refine ⟨?_, ?_⟩
  · unfold fpOk
    generalize hb : Region.before _ = b
    have hb1 : (b.getD 7 0).testBit 0 = true := by rw [← hb]; kernel_rfl
    have hb2 : (b.getD 6 0).testBit 4 = true := by rw [← hb]; kernel_rfl
    clear hb
    have hx : ∀ x ∈ mslId v ++ tokId v ++ mslId (.isl [zu] .full), x < h.length ∧ x ≠ i3 := by
      have hn := row_not k2 k1
      rcases k2 with ⟨rfl, rfl⟩ | ⟨id, rfl, hid⟩
      · intro x hx; simp [mslId, tokId] at hx
      · intro x hx
        simp [mslId, tokId] at hx
        subst hx
        exact ⟨(List.getElem?_eq_some_iff.1 hid).1, fun e => hn (by rw [← e]; rfl)⟩
    generalize mslId v ++ tokId v ++ mslId (.isl [zu] .full) = X at hx
    have y1 : ∀ k, (h1.length + k) ∉ X := fun k hk => by have := (hx _ hk).1; omega
    have y2 : i3 ∉ X := fun hk => (hx _ hk).2 rfl
    have y3 : h.length ∉ X := fun hk => by have := (hx _ hk).1; omega
    have z1 : ∀ x ∈ X, ∀ k, ¬x = h.length + 1 + k := fun x h' k e => by have := (hx x h').1; omega
    have z2 : ∀ x ∈ X, ¬x = h.length := fun x h' e => by have := (hx x h').1; omega
    have z3 : ∀ k, ¬(h.length + 1 + k ∈ X) := fun k h' => by have := (hx _ h').1; omega
    simp [lids, meet, List.range, List.range.loop, hlen1]
    refine ⟨⟨.inl (by omega), .inl (by omega)⟩, ⟨.inl ⟨by omega, fun x h' => (hx x h').2⟩, .inl ⟨by omega, z2⟩, .inl ⟨z3 3, fun x h' => z1 x h' 3⟩⟩, ⟨.inl ⟨by omega, by omega⟩, .inl ⟨by omega, by omega⟩, ?_⟩, ?_, .inl ⟨by omega, by omega⟩, .inl ⟨by omega, by omega⟩, ?_, .inl ⟨⟨by omega, by omega⟩, by omega, by omega⟩⟩
    · simpa [Array.getD_eq_getD_getElem?] using hb2
    · simpa [Array.getD_eq_getD_getElem?] using hb1
    · exact .inl ⟨⟨by omega, fun x h' => ⟨z1 x h' 7, (hx x h').2⟩⟩, z3 7, by omega, y2⟩
  simp [go_sem]
  refine hR _ _ _ (.inl rfl) ⟨.tuple [], rfl, rfl, ?_⟩
  refine ok3_done k1 k2 (b := h1.length + 4) (by omega) (List.getElem?_set_self (by omega)) (by rw [List.getElem?_set_ne (by omega)]; exact b1) fun j hj h3 hn => ?_
  rw [List.getElem?_set_ne (fun e => h3 e.symm), b2 _ (by omega), a7 _ (by omega) hn, pl.old _ (by omega), old _ hj]
def kindOnly (k : Int) (t : T) : List T := if t.kind = k then [t] else []
set_option maxRecDepth 8000 in
set_option maxHeartbeats 4000000 in
theorem clo174 (ik i3 : Nat) (k : Int) : Clo 174 [.ptr ik 0, .ptr i3 0] i3 [(ik, .cells [.int .i64 k] .live)] (kindOnly k) := by
  rintro t h l ht hl ⟨v, k1, k2, k3⟩
  obtain ⟨k4, k5, k6⟩ := k3 _ (List.mem_singleton_self _)
  rw [callV_openc (by kernel_rfl) rfl]
  show ∃ h', Go.V.Call C 174 [enc t, .ptr ik 0, .ptr i3 0] h = _ ∧ _
  suffices hh : ∃ r h', Go.V.Call C 174 [enc t, .ptr ik 0, .ptr i3 0] h = some (r, h') ∧ (r = .tuple [] ∧ ∀ pr, Ok3 i3 pr h l → Ok3 i3 pr h' (l ++ kindOnly k t)) by
    obtain ⟨r, h', a, rfl, c⟩ := hh
    exact ⟨h', a, c⟩
  refine Call_WQ rfl Tryz.func174 rfl (by kernel_rfl) (by simp [Tryz.f174]) fun R hR => ?_
  obtain ⟨h1, eh1⟩ : ∃ g, g = h ++ [.cells (enc t).cells .live] := ⟨_, rfl⟩
  have n1 : h1[h.length]? = some (.cells (enc t).cells .live) := by rw [eh1]; simp
  have n3 : h1[i3]? = some (.cells [v] .live) := by rw [eh1]; exact ga k1
  have nk : h1[ik]? = some (.cells [.int .i64 k] .live) := by rw [eh1]; exact ga k4
  have hr1 : Row h1 v l := by rw [eh1]; exact row_ga k2
  have hlen1 : h1.length = h.length + 1 := by rw [eh1]; simp
  have hi3 : i3 < h.length := (List.getElem?_eq_some_iff.1 k1).1
  have old : ∀ j, j < h.length → h1[j]? = h[j]? := fun j hj => by rw [eh1]; exact List.getElem?_append_left hj
  have lk : loadV C.P h1 3 (.ptr h.length 0) = some (.int .i64 t.kind) := by rw [enc_cells] at n1; simp [loadV, n1, cellsAt, a3, s3]
  have lk2 := ldp3 (_st := .live) nk
  by_cases hk : t.kind = k
  rotate_left
  · simp [go_sem, box25]
    rw [← enc_cells, ← eh1]
    simp [go_sem, lk, lk2, hk]
    refine hR _ _ _ (.inl rfl) ⟨.tuple [], rfl, rfl, ?_⟩
    intro pr kk
    simp only [kindOnly, if_neg hk, List.append_nil]
    rw [eh1]
    exact (kk.push _).less (fun p hp => List.mem_cons_of_mem _ hp)
  have hko : kindOnly k t = [t] := by simp [kindOnly, hk]
  rw [hko] at hR
  simp [go_sem, box25]
  rw [← enc_cells, ← eh1]
  simp [go_sem, lk, lk2, hk]
  clear eh1
  refine W_mixed 2 _ (by rw [mixC]; decide) (by kernel_rfl) ?_
  show MX C 174 _ h1.length _ 0 _ _ _ _
  generalize hH0 : h1 ++ List.replicate _ VObj.void = H0
  have pl : Pl h1 H0 8 := hH0 ▸ Pl.mk' _ 8
  have hlen := pl.len
  clear hH0
  have p1 := pl.get n1
  have p3 := pl.get n3
  have r0 : Row H0 v l := by
    rcases hr1 with ⟨rfl, rfl⟩ | ⟨id, rfl, hid⟩
    · exact .inl ⟨rfl, rfl⟩
    · exact .inr ⟨id, rfl, pl.get hid⟩
  have q0 := ld23v p3 r0
  have q1 := ldn25 t p1
  have hln := lenRow k2
  have hvm : v.mv H0.length (h1.length + 0) = v := by
    rcases k2 with ⟨rfl, rfl⟩ | ⟨id, rfl, hid⟩
    · rfl
    · have := (List.getElem?_eq_some_iff.1 hid).1
      simp [AV.mv]; omega
  refine MX_load (.ptr i3 0) v (by simp [go_sem]) q0 (lids_no (by omega)) (pl.isV (i := 0) (by decide)) hvm ?_
  refine MX_load (.ptr h.length 0) (enc t) (by simp [go_sem]) q1 (lids_no (by omega)) (pl.isV (i := 1) (by decide)) (mv_enc _ _ _) ?_
  refine MX_pure (.int .i64 l.length) rfl rfl (pl.isV (i := 2) (by decide)) (by simp [opN, go_sem, hln]) rfl ?_
  refine MX_build (parts := [(0, .const (.agg #[.int .i64 0, .string ⟨#[]⟩, .int .i64 0, .slice none 0 0]))]) [(0, zt)] (.isl [zu] .full) (parts1 (evc _) rfl) (reachs_zt _) (build23_z _) (pl.isV (i := 3) (by decide)) ?_
  have hb4 : h1.length + 4 < H0.length := by omega
  -- the appended row, in its place
  have app : ∃ h' g, appendW C.P true H0 23 v (.isl [zu] .full) = some (.msl H0.length 0 4 (l.length + 1) none, h') ∧ h'.length ≤ H0.length + 1 ∧ (mslId v ++ tokId v ++ mslId (.isl [zu] .full)).contains (h1.length + 4) = false ∧
      fin (h1.length + 4) (mslId v ++ tokId v ++ mslId (.isl [zu] .full)) H0 h' = g ∧ g.length = H0.length ∧ g[h1.length + 4]? = some (.cells (cellsT l ++ zuc) .live) ∧ ∀ j, j ≠ h1.length + 4 → idOf v ≠ some j → g[j]? = H0[j]? := by
    rcases r0 with ⟨rfl, rfl⟩ | ⟨id, rfl, hid⟩
    · refine ⟨_, _, appZ0 _, by simp, rfl, fin_push hb4, by simp, ?_, fun j hj _ => List.getElem?_set_ne (fun e => hj e.symm)⟩
      rw [List.getElem?_set_self hb4]; rfl
    · have hid1 : id < h1.length := by
        rcases hr1 with ⟨e, _⟩ | ⟨id', e, hid'⟩
        · subst e; exact absurd hid (by intro hh; rename_i c; cases c)
        · simp only [AV.msl.injEq] at e; rw [← e.1] at hid'; exact (List.getElem?_eq_some_iff.1 hid').1
      refine ⟨_, _, appZ1 hid hl, by simp, by simp [mslId, tokId]; omega, fin_dead hb4 (by omega), by simp, ?_, fun j hj hn => ?_⟩
      · rw [List.getElem?_set_self (by simpa using hb4), mv_cellsLz]
      · rw [List.getElem?_set_ne (fun e => hj e.symm), List.getElem?_set_ne (fun e => hn (by rw [e]; rfl))]
  obtain ⟨h', g, a1, a2, a3, a4, a5, a6, a7⟩ := app
  refine MX_append v (.isl [zu] .full) _ h' g (by simp [go_sem]) (by simp [go_sem]; rfl) (by rw [wrC]; exact a1) a2 a3 (pl.isV (i := 4) (by decide)) a4 ?_
  rw [show (AV.msl H0.length 0 4 (l.length + 1) none).mv H0.length (h1.length + 4) = .msl (h1.length + 4) 0 4 (l.length + 1) none by simp [AV.mv]]
  have nv : ∀ i, 4 < i → i < 8 → isVoid g[h1.length + i]? = true := fun i hi hi8 => by
    rw [a7 _ (by omega) (fun e => by have := row_lt hr1 e; omega)]; exact pl.isV hi8
  refine MX_pure (.ptr (h1.length + 4) (4 * l.length)) rfl rfl (nv 5 (by decide) (by decide)) (by simp [opN, go_sem, idxRow]) (ptr_mv' (by omega)) ?_
  have s1 := st25r t a6
  refine MX_store (h1.length + 4) (4 * l.length) (enc t) _ (by simp [go_sem]) (by simp [go_sem]) s1 (by omega) (nv 6 (by decide) (by decide)) ?_
  rw [mv_cellsL]
  obtain ⟨g2, eg2⟩ : ∃ g2, g2 = g.set (h1.length + 4) (.cells (cellsT (l ++ [t])) .live) := ⟨_, rfl⟩
  rw [← eg2]
  have b1 : g2[h1.length + 4]? = some (.cells (cellsT (l ++ [t])) .live) := by rw [eg2]; exact List.getElem?_set_self (by omega)
  have b2 : ∀ j, j ≠ h1.length + 4 → g2[j]? = g[j]? := fun j hj => by rw [eg2]; exact List.getElem?_set_ne (fun e => hj e.symm)
  have b3 : g2[i3]? = some (.cells [v] .live) := by rw [b2 _ (by omega), a7 _ (by omega) (row_not k2 k1)]; exact p3
  have b4 : g2.length = H0.length := by rw [eg2]; simpa using a5
  clear eg2
  have s2 := st23v (u := .msl (h1.length + 4) 0 4 (l.length + 1) none) b3 ⟨_, _, rfl⟩
  refine MX_store i3 0 (.msl (h1.length + 4) 0 4 (l.length + 1) none) _ (by simp [go_sem]) (by simp [go_sem]) s2 (by omega) (by rw [b2 _ (by omega)]; exact nv 7 (by decide) (by decide)) ?_
  rw [show VObj.mv g2.length (h1.length + 7) (.cells [.msl (h1.length + 4) 0 4 (l.length + 1) none] .live) = .cells [.msl (h1.length + 4) 0 4 (l.length + 1) none] .live by simp [VObj.mv, AV.mvs, AV.mv]; omega]
  refine ⟨?_, ?_⟩
  · unfold fpOk
    generalize hb : Region.before _ = b
    have hb1 : (b.getD 7 0).testBit 0 = true := by rw [← hb]; kernel_rfl
    have hb2 : (b.getD 6 0).testBit 4 = true := by rw [← hb]; kernel_rfl
    clear hb
    have hx : ∀ x ∈ mslId v ++ tokId v ++ mslId (.isl [zu] .full), x < h.length ∧ x ≠ i3 := by
      have hn := row_not k2 k1
      rcases k2 with ⟨rfl, rfl⟩ | ⟨id, rfl, hid⟩
      · intro x hx; simp [mslId, tokId] at hx
      · intro x hx
        simp [mslId, tokId] at hx
        subst hx
        exact ⟨(List.getElem?_eq_some_iff.1 hid).1, fun e => hn (by rw [← e]; rfl)⟩
    generalize mslId v ++ tokId v ++ mslId (.isl [zu] .full) = X at hx
    have y1 : ∀ k, (h1.length + k) ∉ X := fun k hk => by have := (hx _ hk).1; omega
    have y2 : i3 ∉ X := fun hk => (hx _ hk).2 rfl
    have y3 : h.length ∉ X := fun hk => by have := (hx _ hk).1; omega
    have z1 : ∀ x ∈ X, ∀ k, ¬x = h.length + 1 + k := fun x h' k e => by have := (hx x h').1; omega
    have z2 : ∀ x ∈ X, ¬x = h.length := fun x h' e => by have := (hx x h').1; omega
    have z3 : ∀ k, ¬(h.length + 1 + k ∈ X) := fun k h' => by have := (hx _ h').1; omega
    simp [lids, meet, List.range, List.range.loop, hlen1]
    refine ⟨⟨.inl (by omega), .inl (by omega)⟩, ⟨.inl ⟨by omega, fun x h' => (hx x h').2⟩, .inl ⟨by omega, z2⟩, .inl ⟨z3 3, fun x h' => z1 x h' 3⟩⟩, ⟨.inl ⟨by omega, by omega⟩, .inl ⟨by omega, by omega⟩, ?_⟩, ?_, .inl ⟨by omega, by omega⟩, .inl ⟨by omega, by omega⟩, ?_, .inl ⟨⟨by omega, by omega⟩, by omega, by omega⟩⟩
    · simpa [Array.getD_eq_getD_getElem?] using hb2
    · simpa [Array.getD_eq_getD_getElem?] using hb1
    · exact .inl ⟨⟨by omega, fun x h' => ⟨z1 x h' 7, (hx x h').2⟩⟩, z3 7, by omega, y2⟩
  simp [go_sem]
  refine hR _ _ _ (.inl rfl) ⟨.tuple [], rfl, rfl, ?_⟩
  refine ok3_done k1 k2 (b := h1.length + 4) (by omega) (List.getElem?_set_self (by omega)) (by rw [List.getElem?_set_ne (by omega)]; exact b1) fun j hj h3 hn => ?_
  rw [List.getElem?_set_ne (fun e => h3 e.symm), b2 _ (by omega), a7 _ (by omega) hn, pl.old _ (by omega), old _ hj]
end Go.VZ

/- term.walk over a closure that gathers terms: walked. -/
namespace TL
mutual
/-- What a walk gathers. -/
def walkT (f : T → List T) : T → List T
  | .mk k n s l => f (.mk k n s l) ++ walkTs f l
def walkTs (f : T → List T) : List T → List T
  | [] => []
  | t :: l => walkT f t ++ walkTs f l
end
theorem walkT_eq (f : T → List T) (t : T) : walkT f t = f t ++ walkTs f t.kids := by cases t; rfl
theorem walkTs_map (f : T → List T) : ∀ l, walkTs f l = l.flatMap (walkT f)
  | [] => rfl
  | t :: l => by rw [walkTs, walkTs_map f l]; rfl
theorem walkTs_append (f : T → List T) (l m : List T) : walkTs f (l ++ m) = walkTs f l ++ walkTs f m := by simp [walkTs_map]
mutual
theorem walkT_len (f : T → List T) (hf : ∀ t, (f t).length ≤ 1) : ∀ t : T, (walkT f t).length ≤ t.size
  | .mk k n s l => by
    have := walkTs_len f hf l
    have := hf (.mk k n s l)
    rw [walkT, List.length_append, T.size]; omega
theorem walkTs_len (f : T → List T) (hf : ∀ t, (f t).length ≤ 1) : ∀ l : List T, (walkTs f l).length ≤ sizes l
  | [] => by simp [walkTs]
  | t :: l => by
    have := walkT_len f hf t
    have := walkTs_len f hf l
    rw [walkTs, List.length_append, sizes]; omega
end
end TL
namespace Go.VZ
open Go Go.V Go.Proofs TL
def Wk (g : FuncId) (caps : List AV) (i3 : Nat) (pr0 : List (Nat × VObj)) (f : T → List T) (t : T) : Prop := ∀ (h : H) (l : List T), t.size < 4000000 → l.length + t.size ≤ 90000000 → Ok3 i3 pr0 h l →
  ∃ h', Go.V.Call C 152 [enc t, .func g caps] h = some (.tuple [], h') ∧ ∀ pr, Ok3 i3 pr h l → Ok3 i3 pr h' (l ++ walkT f t)
def NI152 (g : FuncId) (caps : List AV) (i3 : Nat) (f : T → List T) (t : T) (h0 : H) (l : List T) (n : Nat) (st : PT) (h : H) : Prop := ∃ k : Nat, n = t.kids.length - k ∧ k ≤ t.kids.length ∧ st.get 1 = .func g caps ∧ st.get 10 = terms t.kids ∧ st.get 11 = .int .i64 t.kids.length ∧ st.get 12 = .int .i64 k ∧
  ∀ pr, Ok3 i3 pr h0 l → Ok3 i3 pr h (l ++ (f t ++ walkTs f (t.kids.take k)))
theorem ld23k (t : T) (h : H) : loadV C.P (h ++ [.cells (enc t).cells .live]) 23 (.ptr h.length 3) = some (terms t.kids) := by
  simp [loadV, cellsAt, a23, s23, enc_cells, terms]
set_option maxRecDepth 8000 in
set_option maxHeartbeats 4000000 in
theorem walk152 (g : FuncId) (caps : List AV) (i3 : Nat) (pr0 : List (Nat × VObj)) (f : T → List T) (hf : ∀ t, (f t).length ≤ 1) (hg : Clo g caps i3 pr0 f) : ∀ t, Wk g caps i3 pr0 f t := by
  refine T.ind fun t ih h0 l hs hl ok => ?_
  suffices hh : ∃ r h', Go.V.Call C 152 [enc t, .func g caps] h0 = some (r, h') ∧ (r = .tuple [] ∧ ∀ pr, Ok3 i3 pr h0 l → Ok3 i3 pr h' (l ++ walkT f t)) by
    obtain ⟨r, h', a, rfl, c⟩ := hh
    exact ⟨h', a, c⟩
  refine Call_WQ rfl Tryz.func152 rfl (by kernel_rfl) (by simp [Tryz.f152]) fun R hR => ?_
  have up : ∀ (h : H) (m : List T) (o : VObj) pr, Ok3 i3 pr h m → Ok3 i3 pr (h ++ [o]) m := fun h m o pr k => (k.push o).less fun p hp => List.mem_cons_of_mem _ hp
  have hsk := size_kids t
  have e1 := ldb25z t h0
  obtain ⟨h1, c1, ok1⟩ := hg t (h0 ++ [.cells (enc t).cells .live]) l hs (by omega) (up _ _ _ _ ok)
  have hb : h1[h0.length]? = some (.cells (enc t).cells .live) := (ok1 _ (ok.push (.cells (enc t).cells .live))).at_ (List.mem_cons_self ..)
  have e2 : loadV C.P h1 23 (.ptr h0.length 3) = some (terms t.kids) := by
    rw [enc_cells] at hb
    simp [loadV, hb, cellsAt, a23, s23, terms]
  have hln := len23t t.kids
  simp [go_sem, box25]
  rw [← enc_cells]
  simp [go_sem, e1, c1, e2, hln]
  refine W_loop (NI152 g caps i3 f t h0 l) t.kids.length ⟨0, rfl, Nat.zero_le _, by simp [go_sem], by simp [go_sem], by simp [go_sem], by simp [go_sem], fun pr k => by simpa [walkTs] using ok1 _ (up _ _ _ _ k)⟩ ?_
  clear e1 e2 c1 hb ok1
  rintro n st h ⟨k, rfl, hk, g1, g10, g11, g12, okk⟩
  have hlen0 : (l ++ (f t ++ walkTs f (t.kids.take k))).length ≤ l.length + 1 + sizes (t.kids.take k) := by
    have := hf t
    have := walkTs_len f hf (t.kids.take k)
    simp only [List.length_append]; omega
  by_cases hlt : k < t.kids.length
  · have hlt' : (k : Int) < t.kids.length := by omega
    have hix := idx23t t.kids k hlt
    have e4 := st25z t.kids[k] h
    have e5 := ldb25z t.kids[k] h
    have w2 : IntKind.i64.wrap ((k : Int) + 1) = ((k + 1 : Nat) : Int) := by
      have := len_sizes t.kids
      rw [wrap_in (by omega)]; omega
    have hks := kid_size (List.getElem_mem hlt)
    have hts := take_sizes hlt
    have htl := take_sizes_le t.kids (k + 1)
    obtain ⟨h2, c2, ok2⟩ := ih t.kids[k] (List.getElem_mem hlt) (h ++ [.cells (enc t.kids[k]).cells .live]) (l ++ (f t ++ walkTs f (t.kids.take k))) (by omega) (by omega) (up _ _ _ _ (okk _ ok))
    have cv := (callV_open (f := 152) (by kernel_rfl) rfl).trans c2
    simp [go_sem, g1, g10, g11, g12, hlt', hix, ld25, e4, e5, cv, -Int.natCast_add, w2]
    refine ⟨t.kids.length - (k + 1), by omega, k + 1, rfl, hlt, by simp [go_sem, g1], by simp [go_sem, g10], by simp [go_sem, g11], by simp [go_sem], fun pr kk => ?_⟩
    have := ok2 _ (up _ _ (.cells (enc t.kids[k]).cells .live) _ (okk _ kk))
    rw [List.take_succ_eq_append_getElem hlt, walkTs_append]
    simpa [walkTs, List.append_assoc] using this
  · have : k = t.kids.length := by omega
    subst this
    rw [List.take_length] at okk
    simp [go_sem, g11, g12]
    refine hR _ _ _ (.inl rfl) ⟨.tuple [], rfl, rfl, fun pr kk => ?_⟩
    rw [walkT_eq]; exact okk _ kk
end Go.VZ

/- A row in a field that grows; the program's copy of a term. -/
namespace Go.VZ
open Go Go.V Go.Proofs TL
/-- What is appended to a row in a cell of an object of one's own. -/
theorem field23 {h : H} {v : AV} {xs : List T} {i o : Nat} {cs : List AV} (y : T) (go : OwnR 25 h v (xs.map enc)) (hi : h[i]? = some (.cells cs .live)) (ho : o < cs.length) (hl : xs.length < 10000000) :
    ∃ v' h', appendW C.P false h 23 v (.isl [enc y] .full) = some (v', h') ∧ storeV C.P h' 23 (.ptr i o) v' = some (h'.set i (.cells (cs.set o v') .live)) ∧ OwnR 25 (h'.set i (.cells (cs.set o v') .live)) v' ((xs ++ [y]).map enc) ∧
      (∀ (j : Nat) c st, j ≠ i → h[j]? = some (.cells c st) → (h'.set i (.cells (cs.set o v') .live))[j]? = some (.cells c st)) ∧ (h'.set i (.cells (cs.set o v') .live))[i]? = some (.cells (cs.set o v') .live) := by
  obtain ⟨v', h', ha, hw, hkp, hid⟩ := append23 (ys := [y]) (x := .full) go (by simp; omega)
  have hne : ∀ (j : Nat) c st, h[j]? = some (.cells c st) → idOf v ≠ some j := fun j c st hj => own_not go hj
  have hi' := hkp.get hi (hne _ _ _ hi)
  have hlt := (List.getElem?_eq_some_iff.1 hi').1
  refine ⟨v', h', by simpa using ha, ?_, ?_, ?_, List.getElem?_set_self hlt⟩
  · obtain ⟨x, rfl⟩ := hw.isl
    simp [storeV, hi', s23, ho]
  · refine hw.keep (Keep.set _ _ _) (fun j hj e => ?_)
    simp only [Option.some.injEq] at e
    subst e
    rcases hid with h1 | ⟨h1, h2⟩
    · exact hne _ _ _ hi (h1 ▸ hj)
    · have := (List.getElem?_eq_some_iff.1 hi).1
      rw [h2] at hj; simp only [Option.some.injEq] at hj; omega
  · intro j c st hj hc
    rw [List.getElem?_set_ne (fun e => hj e.symm)]
    exact hkp.get hc (hne _ _ _ hc)
/-- The cells of a term whose kids are another row. -/
def tcv (t : T) (v : AV) : List AV := [.int .i64 t.kind, .str t.name, .int .i64 t.sort, v]
def NI220 (t : T) (m : Nat) (s : PT) (h : H) : Prop := ∃ (k : Nat) (v : AV), m = t.kids.length - k ∧ k ≤ t.kids.length ∧ s.get 1 = .ptr 0 0 ∧ s.get 2 = .ptr 1 0 ∧ s.get 9 = terms t.kids ∧ s.get 10 = .int .i64 t.kids.length ∧ s.get 11 = .int .i64 k ∧ h[0]? = some (.cells (tcv t v) .live) ∧ h[1]? = some (.cells zc .live) ∧
  OwnR 25 h v ((t.kids.take k).map enc)
set_option maxRecDepth 8000 in
set_option maxHeartbeats 2000000 in
theorem clone220 (t : T) (hv : t.size < 4000000) (hc : ∀ k ∈ t.kids, CallP C 220 [enc k] = some (enc k)) : CallP C 220 [enc t] = some (enc t) := by
  refine CallP_W rfl Tryz.func220 rfl (by kernel_rfl) (by simp [Tryz.f220]) fun R hR => ?_
  have hsz := size_kids t
  have hlen := len_sizes t.kids
  have hln := len23t t.kids
  have q1 : ∀ (y : VObj) (a b c : AV), storeV C.P [.cells [a, b, c, terms t.kids] .live, y] 23 (.ptr 0 3) (.isl [] .full) = some [.cells [a, b, c, .isl [] .full] .live, y] := fun y a b c => by simp [storeV, s23]
  have q2 : ∀ (y : VObj) (a b c : AV), loadV C.P [.cells [a, b, c, terms t.kids] .live, y] 23 (.ptr 0 3) = some (terms t.kids) := fun y a b c => by simp [loadV, cellsAt, a23, s23, terms]
  simp [go_sem, box25, q1, q2, hln]
  refine W_loop (NI220 t) t.kids.length ⟨0, .isl [] .full, rfl, Nat.zero_le _, by simp [go_sem], by simp [go_sem], by simp [go_sem], by simp [go_sem], by simp [go_sem], rfl, rfl, .inl rfl⟩ ?_
  rintro m s h ⟨k, v, rfl, hk, g1, g2, g9, g10, g11, m0, m1, go⟩
  have hvi := go.isl
  have ntv : notTuple v = true := by obtain ⟨x, rfl⟩ := hvi; rfl
  by_cases hlt : k < t.kids.length
  · have hlt' : (k : Int) < t.kids.length := by omega
    have hix := idx23t t.kids k hlt
    have w2 : IntKind.i64.wrap ((k : Int) + 1) = ((k + 1 : Nat) : Int) := by rw [wrap_in (by omega)]; omega
    have ck : ∀ h, callV C h (.func 220 []) (some [enc t.kids[k]]) = some (enc t.kids[k], h) := fun h => callV_strip (by kernel_rfl) rfl (dat_enc _) (by simp [short_enc]) (by simp) (hc _ (List.getElem_mem hlt))
    have e4 := st25z t.kids[k] h
    have e5 := ldb25z t.kids[k] h
    obtain ⟨h2, eh2⟩ : ∃ g, g = h ++ [.cells (enc t.kids[k]).cells .live] := ⟨_, rfl⟩
    have n0 : h2[0]? = some (.cells (tcv t v) .live) := by rw [eh2]; exact ga m0
    have n1 : h2[1]? = some (.cells zc .live) := by rw [eh2]; exact ga m1
    have go2 : OwnR 25 h2 v ((t.kids.take k).map enc) := by rw [eh2]; exact go.keep (Keep.append _ _ none) (by simp)
    have nb : h2[h.length]? = some (.cells (enc t.kids[k]).cells .live) := by rw [eh2]; simp
    have l0 : loadV C.P h2 23 (.ptr 0 3) = some v := by simp [loadV, n0, tcv, cellsAt, a23, s23]
    rw [← eh2] at e4 e5
    obtain ⟨v', h', ha, hst, hw, hoth, hself⟩ := field23 (i := 0) (o := 3) t.kids[k] go2 n0 (by simp [tcv]) (by simp; omega)
    have etk : t.kids.take k ++ [t.kids[k]] = t.kids.take (k + 1) := List.take_append_getElem hlt
    rw [etk] at hw
    have hn0 := own_not go2 n0
    have hnb := own_not go2 nb
    simp [go_sem, g9, g10, g11, hlt', hix, ld25, e4]
    refine W_regionS 6 _ (by simp [mixC]) rfl ?_
    simp [go_sem, g1, g11, l0, e5, ck, build23_1, ha, hst, -Int.natCast_add, w2]
    refine ⟨?_, t.kids.length - (k + 1), by omega, k + 1, v', rfl, hlt, by simp [go_sem, g1], by simp [go_sem, g2], by simp [go_sem, g9], by simp [go_sem, g10], by simp [go_sem], hself, hoth 1 _ _ (by omega) n1, hw⟩
    rcases go2 with rfl | ⟨id, rfl, hd⟩
    · simp [go_sem, idsOk, ldIds, apIds, ldId, appId, mslId]
    · simp only [idOf, ne_eq, Option.some.injEq] at hn0 hnb
      simp [go_sem, idsOk, ldIds, apIds, ldId, appId, mslId]
      (try omega)
  · have : k = t.kids.length := by omega
    subst this
    rw [List.take_length] at go
    obtain ⟨x, rfl⟩ := go.isl
    have e5 : loadV C.P h 25 (.ptr 0 0) = some (.agg [.int .i64 t.kind, .str t.name, .int .i64 t.sort, .isl (t.kids.map enc) x]) := by simp [loadV, m0, cellsAt, a25, s25, tcv]
    have e6 : storeV C.P h 25 (.ptr 1 0) (.agg [.int .i64 t.kind, .str t.name, .int .i64 t.sort, .isl (t.kids.map enc) x]) = some (h.set 1 (.cells [.int .i64 t.kind, .str t.name, .int .i64 t.sort, .isl (t.kids.map enc) x] .live)) := by simp [storeV, m1, s25, zc]
    have e7 := (List.getElem?_eq_some_iff.1 m1).1
    generalize hzz : AV.agg [.int .i64 t.kind, .str t.name, .int .i64 t.sort, .isl (t.kids.map enc) x] = zz at e5 e6
    simp [go_sem, g1, g2, g10, g11, e5, e6]
    refine hR _ _ _ (.inr rfl) ⟨zz, ?_, ?_⟩
    · simp [resultV, resV, Tryz.f220, go_sem, g2, loadV, List.getElem?_set_self e7, cellsAt, a25, s25, ← hzz]
    · rw [enc_eq, ← hzz]; exact snap_dat rfl rfl
theorem clone220_all (t : T) : t.size < 4000000 → CallP C 220 [enc t] = some (enc t) := by
  induction t using T.ind with
  | _ t ih => exact fun hv => clone220 t hv (fun k hk => ih k hk (by have := kid_size hk; omega))
theorem call220 (t : T) (hv : t.size < 4000000) (h : H) : callV C h (.func 220 []) (some [enc t]) = some (enc t, h) := callV_strip (by kernel_rfl) rfl (dat_enc _) (by simp [short_enc]) (by simp) (clone220_all t hv)
end Go.VZ

/- Rows of terms with empty cells behind: reading, writing; slices.CompactFunc. -/
namespace TL
/-- Of each run of equals, the first; of the first j. -/
def ddj (l : List T) : Nat → List T
  | 0 => []
  | j + 1 => if j ≠ 0 ∧ (l.getD j default).cmp (l.getD (j - 1) default) = 0 then ddj l j else ddj l j ++ [l.getD j default]
def dd (l : List T) : List T := ddj l l.length
theorem ddj_len (l : List T) : ∀ j, (ddj l j).length ≤ j
  | 0 => Nat.le_refl _
  | j + 1 => by
    have := ddj_len l j
    rw [ddj]; split
    · omega
    · simp; omega
theorem ddj_take {l : List T} : ∀ j, j ≤ l.length → (∀ i, 0 < i → i < j → (l.getD i default).cmp (l.getD (i - 1) default) ≠ 0) → ddj l j = l.take j
  | 0, _, _ => by simp [ddj]
  | j + 1, hj, h => by
    rw [ddj, if_neg (fun e => h j (by omega) (by omega) e.2), ddj_take j (by omega) (fun i a b => h i a (by omega)), List.take_succ_eq_append_getElem (by omega)]
    simp [List.getElem?_eq_getElem (show j < l.length by omega)]
theorem mem_ddj {l : List T} {x : T} : ∀ j, j ≤ l.length → x ∈ ddj l j → x ∈ l
  | 0, _, h => by simp [ddj] at h
  | j + 1, hj, h => by
    rw [ddj] at h
    split at h
    · exact mem_ddj j (by omega) h
    · rcases List.mem_append.1 h with h | h
      · exact mem_ddj j (by omega) h
      · simp only [List.mem_singleton] at h
        rw [h, List.getD_eq_getElem?_getD, List.getElem?_eq_getElem (by omega)]
        exact List.getElem_mem _
theorem mem_dd {l : List T} {x : T} (h : x ∈ dd l) : x ∈ l := mem_ddj _ (Nat.le_refl _) h
end TL
namespace Go.V
open Go
section
variable {C : Cfg} {cf : FuncId} {ops : Array Oper} {K : PT → H → Prop} {l : List Oper} {s : PT} {h : H} {d : Option Tmp} {ty : TypeId} {p : String} {af : Array Edge}
@[go_sem] theorem opN_lo {P : Program} (t : TypeId) (x lo : Operand) (g : Option (Nat × Bool)) : opN P s ⟨d, .slice t x (some lo) none none, ty, p, af, g⟩ = bi2 (ev s x) (ev s lo) fun a b => sliceV P t a (some b) none none := by
  simp only [opN, bi2, Option.map_some, Option.map_none]
  cases ev s x <;> cases ev s lo <;> rfl
@[go_sem] theorem opN_hi {P : Program} (t : TypeId) (x hi : Operand) (g : Option (Nat × Bool)) : opN P s ⟨d, .slice t x none (some hi) none, ty, p, af, g⟩ = bi2 (ev s x) (ev s hi) fun a b => sliceV P t a none (some b) none := by
  simp only [opN, bi2, Option.map_some, Option.map_none]
  cases ev s x <;> cases ev s hi <;> rfl
@[go_sem] theorem OWclear (t : TypeId) (x : Operand) : OW C cf ops (⟨none, .call { callee := .builtin .clear, args := #[x], argTypes := #[t] }, ty, p, af, none⟩ :: l) s h K ↔ bO (bi1 (ev s x) (clearV C.P h t)) fun h' => OW C cf ops l s h' K := by
  rw [OW_act rfl, bO_iff]
  simp only [opA, bi1]
  constructor
  · rintro ⟨v, h', hv, hk⟩
    split at hv <;> first | (cases hv; done) | skip
    rename_i a ha
    split at hv <;> first | (cases hv; done) | skip
    rename_i h2 hs
    simp only [Option.some.injEq, Prod.mk.injEq] at hv; obtain ⟨rfl, rfl⟩ := hv
    exact ⟨h2, by rw [ha]; exact hs, hk⟩
  · rintro ⟨h', hs, hk⟩
    cases ha : ev s x with
    | none => rw [ha] at hs; cases hs
    | some a =>
      rw [ha] at hs
      replace hs : clearV C.P h t a = some h' := hs
      exact ⟨AV.undef, h', by simp only [hs], hk⟩
end
end Go.V
namespace Go.VZ
open Go Go.V Go.Proofs TL
def Zs (r : List AV) : Prop := ∀ x ∈ r, x = .int .i64 0 ∨ x = .str ⟨#[]⟩ ∨ x = .isl [] .full ∨ x = .isl [] .unk
def RowZ (N : Nat) (h : H) (v : AV) (l : List T) : Prop := (l = [] ∧ v = .isl [] .full) ∨ ∃ id rest, v = .msl id 0 4 l.length none ∧ h[id]? = some (.cells (cellsT l ++ rest) .live) ∧ Zs rest ∧ 4 * l.length + rest.length ≤ N
theorem Row.z {h : H} {v : AV} {l : List T} (r : Row h v l) : RowZ (4 * l.length) h v l := by
  rcases r with e | ⟨id, rfl, hid⟩
  · exact .inl e
  · exact .inr ⟨id, [], rfl, by simpa using hid, fun x hx => by simp at hx, by simp⟩
theorem loadRowZ {h : H} {l : List T} {rest : List AV} {id k : Nat} (hid : h[id]? = some (.cells (cellsT l ++ rest) .live)) (hk : k < l.length) : loadV C.P h 25 (.ptr id (4 * k)) = some (enc l[k]) := by
  have e1 := cellsT_split hk
  have e2 := cellsT_len (l.take k)
  have e3 : (l.take k).length = k := by simp; omega
  rw [e3] at e2
  have e5 : ((cellsT l ++ rest).drop (4 * k)).take 4 = (enc l[k]).cells := by
    rw [e1, List.append_assoc, List.append_assoc, List.drop_append_of_le_length (by omega), ← e2, List.drop_length, List.nil_append, List.take_append_of_le_length (by simp [enc_cells])]
    simp [enc_cells]
  have e6 := cellsT_len l
  have e7 : (cellsT l ++ rest).length = 4 * l.length + rest.length := by rw [List.length_append, e6]
  simp only [loadV, hid, cellsAt, a25, s25]
  simp only [e5, e7]
  rw [if_pos (by omega)]
  simp only [enc_cells]; rw [enc_eq]
theorem storeRowZ {h : H} {l : List T} {rest : List AV} {id k : Nat} (x : T) (hid : h[id]? = some (.cells (cellsT l ++ rest) .live)) (hk : k < l.length) : storeV C.P h 25 (.ptr id (4 * k)) (enc x) = some (h.set id (.cells (cellsT (l.set k x) ++ rest) .live)) := by
  have e2 := cellsT_len (l.take k)
  have e3 : (l.take k).length = k := by simp; omega
  rw [e3] at e2
  have e6 := cellsT_len l
  have e7 : cellsT (l.set k x) = (cellsT l).take (4 * k) ++ (enc x).cells ++ (cellsT l).drop (4 * k + 4) := by
    have e1 := cellsT_split hk
    have e8 := cellsT_split (l := l.set k x) (k := k) (by simpa using hk)
    rw [e8]
    have a1 : (cellsT l).take (4 * k) = cellsT (l.take k) := by rw [e1, List.append_assoc, List.take_append_of_le_length (by omega), List.take_of_length_le (by omega)]
    have a2 : (cellsT l).drop (4 * k + 4) = cellsT (l.drop (k + 1)) := by
      rw [e1, List.drop_append]
      have : (cellsT (l.take k) ++ (enc l[k]).cells).length = 4 * k + 4 := by simp [e2, enc_cells]
      rw [this, List.drop_of_length_le (by omega)]; simp
    rw [a1, a2, List.take_set_of_le (by omega), List.drop_set_of_lt (by omega)]; simp
  have e9 : (cellsT l ++ rest).length = 4 * l.length + rest.length := by rw [List.length_append, e6]
  rw [e7]
  simp only [storeV, hid, s25]
  rw [enc_eq]
  simp only [List.length_cons, List.length_nil, e9]
  rw [if_pos ⟨trivial, by omega⟩, List.take_append_of_le_length (by omega), List.drop_append_of_le_length (by omega)]
  simp [cells_agg, List.append_assoc]
theorem zcells : Zs zc := fun x hx => by
  simp only [zc, List.mem_cons, List.not_mem_nil, or_false] at hx
  rcases hx with rfl | rfl | rfl | rfl <;> simp
/-- Emptying a row from k on. -/
theorem clearRowZ {h : H} {l : List T} {rest : List AV} {id k : Nat} (hid : h[id]? = some (.cells (cellsT l ++ rest) .live)) (hk : k ≤ l.length) (hz : Zs rest) :
    ∃ rest', clearV C.P h 23 (.msl id (4 * k) 4 (l.length - k) none) = some (h.set id (.cells (cellsT (l.take k) ++ rest') .live)) ∧ Zs rest' ∧ 4 * k + rest'.length = 4 * l.length + rest.length := by
  have e6 := cellsT_len l
  have e9 : (cellsT l ++ rest).length = 4 * l.length + rest.length := by rw [List.length_append, e6]
  have e1 : (cellsT l).take (4 * k) = cellsT (l.take k) := by
    have h1 : cellsT l = cellsT (l.take k) ++ cellsT (l.drop k) := by
      unfold cellsT
      rw [← List.flatMap_append, List.take_append_drop]
    have h2 := cellsT_len (l.take k)
    rw [h1, List.take_append_of_le_length (by rw [h2]; simp; omega), List.take_of_length_le (by rw [h2]; simp; omega)]
  refine ⟨(List.replicate (l.length - k) zc).flatten ++ rest, ?_, ?_, by simp [zc]; omega⟩
  · simp only [clearV, u23, hid, zv25, s25, cells_agg, e9]
    rw [if_pos ⟨trivial, by omega⟩, List.take_append_of_le_length (by omega), e1, List.drop_append, List.drop_of_length_le (by omega : (cellsT l).length ≤ 4 * k + (l.length - k) * 4)]
    rw [show 4 * k + (l.length - k) * 4 - (cellsT l).length = 0 by omega]
    simp [zc, List.append_assoc]
  · intro x hx
    rcases List.mem_append.1 hx with hx | hx
    · simp only [List.mem_flatten, List.mem_replicate] at hx
      obtain ⟨m, ⟨_, rfl⟩, hx⟩ := hx
      exact zcells x hx
    · exact hz x hx
theorem same219 (a b : T) (hs : a.size < 4000000) (hs2 : b.size < 4000000) : CallP C 219 [enc a, enc b] = some (.bool (decide (a.cmp b = 0))) := by
  refine CallP_W rfl Tryz.func219 rfl (by kernel_rfl) (by simp [Tryz.f219]) fun R hR => ?_
  have q := call112 a b hs hs2
  simp [go_sem, box2, two_a, two_b, q]
  refine hR _ _ _ (.inr rfl) ⟨_, rfl, ?_⟩
  simp [go_sem]; exact snap_dat rfl rfl
theorem call219 (a b : T) (hs : a.size < 4000000) (hs2 : b.size < 4000000) (h : H) : callV C h (.func 219 []) (some [enc a, enc b]) = some (.bool (decide (a.cmp b = 0)), h) := callV_strip (by kernel_rfl) rfl (dat_enc2 _ _) (by simp [short_enc]) (by simp) (same219 a b hs hs2)
theorem same62 (a b : T) (hs : a.size < 4000000) (hs2 : b.size < 4000000) : CallP C 62 [enc a, enc b] = some (.bool (decide (a.cmp b = 0))) := by
  refine CallP_W rfl Tryz.func62 rfl (by kernel_rfl) (by simp [Tryz.f62]) fun R hR => ?_
  have q := call112 a b hs hs2
  simp [go_sem, box2, two_a, two_b, q]
  refine hR _ _ _ (.inr rfl) ⟨_, rfl, ?_⟩
  simp [go_sem]; exact snap_dat rfl rfl
theorem call62 (a b : T) (hs : a.size < 4000000) (hs2 : b.size < 4000000) (h : H) : callV C h (.func 62 []) (some [enc a, enc b]) = some (.bool (decide (a.cmp b = 0)), h) := callV_strip (by kernel_rfl) rfl (dat_enc2 _ _) (by simp [short_enc]) (by simp) (same62 a b hs hs2)
theorem idxRow4 {id o n k : Nat} (hk : k < n) : indexAddrV C.P 23 (.msl id (4 * o) 4 n none) (.int .i64 k) = some (.ptr id (4 * (o + k))) := by
  simp [indexAddrV, u23, s25, hk]; omega
theorem bnd_ok {n k : Nat} (hk : k ≤ n) : bndV n (.int .i64 k) = some k := by
  unfold bndV
  dsimp only
  rw [if_pos ⟨by omega, by omega⟩]; simp
theorem sliceLo {id n k : Nat} (hk : k < n) : sliceV C.P 23 (.msl id 0 4 n none) (some (.int .i64 k)) none none = some (.msl id (4 * k) 4 (n - k) none) := by
  have e := bnd_ok (Nat.le_of_lt hk)
  by_cases h0 : k = 0
  · subst h0; simp only [Int.natCast_zero] at e ⊢; simp [sliceV, u23, s25, bndO, e]
  · simp [sliceV, u23, s25, bndO, e, h0, hk]; omega
theorem sliceHi {id n k : Nat} (hk : k ≤ n) : sliceV C.P 23 (.msl id 0 4 n none) none (some (.int .i64 k)) none = some (.msl id 0 4 k none) := by
  have e := bnd_ok hk
  simp [sliceV, u23, s25, bndO, e]
end Go.VZ
