/- The examples of chapter 48, joined. -/
import Derived.Test.YtdoegkegjaadeaaGreatDoorQSxqh
import Derived.Test.YtdoegkegjaadeaaGreatDoorQSxqi
import Derived.Test.YtdoegkegjaadeaaGreatDoorQSxqj
import Derived.Test.YtdoegkegjaadeaaGreatDoorQSxqk
import Derived.Test.YtdoegkegjaadeaaGreatDoorQV34
import Derived.Test.YtdoegkegjaadeaaGreatDoorQSa
import Derived.Test.YtdoegkegjaadeaaGreatDoorQSj
import Derived.Sort.Grow
import Derived.Deep.Draws
import Derived.Shelf.SlSortCmp.NoneTotal
import Derived.Test.YtdoegkegjaadeaaGreatDoorQSf
namespace Go.VZ
open Go Go.V Go.Proofs Go.RowKit
theorem callV_K {f : FuncId} {args args' : List AV} {v : AV} (hb : hasBody CK.P f = true) (hm : CK.mode f = .strip) (hd : dats args = some args') (hs : args.all short = true) (hl : args.length < 90000)
    (hc : CallP CK f args' = some v) (h : H) : callV CK h (.func f []) (some args) = some (v, h) := by
  simp only [callV, hb, if_true, List.append_nil]
  rw [applyCall_strip hm hd hs hl, hc]
def sK1 : AV := .str ⟨#[97, 116, 116, 40, 107, 58, 97, 110, 121, 41]⟩
theorem ku52 : CK.P.underlying 52 = some (.slice 9) := Tryz.underlying52
theorem ku23 : CK.P.underlying 23 = some (.slice 25) := Tryz.underlying23
theorem ku42 : ∃ e, CK.P.underlying 42 = some (.slice e) := ⟨_, Tryz.underlying42⟩
theorem ks9 : sizeV CK.P 9 = some 1 := by kernel_rfl
theorem ks25 : sizeV CK.P 25 = some 4 := by kernel_rfl
theorem ks35 : sizeV CK.P 35 = some 3 := by kernel_rfl
theorem kz9 : zeroOk CK.P 9 = true := by kernel_rfl
theorem kz25 : zeroOk CK.P 25 = true := by kernel_rfl
theorem ka35 : isAggB CK.P 35 = some true := by kernel_rfl
theorem kzv35 : zeroV CK.P 35 = some (.agg [.int .i64 0, .int .i64 0, .isl [] .full]) := by kernel_rfl
theorem kb52 (h : H) (a : ByteArray) : buildSliceV CK.P h 52 1 [(0, .str a)] = some (.isl [.str a] .full, h) := buildSlice_dats ku52 ks9 kz9 rfl (by omega) rfl rfl rfl (by simp) rfl
theorem kb52b (h : H) (a b : ByteArray) : buildSliceV CK.P h 52 2 [(0, .str a), (1, .str b)] = some (.isl [.str a, .str b] .full, h) := buildSlice_dats ku52 ks9 kz9 rfl (by omega) rfl rfl rfl (by simp) rfl
theorem kb23 (h : H) : buildSliceV CK.P h 23 1 [(0, tA)] = some (.isl [tA] .full, h) := buildSlice_dats ku23 ks25 kz25 rfl (by omega) rfl rfl rfl (by simp) rfl
def fC' : AV := .agg [.int .i64 3, .int .i64 1, .isl [tA] .full]
theorem kbld35 : buildV CK.P 35 [(0, .int .i64 3), (1, .int .i64 1), (2, .isl [tA] .full)] = some fC' := by kernel_rfl
theorem e_a1 : st [97, 116, 116, 40, 107, 58, 97, 110, 121, 41] = .str ⟨#[97, 116, 116, 40, 107, 58, 97, 110, 121, 41]⟩ := by kernel_rfl
theorem e_a2 : st [97, 116, 116, 40, 101, 110, 99, 40, 115, 58, 97, 110, 121, 44, 32, 107, 58, 97, 110, 121, 41, 41] = .str ⟨#[97, 116, 116, 40, 101, 110, 99, 40, 115, 58, 97, 110, 121, 44, 32, 107, 58, 97, 110, 121, 41, 41]⟩ := by kernel_rfl
theorem e_x : st [98, 101, 103, 105, 110, 32, 49, 40, 63, 120, 41, 32, 38, 32, 97, 116, 116, 40, 63, 121, 41, 32, 45, 62, 32, 99, 108, 97, 105, 109, 32, 49, 40, 63, 120, 41] = .str ⟨#[98, 101, 103, 105, 110, 32, 49, 40, 63, 120, 41, 32, 38, 32, 97, 116, 116, 40, 63, 121, 41, 32, 45, 62, 32, 99, 108, 97, 105, 109, 32, 49, 40, 63, 120, 41]⟩ := by kernel_rfl
theorem e_y : st [98, 101, 103, 105, 110, 32, 49, 40, 63, 121, 41, 32, 38, 32, 97, 116, 116, 40, 63, 121, 41, 32, 45, 62, 32, 99, 108, 97, 105, 109, 32, 49, 40, 63, 120, 41] = .str ⟨#[98, 101, 103, 105, 110, 32, 49, 40, 63, 121, 41, 32, 38, 32, 97, 116, 116, 40, 63, 121, 41, 32, 45, 62, 32, 99, 108, 97, 105, 109, 32, 49, 40, 63, 120, 41]⟩ := by kernel_rfl
theorem k25a (h : H) : callV CK h (.func 25 []) (some [.isl [.str ⟨#[97, 116, 116, 40, 107, 58, 97, 110, 121, 41]⟩, .str ⟨#[97, 116, 116, 40, 101, 110, 99, 40, 115, 58, 97, 110, 121, 44, 32, 107, 58, 97, 110, 121, 41, 41]⟩] .full]) = some (lK, h) := callV_K (by kernel_rfl) (by kernel_rfl) (args' := [.isl [.str ⟨#[97, 116, 116, 40, 107, 58, 97, 110, 121, 41]⟩, .str ⟨#[97, 116, 116, 40, 101, 110, 99, 40, 115, 58, 97, 110, 121, 44, 32, 107, 58, 97, 110, 121, 41, 41]⟩] .unk]) rfl rfl (by simp) (by rw [← e_a1, ← e_a2]; exact runIs_CallP read_K) h
theorem k25x (h : H) : callV CK h (.func 25 []) (some [.isl [.str ⟨#[98, 101, 103, 105, 110, 32, 49, 40, 63, 120, 41, 32, 38, 32, 97, 116, 116, 40, 63, 121, 41, 32, 45, 62, 32, 99, 108, 97, 105, 109, 32, 49, 40, 63, 120, 41]⟩] .full]) = some (lX, h) := callV_K (by kernel_rfl) (by kernel_rfl) (args' := [.isl [.str ⟨#[98, 101, 103, 105, 110, 32, 49, 40, 63, 120, 41, 32, 38, 32, 97, 116, 116, 40, 63, 121, 41, 32, 45, 62, 32, 99, 108, 97, 105, 109, 32, 49, 40, 63, 120, 41]⟩] .unk]) rfl rfl (by simp) (by rw [← e_x]; exact runIs_CallP read_X) h
theorem k25y (h : H) : callV CK h (.func 25 []) (some [.isl [.str ⟨#[98, 101, 103, 105, 110, 32, 49, 40, 63, 121, 41, 32, 38, 32, 97, 116, 116, 40, 63, 121, 41, 32, 45, 62, 32, 99, 108, 97, 105, 109, 32, 49, 40, 63, 120, 41]⟩] .full]) = some (lY, h) := callV_K (by kernel_rfl) (by kernel_rfl) (args' := [.isl [.str ⟨#[98, 101, 103, 105, 110, 32, 49, 40, 63, 121, 41, 32, 38, 32, 97, 116, 116, 40, 63, 121, 41, 32, 45, 62, 32, 99, 108, 97, 105, 109, 32, 49, 40, 63, 120, 41]⟩] .unk]) rfl rfl (by simp) (by rw [← e_y]; exact runIs_CallP read_Y) h
theorem k26k (h : H) : callV CK h (.func 26 []) (some [.str ⟨#[107]⟩, .int .i64 0]) = some (tK, h) := callV_K (by kernel_rfl) (by kernel_rfl) rfl rfl (by simp) (by have := runIs_CallP atom_k; rwa [show st [107] = .str ⟨#[107]⟩ by kernel_rfl] at this) h
theorem k26s (h : H) : callV CK h (.func 26 []) (some [.str ⟨#[115]⟩, .int .i64 0]) = some (tS, h) := callV_K (by kernel_rfl) (by kernel_rfl) rfl rfl (by simp) (by have := runIs_CallP atom_s; rwa [show st [115] = .str ⟨#[115]⟩ by kernel_rfl] at this) h
theorem k26a (h : H) : callV CK h (.func 26 []) (some [.str ⟨#[97]⟩, .int .i64 0]) = some (tA, h) := callV_K (by kernel_rfl) (by kernel_rfl) rfl rfl (by simp) (by have := runIs_CallP atom_a; rwa [show st [97] = .str ⟨#[97]⟩ by kernel_rfl] at this) h
theorem k10k (h : H) : callV CK h (.func 10 []) (some [lK, tK]) = some (.tuple [.int .i64 0, .int .i64 0], h) := callV_K (by kernel_rfl) (by kernel_rfl) (by kernel_rfl) (by kernel_rfl) (by simp) (runIs_CallP secret_k) h
theorem k10s (h : H) : callV CK h (.func 10 []) (some [lK, tS]) = some (.tuple [.int .i64 0, .int .i64 15], h) := callV_K (by kernel_rfl) (by kernel_rfl) (by kernel_rfl) (by kernel_rfl) (by simp) (runIs_CallP secret_s) h
theorem k14x (h : H) : callV CK h (.func 14 []) (some [lX, fC']) = some (.tuple [.int .i64 0, .int .i64 15], h) := callV_K (by kernel_rfl) (by kernel_rfl) (args' := [lX, fC]) (by kernel_rfl) (by kernel_rfl) (by simp) (runIs_CallP agree_X) h
theorem k14y (h : H) : callV CK h (.func 14 []) (some [lY, fC']) = some (.tuple [.int .i64 0, .int .i64 0], h) := callV_K (by kernel_rfl) (by kernel_rfl) (args' := [lY, fC]) (by kernel_rfl) (by kernel_rfl) (by simp) (runIs_CallP agree_Y) h
theorem k27 : ∃ x e, ∀ h, callV CK h (.func 27 []) (some [lK, fAtt tK, .int .i64 1]) = some (.tuple [.isl [x] e, .int .i64 0], h) := by
  obtain ⟨x, e, hx⟩ := runOne_CallP tree_k
  exact ⟨x, e, fun h => callV_K (by kernel_rfl) (by kernel_rfl) (by kernel_rfl) (by kernel_rfl) (by simp) hx h⟩
@[go_sem] theorem OWbuildK {C : Cfg} {cf : FuncId} {ops : Array Oper} {d : Tmp} {ty : TypeId} {p : String} {af : Array Edge} {l : List Oper} {s : PT} {h : H} {K : PT → H → Prop} (t : TypeId) (parts : List (Nat × Operand)) :
    OW C cf ops (⟨some d, .build t parts.toArray, ty, p, af, none⟩ :: l) s h K ↔ bO (bi1 (partsV s parts) (buildV C.P t)) fun v => OW C cf ops l (s.set d v) h K := OWn (by simp only [opN, bi1]; cases partsV s parts <;> rfl) rfl rfl
theorem kst35 (a b c : AV) : storeV CK.P [.cells [a, b, c] .live] 35 (.ptr 0 0) fC' = some [.cells fC'.cells .live] := by
  simp [storeV, ks35, fC', AV.cells]
theorem kld35 : loadV CK.P [.cells fC'.cells .live] 35 (.ptr 0 0) = some fC' := by
  simp [loadV, cellsAt, ka35, ks35, fC', AV.cells]
theorem kix22 : indexAddrV CK.P 22 lK (.int .i64 0) = some (.iptr (cl [] 1 0 [tK]) 0) := by kernel_rfl
theorem kfa37 : fieldAddrV CK.P 37 (.iptr (cl [] 1 0 [tK]) 0) 1 = some (.iptr (cl [] 1 0 [tK]) 1) := by kernel_rfl
theorem kld35i (h : H) : loadV CK.P h 35 (.iptr (cl [] 1 0 [tK]) 1) = some (fAtt tK) := by
  simp [loadV, cellsAt, ka35, ks35, cl, fAtt, AV.cells]
theorem klen42 (x : AV) (e : Ext) : lenV CK.P 42 (.isl [x] e) = some (.int .i64 1) := by
  obtain ⟨t, ht⟩ := ku42
  simp [lenV, ht]
theorem mixK5 : CK.mix 7 5 = false := by kernel_rfl
theorem mixK6 : CK.mix 7 6 = false := by kernel_rfl
theorem nts (s : ByteArray) : notTuple (AV.str s) = true := rfl
theorem nta (l : List AV) : notTuple (AV.agg l) = true := rfl
theorem nti (k : IntKind) (n : Int) : notTuple (AV.int k n) = true := rfl
theorem ntl (l : List AV) (x : Ext) : notTuple (AV.isl l x) = true := rfl
set_option maxRecDepth 8000 in
set_option maxHeartbeats 4000000 in
theorem awake48 : CallP CK 7 [] = some (.bool true) := by
  refine CallP_W rfl Tryz.func7 rfl (by kernel_rfl) (by simp [Tryz.f7]) fun R hR => ?_
  obtain ⟨tx, te, k27⟩ := k27
  simp [go_sem, initS, kb52, kb52b, kb23, nts, nti, ntl, k25a, k25x, k25y, k26k, k26s, k26a, k10k, k10s, k14x, k14y, kbld35, kzv35, k27, kst35, kld35, kix22, kfa37, kld35i, klen42, mixK5, mixK6, cells_agg, show notTuple tA = true from rfl]
  refine hR _ _ _ (.inr rfl) ⟨.bool true, by simp [resultV, resV, Tryz.f7, go_sem], snap_dat rfl rfl⟩
/-- The examples of chapter 48 hold, wherever the words are laid. -/
theorem awake48_calls {w : World} (hg : GlobR (fun _ _ => True) w) : Calls Tryz.prog 7 #[] w fun e w' => e = .returned (.bool true) ∧ Grows w w' := by
  have hc := awake48
  unfold CallP at hc
  split at hc <;> first | (cases hc; done) | skip
  rename_i r h1 hx
  refine ((Call_ok (C := CK) good primK_ok).fn 7 [] [] r h1 (by kernel_rfl) hx w.heap.size (fun _ _ => True) [] w #[] (.start hg) rfl (fun i a v ha => by simp at ha)).mono ?_
  rintro e w' ⟨v, rfl, σ', k1, k2, k3⟩
  have hs := snap_sound (k1.stiller (freezeAll_stiller h1)) deep r (.bool true) v hc (k3.step (.stiller k1 (freezeAll_stiller h1)))
  cases hs
  exact ⟨rfl, of_below k2.below k2.drawn⟩
end Go.VZ

/- The value machine at the program of this seat, without contracts proved by hand: for term.Compare alone. -/
namespace Go.VP
open Go Go.V Go.Proofs TL
open Go.VZ (enc encs encs_map terms enc_eq enc_cells cells_agg ext ext_ok)
noncomputable def C : Cfg := { P := Tryz.prog, mode := fun _ => .strip, wr := fun _ _ => false, prim := fun _ _ _ => none, ext := ext, extOk := ext_ok, mix := fun _ _ => false }
@[go_sem] theorem wrC (f : FuncId) (t : Tmp) : C.wr f t = false := (rfl)
@[go_sem] theorem mixC (f : FuncId) (i : Nat) : C.mix f i = false := (rfl)
theorem u23 : C.P.underlying 23 = some (.slice 25) := Tryz.underlying23
theorem u25 : ∃ x, C.P.underlying 25 = some (.struct x) := ⟨_, Tryz.underlying25⟩
theorem s3 : sizeV C.P 3 = some 1 := by kernel_rfl
theorem s9 : sizeV C.P 9 = some 1 := by kernel_rfl
theorem s23 : sizeV C.P 23 = some 1 := by kernel_rfl
theorem s25 : sizeV C.P 25 = some 4 := by kernel_rfl
theorem a3 : isAggB C.P 3 = some false := by kernel_rfl
theorem a9 : isAggB C.P 9 = some false := by kernel_rfl
theorem a23 : isAggB C.P 23 = some false := by kernel_rfl
theorem a25 : isAggB C.P 25 = some true := by kernel_rfl
attribute [go_sem] u23 s3 s9 s23 s25 a3 a9 a23 a25
theorem len23 (es : List AV) (x : Ext) : lenV C.P 23 (.isl es x) = some (.int .i64 es.length) := by simp [lenV, u23]
theorem idx23 (l : List T) (k : Nat) (hk : k < l.length) (x : Ext) : indexAddrV C.P 23 (.isl (l.map enc) x) (.int .i64 k) = some (.iptr (enc l[k]) 0) := by
  simp [indexAddrV, u23, s25, enc_cells, hk]
theorem ld25 (t : T) (h : H) : loadV C.P h 25 (.iptr (enc t) 0) = some (enc t) := by
  simp [loadV, cellsAt, a25, s25, enc_cells]; rw [enc_eq]
end Go.VP

/- Sizes: the program's and the document's. -/
namespace Go.VP
open Go Go.V Go.Proofs TL
open Go.VZ (enc encs encs_map terms enc_eq enc_cells cells_agg ext ext_ok)
theorem fa25_0 (i : Nat) : fieldAddrV C.P 25 (.ptr i 0) 0 = some (.ptr i 0) := by kernel_rfl
theorem fa25_1 (i : Nat) : fieldAddrV C.P 25 (.ptr i 0) 1 = some (.ptr i 1) := by kernel_rfl
theorem fa25_2 (i : Nat) : fieldAddrV C.P 25 (.ptr i 0) 2 = some (.ptr i 2) := by kernel_rfl
theorem fa25_3 (i : Nat) : fieldAddrV C.P 25 (.ptr i 0) 3 = some (.ptr i 3) := by kernel_rfl
attribute [go_sem] fa25_0 fa25_1 fa25_2 fa25_3
theorem callV_strip {f : FuncId} {args args' : List AV} {v : AV} {h : H} (hb : hasBody C.P f = true) (hm : C.mode f = .strip) (hd : dats args = some args') (hs : args.all short = true) (hl : args.length < 90000)
    (hc : CallP C f args' = some v) : callV C h (.func f []) (some args) = some (v, h) := by
  simp only [callV, hb, if_true, List.append_nil]
  rw [applyCall_strip hm hd hs hl, hc]
theorem dat_enc (t : T) : dats [enc t] = some [enc t] := by rw [enc_eq]; rfl
theorem short_enc (t : T) : short (enc t) = true := by rw [enc_eq]; rfl
theorem box25 (t : T) (h : H) : boxV C.P h 25 (enc t) = some (.ptr h.length 0, h ++ [.cells [.int .i64 t.kind, .str t.name, .int .i64 t.sort, terms t.kids] .live]) := by
  simp [boxV, s25, enc_cells]; rw [enc_eq]; rfl
attribute [go_sem] box25
def NI144 (t : T) (n : Nat) (s : PT) (h : H) : Prop := ∃ k : Nat, n = t.kids.length - k ∧ k ≤ t.kids.length ∧ h = [.cells [.int .i64 t.kind, .str t.name, .int .i64 t.sort, terms t.kids] .live] ∧ s.get 1 = .ptr 0 0 ∧ s.get 3 = .int .i64 (sizes (t.kids.take k) + 1 : Nat) ∧ s.get 4 = .int .i64 k
theorem ld23 (t : T) : loadV C.P [.cells [.int .i64 t.kind, .str t.name, .int .i64 t.sort, terms t.kids] .live] 23 (.ptr 0 3) = some (terms t.kids) := by
  simp [loadV, cellsAt, a23, s23]
set_option maxHeartbeats 1000000 in
theorem size144 (t : T) (hc : ∀ k ∈ t.kids, CallP C 144 [enc k] = some (.int .i64 k.size)) (hs : t.size < 4000000) : CallP C 144 [enc t] = some (.int .i64 t.size) := by
  refine CallP_W rfl Tryz.func144 rfl (by kernel_rfl) (by simp [Tryz.f144]) fun R hR => ?_
  have hsz : t.size = sizes t.kids + 1 := by cases t; rfl
  simp [go_sem]
  refine W_loop (NI144 t) t.kids.length ⟨0, by simp [go_sem, sizes]⟩ ?_
  rintro n s h ⟨k, rfl, hk, rfl, g1, g3, g4⟩
  have g25 := ld23 t
  by_cases hlt : k < t.kids.length
  · have hlt' : (k : Int) < t.kids.length := by omega
    have hix := idx23 t.kids k hlt .unk
    have hck : ∀ h, callV C h (.func 144 []) (some [enc t.kids[k]]) = some (.int .i64 t.kids[k].size, h) := fun h => callV_strip (by kernel_rfl) rfl (dat_enc _) (by simp [short_enc]) (by simp) (hc _ (List.getElem_mem hlt))
    have e1 := take_sizes hlt
    have e2 := take_sizes_le t.kids (k + 1)
    have e3 := len_sizes t.kids
    have w1 : IntKind.i64.wrap ((sizes (t.kids.take k) + 1 : Nat) + (t.kids[k].size : Int)) = (sizes (t.kids.take (k + 1)) + 1 : Nat) := by rw [wrap_in (by omega)]; omega
    have w2 : IntKind.i64.wrap ((k : Int) + 1) = ((k + 1 : Nat) : Int) := by rw [wrap_in (by omega)]; omega
    generalize hz : sizes (t.kids.take k) + 1 = z at *
    simp only [terms] at g25
    simp [go_sem, g1, g3, g4, g25, terms, len23, hlt', hix, ld25, hck, -Int.natCast_add, w1, w2]
    refine ⟨t.kids.length - (k + 1), by omega, k + 1, rfl, hlt, ?_⟩
    simp [go_sem, g1, terms]
  · have : k = t.kids.length := by omega
    subst this
    rw [List.take_length, ← hsz] at g3
    generalize t.size = z at *
    simp only [terms] at g25
    simp [go_sem, g1, g3, g4, g25, terms, len23]
    refine hR _ _ _ (.inr rfl) ⟨_, rfl, ?_⟩
    simp [go_sem, hsz]
    exact snap_dat rfl rfl
theorem size144_all (t : T) : t.size < 4000000 → CallP C 144 [enc t] = some (.int .i64 t.size) := by
  induction t using T.ind with
  | _ t ih => exact fun hs => size144 t (fun k hk => ih k hk (by have := kid_size hk; omega)) hs
def NI172 (t : T) (n : Nat) (s : PT) (_h : H) : Prop := ∃ k : Nat, n = t.kids.length - k ∧ k ≤ t.kids.length ∧ s.get 7 = terms t.kids ∧ s.get 8 = .int .i64 t.kids.length ∧ s.get 3 = .int .i64 (sizes (t.kids.take k) + 1 : Nat) ∧ s.get 9 = .int .i64 k
theorem zv25 : zeroV C.P 25 = some (.agg [.int .i64 0, .str ⟨#[]⟩, .int .i64 0, .isl [] .full]) := by kernel_rfl
attribute [go_sem] zv25
theorem st25 (t : T) (a b c d : AV) (h : H) : storeV C.P (h ++ [.cells [a, b, c, d] .live]) 25 (.ptr h.length 0) (enc t) = some (h ++ [.cells [.int .i64 t.kind, .str t.name, .int .i64 t.sort, terms t.kids] .live]) := by
  simp [storeV, s25]; rw [enc_eq]; rfl
theorem ldb25 (t : T) (h : H) : loadV C.P (h ++ [.cells [.int .i64 t.kind, .str t.name, .int .i64 t.sort, terms t.kids] .live]) 25 (.ptr h.length 0) = some (enc t) := by
  simp [loadV, cellsAt, a25, s25]; rw [enc_eq]
set_option maxHeartbeats 1000000 in
theorem size172 (t : T) (hc : ∀ k ∈ t.kids, CallP C 172 [enc k] = some (.int .i64 k.size)) (hs : t.size < 4000000) : CallP C 172 [enc t] = some (.int .i64 t.size) := by
  refine CallP_W rfl Tryz.func172 rfl (by kernel_rfl) (by simp [Tryz.f172]) fun R hR => ?_
  have hsz : t.size = sizes t.kids + 1 := size_kids t
  have g25 := ld23 t
  simp only [terms] at g25
  simp [go_sem, g25, terms, len23]
  refine W_loop (NI172 t) t.kids.length ⟨0, by simp [go_sem, sizes, terms]⟩ ?_
  rintro n s h ⟨k, rfl, hk, g7, g8, g3, g9⟩
  by_cases hlt : k < t.kids.length
  · have hlt' : (k : Int) < t.kids.length := by omega
    have hix := idx23 t.kids k hlt .unk
    have hck : ∀ h, callV C h (.func 172 []) (some [enc t.kids[k]]) = some (.int .i64 t.kids[k].size, h) := fun h => callV_strip (by kernel_rfl) rfl (dat_enc _) (by simp [short_enc]) (by simp) (hc _ (List.getElem_mem hlt))
    have e1 := take_sizes hlt
    have e2 := take_sizes_le t.kids (k + 1)
    have e3 := len_sizes t.kids
    have w1 : IntKind.i64.wrap ((sizes (t.kids.take k) + 1 : Nat) + (t.kids[k].size : Int)) = (sizes (t.kids.take (k + 1)) + 1 : Nat) := by rw [wrap_in (by omega)]; omega
    have w2 : IntKind.i64.wrap ((k : Int) + 1) = ((k + 1 : Nat) : Int) := by rw [wrap_in (by omega)]; omega
    generalize hz : sizes (t.kids.take k) + 1 = z at *
    simp only [terms] at g7
    simp [go_sem, g7, g8, g3, g9, hlt', hix, ld25, st25, ldb25, hck, -Int.natCast_add, w1, w2]
    refine ⟨t.kids.length - (k + 1), by omega, k + 1, rfl, hlt, ?_⟩
    simp [go_sem, g7, g8, terms]
  · have : k = t.kids.length := by omega
    subst this
    rw [List.take_length, ← hsz] at g3
    generalize t.size = z at *
    simp [go_sem, g8, g3, g9]
    refine hR _ _ _ (.inr rfl) ⟨_, rfl, ?_⟩
    simp [go_sem]
    exact snap_dat rfl rfl
theorem size172_all (t : T) : t.size < 4000000 → CallP C 172 [enc t] = some (.int .i64 t.size) := by
  induction t using T.ind with
  | _ t ih => exact fun hs => size172 t (fun k hk => ih k hk (by have := kid_size hk; omega)) hs
end Go.VP

/- Numbers and names compared. -/
namespace Go.VP
open Go Go.V Go.Proofs TL
open Go.VZ (enc encs encs_map terms enc_eq enc_cells cells_agg ext ext_ok)
theorem sign_call (a b : Int) : CallP C 171 [.int .i64 a, .int .i64 b] = some (.int .i64 (sgn a b)) := by
  refine CallP_W rfl Tryz.func171 rfl (by kernel_rfl) (by simp [Tryz.f171]) fun R hR => ?_
  by_cases h1 : a < b
  · simp [go_sem, h1]
    refine hR _ _ _ (.inr rfl) ⟨_, rfl, ?_⟩
    simp [go_sem, sgn, h1]; exact snap_dat rfl rfl
  · by_cases h2 : b < a
    · simp [go_sem, h1, h2]
      refine hR _ _ _ (.inr rfl) ⟨_, rfl, ?_⟩
      simp [go_sem, sgn, h1, h2]; exact snap_dat rfl rfl
    · simp [go_sem, h1, h2]
      refine hR _ _ _ (.inr rfl) ⟨_, rfl, ?_⟩
      simp [go_sem, sgn, h1, h2]; exact snap_dat rfl rfl
theorem number_call (a b : Int) : CallP C 176 [.int .i64 a, .int .i64 b] = some (.int .i64 (sgn a b)) := by
  refine CallP_W rfl Tryz.func176 rfl (by kernel_rfl) (by simp [Tryz.f176]) fun R hR => ?_
  by_cases h1 : a < b
  · simp [go_sem, h1]
    refine hR _ _ _ (.inr rfl) ⟨_, rfl, ?_⟩
    simp [go_sem, sgn, h1]; exact snap_dat rfl rfl
  · by_cases h2 : b < a
    · simp [go_sem, h1, h2]
      refine hR _ _ _ (.inr rfl) ⟨_, rfl, ?_⟩
      simp [go_sem, sgn, h1, h2]; exact snap_dat rfl rfl
    · simp [go_sem, h1, h2]
      refine hR _ _ _ (.inr rfl) ⟨_, rfl, ?_⟩
      simp [go_sem, sgn, h1, h2]; exact snap_dat rfl rfl
theorem call171 (a b : Int) (h : H) : callV C h (.func 171 []) (some [.int .i64 a, .int .i64 b]) = some (.int .i64 (sgn a b), h) := callV_strip (by kernel_rfl) rfl rfl rfl (by simp) (sign_call a b)
theorem call176 (a b : Int) (h : H) : callV C h (.func 176 []) (some [.int .i64 a, .int .i64 b]) = some (.int .i64 (sgn a b), h) := callV_strip (by kernel_rfl) rfl rfl rfl (by simp) (number_call a b)
theorem call287 (a b : ByteArray) (h : H) : callV C h (.func 287 []) (some [.str a, .str b]) = some (.int .i64 (Lib.compareBytes a.data.toList b.data.toList), h) := by
  have hb : hasBody C.P 287 = false := by kernel_rfl
  simp only [callV, hb]
  rfl
theorem cmpstring_call (a b : ByteArray) : CallP C 233 [.str a, .str b] = some (.int .i64 (Lib.compareBytes a.data.toList b.data.toList)) := by
  refine CallP_W rfl Tryz.func233 rfl (by kernel_rfl) (by simp [Tryz.f233]) fun R hR => ?_
  simp [go_sem, call287]
  refine hR _ _ _ (.inr rfl) ⟨_, rfl, ?_⟩
  simp [go_sem]; exact snap_dat rfl rfl
theorem call233 (a b : ByteArray) (h : H) : callV C h (.func 233 []) (some [.str a, .str b]) = some (.int .i64 (Lib.compareBytes a.data.toList b.data.toList), h) := callV_strip (by kernel_rfl) rfl rfl rfl (by simp) (cmpstring_call a b)
theorem compare_call (a b : ByteArray) : CallP C 173 [.str a, .str b] = some (.int .i64 (Lib.compareBytes a.data.toList b.data.toList)) := by
  refine CallP_W rfl Tryz.func173 rfl (by kernel_rfl) (by simp [Tryz.f173]) fun R hR => ?_
  simp [go_sem, call233]
  refine hR _ _ _ (.inr rfl) ⟨_, rfl, ?_⟩
  simp [go_sem]; exact snap_dat rfl rfl
theorem call173 (a b : ByteArray) (h : H) : callV C h (.func 173 []) (some [.str a, .str b]) = some (.int .i64 (Lib.compareBytes a.data.toList b.data.toList), h) := callV_strip (by kernel_rfl) rfl rfl rfl (by simp) (compare_call a b)
theorem call144 (t : T) (hs : t.size < 4000000) (h : H) : callV C h (.func 144 []) (some [enc t]) = some (.int .i64 t.size, h) := callV_strip (by kernel_rfl) rfl (dat_enc _) (by simp [short_enc]) (by simp) (size144_all t hs)
theorem call172 (t : T) (hs : t.size < 4000000) (h : H) : callV C h (.func 172 []) (some [enc t]) = some (.int .i64 t.size, h) := callV_strip (by kernel_rfl) rfl (dat_enc _) (by simp [short_enc]) (by simp) (size172_all t hs)
theorem less_cb (a b : ByteArray) : Op.bytesLess a.toList b.toList = decide (Lib.compareBytes a.data.toList b.data.toList = -1) := by
  rw [Lib.toList_data, Lib.toList_data]
  generalize a.data.toList = x
  generalize b.data.toList = y
  induction x generalizing y with
  | nil => cases y <;> simp [Op.bytesLess, Lib.compareBytes]
  | cons c x ih =>
    cases y with
    | nil => simp [Op.bytesLess, Lib.compareBytes]
    | cons d y =>
      rw [Op.bytesLess, Lib.compareBytes, ih]
      by_cases h1 : c < d
      · simp [h1]
      · by_cases h2 : d < c
        · have : c ≠ d := fun e => by subst e; exact h1 h2
          simp [h1, h2, this]
        · have : c = d := by
            simp only [UInt8.lt_iff_toNat_lt] at h1 h2
            exact UInt8.toNat_inj.mp (by omega)
          subst this
          simp [h1]
theorem eq_cb (a b : ByteArray) : (a.toList == b.toList) = decide (Lib.compareBytes a.data.toList b.data.toList = 0) := by
  rw [Lib.toList_data, Lib.toList_data]
  simp only [cb_zero]
  by_cases h : a.data.toList = b.data.toList
  · rw [decide_eq_true h, h]; simp
  · rw [decide_eq_false h]; exact beq_eq_false_iff_ne.mpr h
def ncmp (a b : ByteArray) : Int := Lib.compareBytes a.data.toList b.data.toList
theorem lss_str (x y : Operand) (a b : ByteArray) : binV C.P .lss 9 x y (.str a) (.str b) = some (.bool (decide (ncmp a b = -1))) := by
  have e : pureVal C.P (do eqGuard BinOp.lss 9 x y (.string a) (.string b); binOp .lss 9 (.string a) (.string b)) = some (.bool (Op.bytesLess a.toList b.toList)) := by
    simp [eqGuard, binOp, Op.stringOp]
    try rfl
  simp only [binV, toVal, toScalar, e, ofConst, ofScalar, less_cb, ncmp]
  congr
theorem gtr_str (x y : Operand) (a b : ByteArray) : binV C.P .gtr 9 x y (.str a) (.str b) = some (.bool (decide (ncmp a b = 1))) := by
  have e : pureVal C.P (do eqGuard BinOp.gtr 9 x y (.string a) (.string b); binOp .gtr 9 (.string a) (.string b)) = some (.bool (!(Op.bytesLess a.toList b.toList || a.toList == b.toList))) := by
    simp [eqGuard, binOp, Op.stringOp]
    try rfl
  simp only [binV, toVal, toScalar, e, ofConst, ofScalar, less_cb, eq_cb, ncmp]
  rcases cb_range a.data.toList b.data.toList with h | h | h <;> simp [h]
end Go.VP

/- Terms compared: the document's way. -/
namespace Go.VP
open Go Go.V Go.Proofs TL
open Go.VZ (enc encs encs_map terms enc_eq enc_cells cells_agg ext ext_ok)
def two (a b : T) : H := [.cells [.int .i64 a.kind, .str a.name, .int .i64 a.sort, terms a.kids] .live, .cells [.int .i64 b.kind, .str b.name, .int .i64 b.sort, terms b.kids] .live]
theorem two_a (a b : T) : loadV C.P (two a b) 25 (.ptr 0 0) = some (enc a) := by simp [two, loadV, cellsAt, a25, s25]; rw [enc_eq]
theorem two_b (a b : T) : loadV C.P (two a b) 25 (.ptr 1 0) = some (enc b) := by simp [two, loadV, cellsAt, a25, s25]; rw [enc_eq]
theorem two_a0 (a b : T) : loadV C.P (two a b) 3 (.ptr 0 0) = some (.int .i64 a.kind) := by simp [two, loadV, cellsAt, a3, s3]
theorem two_b0 (a b : T) : loadV C.P (two a b) 3 (.ptr 1 0) = some (.int .i64 b.kind) := by simp [two, loadV, cellsAt, a3, s3]
theorem two_a1 (a b : T) : loadV C.P (two a b) 9 (.ptr 0 1) = some (.str a.name) := by simp [two, loadV, cellsAt, a9, s9]
theorem two_b1 (a b : T) : loadV C.P (two a b) 9 (.ptr 1 1) = some (.str b.name) := by simp [two, loadV, cellsAt, a9, s9]
theorem two_a2 (a b : T) : loadV C.P (two a b) 3 (.ptr 0 2) = some (.int .i64 a.sort) := by simp [two, loadV, cellsAt, a3, s3]
theorem two_b2 (a b : T) : loadV C.P (two a b) 3 (.ptr 1 2) = some (.int .i64 b.sort) := by simp [two, loadV, cellsAt, a3, s3]
theorem two_a3 (a b : T) : loadV C.P (two a b) 23 (.ptr 0 3) = some (.isl (a.kids.map enc) .unk) := by simp [two, loadV, cellsAt, a23, s23, terms]
theorem two_b3 (a b : T) : loadV C.P (two a b) 23 (.ptr 1 3) = some (.isl (b.kids.map enc) .unk) := by simp [two, loadV, cellsAt, a23, s23, terms]
theorem box2 (a b : T) : boxV C.P [.cells [.int .i64 a.kind, .str a.name, .int .i64 a.sort, terms a.kids] .live] 25 (enc b) = some (.ptr 1 0, two a b) := by rw [box25]; rfl
theorem cmp_eq (a b : T) : a.cmp b = thn (sgn a.size b.size) (thn (sgn a.kind b.kind) (thn (Lib.compareBytes a.name.data.toList b.name.data.toList) (thn (sgn a.sort b.sort) (thn (sgn a.kids.length b.kids.length) (cmps a.kids b.kids))))) := by
  cases a; cases b; rw [T.cmp]; rfl
theorem dat_enc2 (a b : T) : dats [enc a, enc b] = some [enc a, enc b] := by rw [enc_eq a, enc_eq b]; rfl
def NI118 (a b : T) (n : Nat) (s : PT) (h : H) : Prop := ∃ k : Nat, n = a.kids.length - k ∧ k ≤ a.kids.length ∧ h = two a b ∧ s.get 2 = .ptr 0 0 ∧ s.get 3 = .ptr 1 0 ∧ s.get 9 = .int .i64 k ∧ cmps (a.kids.drop k) (b.kids.drop k) = cmps a.kids b.kids
set_option maxHeartbeats 2000000 in
theorem cmp118 (a b : T) (hs : a.size < 4000000) (hs2 : b.size < 4000000) (hc : ∀ k ∈ a.kids, ∀ m ∈ b.kids, CallP C 118 [enc k, enc m] = some (.int .i64 (k.cmp m))) : CallP C 118 [enc a, enc b] = some (.int .i64 (a.cmp b)) := by
  refine CallP_W rfl Tryz.func118 rfl (by kernel_rfl) (by simp [Tryz.f118]) fun R hR => ?_
  have hq := cmp_eq a b
  have q1 := call144 a hs
  have q2 := call144 b hs2
  by_cases h1 : sgn a.size b.size ≠ 0
  · simp [go_sem, box2, two_a, two_b, q1, q2, call176, h1]
    refine hR _ _ _ (.inr rfl) ⟨_, rfl, ?_⟩
    simp [go_sem, hq, thn, h1]; exact snap_dat rfl rfl
  replace h1 := Decidable.not_not.mp h1
  by_cases h2 : sgn a.kind b.kind ≠ 0
  · simp [go_sem, box2, two_a, two_b, two_a0, two_b0, q1, q2, call176, h1, h2]
    refine hR _ _ _ (.inr rfl) ⟨_, rfl, ?_⟩
    simp [go_sem, hq, thn, h1, h2]; exact snap_dat rfl rfl
  replace h2 := Decidable.not_not.mp h2
  by_cases h3 : ncmp a.name b.name = -1
  · simp [go_sem, box2, two_a, two_b, two_a0, two_b0, two_a1, two_b1, q1, q2, call176, h1, h2, lss_str, h3]
    refine hR _ _ _ (.inr rfl) ⟨_, rfl, ?_⟩
    simp only [ncmp] at h3
    simp [go_sem, hq, thn, h1, h2, h3]; exact snap_dat rfl rfl
  by_cases h4 : ncmp a.name b.name = 1
  · simp [go_sem, box2, two_a, two_b, two_a0, two_b0, two_a1, two_b1, q1, q2, call176, h1, h2, lss_str, gtr_str, h4]
    refine hR _ _ _ (.inr rfl) ⟨_, rfl, ?_⟩
    simp only [ncmp] at h4
    simp [go_sem, hq, thn, h1, h2, h4]; exact snap_dat rfl rfl
  have h0 : Lib.compareBytes a.name.data.toList b.name.data.toList = 0 := by
    rcases cb_range a.name.data.toList b.name.data.toList with e | e | e
    · exact absurd e h3
    · exact e
    · exact absurd e h4
  by_cases h5 : sgn a.sort b.sort ≠ 0
  · simp [go_sem, box2, two_a, two_b, two_a0, two_b0, two_a1, two_b1, two_a2, two_b2, q1, q2, call176, h1, h2, lss_str, gtr_str, h3, h4, h5]
    refine hR _ _ _ (.inr rfl) ⟨_, rfl, ?_⟩
    simp [go_sem, hq, thn, h1, h2, h0, h5]; exact snap_dat rfl rfl
  replace h5 := Decidable.not_not.mp h5
  by_cases h6 : sgn a.kids.length b.kids.length ≠ 0
  · simp [go_sem, box2, two_a, two_b, two_a0, two_b0, two_a1, two_b1, two_a2, two_b2, two_a3, two_b3, len23, q1, q2, call176, h1, h2, lss_str, gtr_str, h3, h4, h5, h6]
    refine hR _ _ _ (.inr rfl) ⟨_, rfl, ?_⟩
    simp [go_sem, hq, thn, h1, h2, h0, h5, h6]; exact snap_dat rfl rfl
  replace h6 := Decidable.not_not.mp h6
  have hl : a.kids.length = b.kids.length := by have := sgn_zero.mp h6; omega
  have hq' : a.cmp b = cmps a.kids b.kids := by rw [hq, h1, h2, h0, h5, h6]; rfl
  simp [go_sem, box2, two_a, two_b, two_a0, two_b0, two_a1, two_b1, two_a2, two_b2, two_a3, two_b3, len23, q1, q2, call176, h1, h2, lss_str, gtr_str, h3, h4, h5, h6]
  refine W_loop (NI118 a b) a.kids.length ⟨0, by simp [go_sem]⟩ ?_
  rintro n s h ⟨k, rfl, hk, rfl, g2, g3, g9, hd⟩
  by_cases hlt : k < a.kids.length
  · have hlt' : (k : Int) < a.kids.length := by omega
    have hltb : k < b.kids.length := by omega
    have hix := idx23 a.kids k hlt .unk
    have hiy := idx23 b.kids k hltb .unk
    have hck : ∀ h, callV C h (.func 118 []) (some [enc a.kids[k], enc b.kids[k]]) = some (.int .i64 (a.kids[k].cmp b.kids[k]), h) := fun h => callV_strip (by kernel_rfl) rfl (dat_enc2 _ _) (by simp [short_enc]) (by simp) (hc _ (List.getElem_mem hlt) _ (List.getElem_mem hltb))
    have e3 := len_sizes a.kids
    have e4 := size_kids a
    have w2 : IntKind.i64.wrap ((k : Int) + 1) = ((k + 1 : Nat) : Int) := by rw [wrap_in (by omega)]; omega
    rw [List.drop_eq_getElem_cons hlt, List.drop_eq_getElem_cons hltb, cmps] at hd
    by_cases hz : a.kids[k].cmp b.kids[k] ≠ 0
    · simp [go_sem, g2, g3, g9, two_a3, two_b3, len23, hlt', hix, hiy, ld25, hck, hz]
      refine hR _ _ _ (.inr rfl) ⟨_, rfl, ?_⟩
      rw [thn, if_neg hz] at hd
      simp [go_sem, hq', ← hd]; exact snap_dat rfl rfl
    · replace hz := Decidable.not_not.mp hz
      rw [hz, thn, if_pos rfl] at hd
      simp [go_sem, g2, g3, g9, two_a3, two_b3, len23, hlt', hix, hiy, ld25, hck, hz, -Int.natCast_add, w2]
      refine ⟨a.kids.length - (k + 1), by omega, k + 1, rfl, hlt, rfl, ?_, ?_, ?_, hd⟩ <;> simp [go_sem, g2, g3]
  · have : k = a.kids.length := by omega
    subst this
    rw [List.drop_length, hl, List.drop_length] at hd
    simp [go_sem, g2, g9, two_a3, len23]
    refine hR _ _ _ (.inr rfl) ⟨_, rfl, ?_⟩
    simp [go_sem, hq', ← hd, cmps]; exact snap_dat rfl rfl
theorem cmp118_all (a : T) : ∀ b : T, a.size < 4000000 → b.size < 4000000 → CallP C 118 [enc a, enc b] = some (.int .i64 (a.cmp b)) := by
  induction a using T.ind with
  | _ a ih => exact fun b hs hs2 => cmp118 a b hs hs2 fun k hk m hm => ih k hk m (by have := kid_size hk; omega) (by have := kid_size hm; omega)
theorem call118 (a b : T) (hs : a.size < 4000000) (hs2 : b.size < 4000000) (h : H) : callV C h (.func 118 []) (some [enc a, enc b]) = some (.int .i64 (a.cmp b), h) := callV_strip (by kernel_rfl) rfl (dat_enc2 _ _) (by simp [short_enc]) (by simp) (cmp118_all a b hs hs2)
end Go.VP

/- Terms compared: the program's way. -/
namespace Go.VP
open Go Go.V Go.Proofs TL
open Go.VZ (enc encs encs_map terms enc_eq enc_cells cells_agg ext ext_ok)
/-- What the comparison has come to ahead of the kids. -/
def head (a b : T) : Int := thn (sgn a.size b.size) (thn (sgn a.kind b.kind) (thn (ncmp a.name b.name) (thn (sgn a.sort b.sort) (sgn a.kids.length b.kids.length))))
theorem thn_assoc (a b c : Int) : thn (thn a b) c = thn a (thn b c) := by unfold thn; split <;> simp_all
theorem cmp_head (a b : T) : a.cmp b = thn (head a b) (cmps a.kids b.kids) := by
  rw [cmp_eq, head]; simp only [thn_assoc, ncmp]
def NI112 (a b : T) (n : Nat) (s : PT) (h : H) : Prop := ∃ k : Nat, ∃ c : Int, n = a.kids.length - k ∧ k ≤ a.kids.length ∧ h = two a b ∧ s.get 2 = .ptr 0 0 ∧ s.get 3 = .ptr 1 0 ∧ s.get 6 = .int .i64 k ∧ s.get 5 = .int .i64 c ∧
  (c = 0 → a.kids.length = b.kids.length) ∧ thn c (cmps (a.kids.drop k) (b.kids.drop k)) = a.cmp b
set_option maxHeartbeats 4000000 in
theorem cmp112 (a b : T) (hs : a.size < 4000000) (hs2 : b.size < 4000000) (hc : ∀ k ∈ a.kids, ∀ m ∈ b.kids, CallP C 112 [enc k, enc m] = some (.int .i64 (k.cmp m))) : CallP C 112 [enc a, enc b] = some (.int .i64 (a.cmp b)) := by
  refine CallP_W rfl Tryz.func112 rfl (by kernel_rfl) (by simp [Tryz.f112]) fun R hR => ?_
  have q1 := call172 a hs
  have q2 := call172 b hs2
  have hn : ncmp a.name b.name = Lib.compareBytes a.name.data.toList b.name.data.toList := rfl
  have hl : head a b = 0 → a.kids.length = b.kids.length := fun h => by
    rw [head, thn_zero, thn_zero, thn_zero, thn_zero] at h
    have := sgn_zero.mp h.2.2.2.2; omega
  by_cases h1 : sgn a.size b.size = 0 <;> by_cases h2 : sgn a.kind b.kind = 0 <;> by_cases h3 : ncmp a.name b.name = 0 <;> by_cases h4 : sgn a.sort b.sort = 0
  all_goals
    simp [go_sem, box2, two_a, two_b, two_a0, two_b0, two_a1, two_b1, two_a2, two_b2, two_a3, two_b3, len23, q1, q2, call171, call173, ← hn, h1, h2, h3, h4]
    refine W_loop (NI112 a b) a.kids.length ⟨0, head a b, rfl, Nat.zero_le _, rfl, by simp [go_sem], by simp [go_sem], by simp [go_sem], by simp [go_sem, head, thn, h1, h2, h3, h4], hl, by simp [cmp_head]⟩ ?_
    rintro n s h ⟨k, c, rfl, hk, rfl, g2, g3, g6, g5, hz, hd⟩
    by_cases hc0 : c = 0
    · subst hc0
      by_cases hlt : k < a.kids.length
      · have hlt' : (k : Int) < a.kids.length := by omega
        have hltb : k < b.kids.length := by have := hz rfl; omega
        have hix := idx23 a.kids k hlt .unk
        have hiy := idx23 b.kids k hltb .unk
        have hck : ∀ h, callV C h (.func 112 []) (some [enc a.kids[k], enc b.kids[k]]) = some (.int .i64 (a.kids[k].cmp b.kids[k]), h) := fun h => callV_strip (by kernel_rfl) rfl (dat_enc2 _ _) (by simp [short_enc]) (by simp) (hc _ (List.getElem_mem hlt) _ (List.getElem_mem hltb))
        have e3 := len_sizes a.kids
        have e4 := size_kids a
        have w2 : IntKind.i64.wrap ((k : Int) + 1) = ((k + 1 : Nat) : Int) := by rw [wrap_in (by omega)]; omega
        rw [List.drop_eq_getElem_cons hlt, List.drop_eq_getElem_cons hltb, cmps, thn, if_pos rfl] at hd
        simp [go_sem, g2, g3, g5, g6, two_a3, two_b3, len23, hlt', hix, hiy, ld25, hck, -Int.natCast_add, w2]
        exact ⟨a.kids.length - (k + 1), by omega, k + 1, a.kids[k].cmp b.kids[k], by simp [go_sem, g2, g3, hd]; exact ⟨by omega, fun _ => hz rfl⟩⟩
      · have : k = a.kids.length := by omega
        subst this
        rw [List.drop_length, hz rfl, List.drop_length] at hd
        simp [go_sem, g2, g5, g6, two_a3, len23]
        refine hR _ _ _ (.inr rfl) ⟨_, rfl, ?_⟩
        simp [go_sem, ← hd, cmps, thn]; exact snap_dat rfl rfl
    · rw [thn, if_neg hc0] at hd
      simp [go_sem, g5, hc0]
      refine hR _ _ _ (.inr rfl) ⟨_, rfl, ?_⟩
      simp [go_sem, ← hd]; exact snap_dat rfl rfl
theorem cmp112_all (a : T) : ∀ b : T, a.size < 4000000 → b.size < 4000000 → CallP C 112 [enc a, enc b] = some (.int .i64 (a.cmp b)) := by
  induction a using T.ind with
  | _ a ih => exact fun b hs hs2 => cmp112 a b hs hs2 fun k hk m hm => ih k hk m (by have := kid_size hk; omega) (by have := kid_size hm; omega)
theorem call112 (a b : T) (hs : a.size < 4000000) (hs2 : b.size < 4000000) (h : H) : callV C h (.func 112 []) (some [enc a, enc b]) = some (.int .i64 (a.cmp b), h) := callV_strip (by kernel_rfl) rfl (dat_enc2 _ _) (by simp [short_enc]) (by simp) (cmp112_all a b hs hs2)
end Go.VP

/- term.Compare in the model: what it answers; the world only grows, and the tape of choices only goes on. -/
namespace Go.VP
open Go Go.V Go.Proofs Go.RowKit TL
open Go.VZ (enc encs encs_map terms enc_eq enc_cells cells_agg)
theorem okD [DFlag] : Go.V.Ok Tryz.prog (Go.V.Call C) := Call_ok (C := C) Go.VZ.good (fun f args h r h' hp => by cases hp)
theorem grow_of [DFlag] (hD : DFlag.D) {w w' : World} (g : Grows w w') : ∃ q os, w' = Go.Sort.grow (w.drewN q) os := by
  have hd := g.drawn hD
  refine ⟨w'.drawn - w.drawn, w'.heap.extract w.heap.size w'.heap.size, ?_⟩
  obtain ⟨hp, tp, dr, os, ou⟩ := w'
  have e1 := g.os
  have e2 := g.tape
  have e3 := g.output
  have e4 := g.size
  have e5 := g.block
  simp only at e1 e2 e3 e4 e5 hd
  subst e1; subst e2; subst e3
  simp only [Go.Sort.grow, World.drewN, World.mk.injEq, and_true, true_and]
  refine ⟨?_, by omega⟩
  apply Array.ext_getElem?
  intro i
  rw [Array.getElem?_append]
  split
  · rename_i hi; exact e5 i hi
  · rename_i hi
    rw [Array.getElem?_extract]
    split
    · rename_i h2; congr 1; omega
    · rename_i h2; exact Array.getElem?_eq_none (by omega)
theorem cmp_callsD [DFlag] (hD : DFlag.D) (a b : T) (ha : a.size < 4000000) (hb : b.size < 4000000) {w : World} {u v : Value} (hg : GlobR (fun _ _ => True) w) (hu : IRel (fun _ _ => True) w (enc a) u) (hv : IRel (fun _ _ => True) w (enc b) v) :
    Calls Tryz.prog 112 #[u, v] w fun e w' => e = .returned (.int .i64 (a.cmp b)) ∧ ∃ q os, w' = Go.Sort.grow (w.drewN q) os := by
  have hc := cmp112_all a b ha hb
  unfold CallP at hc
  split at hc <;> first | (cases hc; done) | skip
  rename_i r h1 hx
  refine (okD.fn 112 [enc a, enc b] [] r h1 (by kernel_rfl) hx w.heap.size (fun _ _ => True) [] w #[u, v] (.start hg) rfl (fun i x y hx hy => ?_)).mono ?_
  · match i, hx, hy with
    | 0, hx, hy => simp at hx hy; subst hx; subst hy; exact .data (irel_start hu)
    | 1, hx, hy => simp at hx hy; subst hx; subst hy; exact .data (irel_start hv)
    | i + 2, hx, hy => simp at hx
  · rintro e w' ⟨v, rfl, σ', k1, k2, k3⟩
    have hs := snap_sound (k1.stiller (freezeAll_stiller h1)) deep r _ v hc (k3.step (.stiller k1 (freezeAll_stiller h1)))
    cases hs
    exact ⟨rfl, grow_of hD (of_below k2.below k2.drawn)⟩
theorem cmp_calls (a b : T) (ha : a.size < 4000000) (hb : b.size < 4000000) {w : World} {u v : Value} (hg : GlobR (fun _ _ => True) w) (hu : IRel (fun _ _ => True) w (enc a) u) (hv : IRel (fun _ _ => True) w (enc b) v) :
    Calls Tryz.prog 112 #[u, v] w fun e w' => e = .returned (.int .i64 (a.cmp b)) ∧ ∃ q os, w' = Go.Sort.grow (w.drewN q) os := @cmp_callsD ⟨True⟩ trivial a b ha hb w u v hg hu hv
end Go.VP

/- slices.SortFunc at terms: the shelf's contract, laid by the shelf's own tool; turned to a row of one's own of the value machine. -/
namespace Go.Proofs
open Go.Shelf
def Tryz.laysSort_ren : Go.Shelf.Ren := ⟨fun | 6 => 217 | 15 => 127 | 14 => 265 | 28 => 190 | 29 => 191 | 20 => 303 | 21 => 304 | 22 => 305 | 23 => 306 | 24 => 307 | 25 => 308 | 26 => 309 | 27 => 310 | 46 => 334 | 47 => 237 | 48 => 238 | 49 => 335 | 50 => 336 | 57 => 362 | n => n, fun | 22 => 23 | 24 => 25 | 25 => 163 | 3 => 3 | 39 => 173 | 0 => 0 | 53 => 222 | 55 => 224 | 4 => 4 | 46 => 216 | 45 => 215 | 50 => 104 | 5 => 5 | 9 => 9 | 66 => 260 | 70 => 208 | 76 => 309 | 77 => 310 | n => n, fun | n => n⟩
theorem Tryz.laysSort : Go.Proofs.SlLaysF0.n6 Tryz.prog Tryz.laysSort_ren := {
  mixed := by kernel_rfl
  f6 := ⟨Tryz.f217.name, by decide, Tryz.func217.trans (congrArg some (by kernel_rfl))⟩
  f14 := ⟨Tryz.f265.name, by decide, Tryz.func265.trans (congrArg some (by kernel_rfl))⟩
  f15 := Tryz.func127.trans (congrArg some (by kernel_rfl))
  f20 := ⟨Tryz.f303.name, by decide, Tryz.func303.trans (congrArg some (by kernel_rfl))⟩
  f21 := ⟨Tryz.f304.name, by decide, Tryz.func304.trans (congrArg some (by kernel_rfl))⟩
  f22 := ⟨Tryz.f305.name, by decide, Tryz.func305.trans (congrArg some (by kernel_rfl))⟩
  f23 := ⟨Tryz.f306.name, by decide, Tryz.func306.trans (congrArg some (by kernel_rfl))⟩
  f24 := ⟨Tryz.f307.name, by decide, Tryz.func307.trans (congrArg some (by kernel_rfl))⟩
  f25 := ⟨Tryz.f308.name, by decide, Tryz.func308.trans (congrArg some (by kernel_rfl))⟩
  f26 := ⟨Tryz.f309.name, by decide, Tryz.func309.trans (congrArg some (by kernel_rfl))⟩
  f27 := ⟨Tryz.f310.name, by decide, Tryz.func310.trans (congrArg some (by kernel_rfl))⟩
  f28 := Tryz.func190.trans (congrArg some (by kernel_rfl))
  f29 := Tryz.func191.trans (congrArg some (by kernel_rfl))
  f46 := ⟨Tryz.f334.name, by decide, Tryz.func334.trans (congrArg some (by kernel_rfl))⟩
  f47 := Tryz.func237.trans (congrArg some (by kernel_rfl))
  f48 := Tryz.func238.trans (congrArg some (by kernel_rfl))
  f49 := ⟨Tryz.f335.name, by decide, Tryz.func335.trans (congrArg some (by kernel_rfl))⟩
  f50 := ⟨Tryz.f336.name, by decide, Tryz.func336.trans (congrArg some (by kernel_rfl))⟩
  f57 := ⟨Tryz.f362.name, by decide, Tryz.func362.trans (congrArg some (by kernel_rfl))⟩
  t0 := Tryz.underlying0
  a0 := Tryz.isAgg0
  z0 := Tryz.sizeOf0
  v0 := Tryz.zeroValue0
  t3 := Tryz.underlying3
  a3 := Tryz.isAgg3
  z3 := Tryz.sizeOf3
  v3 := Tryz.zeroValue3
  t4 := Tryz.underlying4
  a4 := Tryz.isAgg4
  z4 := Tryz.sizeOf4
  v4 := Tryz.zeroValue4
  t5 := Tryz.underlying5
  a5 := Tryz.isAgg5
  z5 := Tryz.sizeOf5
  v5 := Tryz.zeroValue5
  t9 := Tryz.underlying9
  a9 := Tryz.isAgg9
  z9 := Tryz.sizeOf9
  v9 := Tryz.zeroValue9
  t22 := Tryz.underlying23
  a22 := Tryz.isAgg23
  z22 := Tryz.sizeOf23
  v22 := Tryz.zeroValue23
  t25 := Tryz.underlying163
  a25 := Tryz.isAgg163
  z25 := Tryz.sizeOf163
  v25 := Tryz.zeroValue163
  t39 := Tryz.underlying173
  a39 := Tryz.isAgg173
  z39 := Tryz.sizeOf173
  v39 := Tryz.zeroValue173
  t45 := Tryz.underlying215
  a45 := Tryz.isAgg215
  z45 := Tryz.sizeOf215
  v45 := Tryz.zeroValue215
  t46 := Tryz.underlying216
  a46 := Tryz.isAgg216
  z46 := Tryz.sizeOf216
  v46 := Tryz.zeroValue216
  t50 := Tryz.underlying104
  a50 := Tryz.isAgg104
  z50 := Tryz.sizeOf104
  v50 := Tryz.zeroValue104
  t53 := Tryz.underlying222
  a53 := Tryz.isAgg222
  z53 := Tryz.sizeOf222
  v53 := Tryz.zeroValue222
  t55 := Tryz.underlying224
  a55 := Tryz.isAgg224
  z55 := Tryz.sizeOf224
  v55 := Tryz.zeroValue224
  t66 := Tryz.underlying260
  a66 := Tryz.isAgg260
  z66 := Tryz.sizeOf260
  v66 := Tryz.zeroValue260
  t70 := Tryz.underlying208
  a70 := Tryz.isAgg208
  z70 := Tryz.sizeOf208
  v70 := Tryz.zeroValue208
  t76 := Tryz.underlying309
  a76 := Tryz.isAgg309
  z76 := Tryz.sizeOf309
  v76 := Tryz.zeroValue309
  t77 := Tryz.underlying310
  a77 := Tryz.isAgg310
  z77 := Tryz.sizeOf310
  v77 := Tryz.zeroValue310 }
end Go.Proofs
namespace Go.VZ
open Go Go.V Go.Proofs Go.RowKit Go.Sort TL
variable {B : Nat} {A0 : Nat → Nat → Prop} {σ : List (Option Nat)} {h : H} {w : World}
/-- A term with its four cells, as memory holds them. -/
structure El (A : Nat → Nat → Prop) (w : World) where
  t : T
  vs : List Value
  len : vs.length = 4
  small : t.size < 4000000
  rel : IRel A w (enc t) (.agg vs.toArray)
theorem el_rel {A : Nat → Nat → Prop} {w : World} (x : El A w) {c : Nat} {a : AV} {v : Value} (ha : (enc x.t).cells[c]? = some a) (hv : x.vs[c]? = some v) : IRel A w a v := by
  have r := x.rel
  rw [enc_eq] at r
  cases r with
  | agg h1 hl hr =>
    rw [enc_cells] at ha
    exact hr c a v ha (by simpa using hv)
theorem el_one {A : Nat → Nat → Prop} {w : World} (x : El A w) : ∀ v ∈ x.vs, v.oneCell' = true := by
  intro v hv
  obtain ⟨c, hc⟩ := List.mem_iff_getElem?.1 hv
  have hlt := (List.getElem?_eq_some_iff.1 hc).1
  have hl := x.len
  have e4 : (enc x.t).cells.length = 4 := by rw [enc_cells]; rfl
  have ha : (enc x.t).cells[c]? = some (enc x.t).cells[c] := List.getElem?_eq_getElem (by omega)
  refine irel_one (el_rel x ha hc) ?_
  have := List.getElem_mem (l := (enc x.t).cells) (n := c) (by omega)
  generalize (enc x.t).cells[c] = a at this
  rw [enc_cells] at this
  simp only [List.mem_cons, List.not_mem_nil, or_false] at this
  rcases this with rfl | rfl | rfl | rfl <;> rfl
instance {A : Nat → Nat → Prop} {w : World} : Inhabited (El A w) := ⟨⟨.mk 0 ⟨#[]⟩ 0 [], [.int .i64 0, .string ⟨#[]⟩, .int .i64 0, .slice none 0 0], rfl, by decide, by
  rw [enc_eq]
  refine .agg (by intro c hc; simp at hc; rcases hc with rfl | rfl | rfl | rfl <;> rfl) rfl fun i a v ha hv => ?_
  match i, ha, hv with
  | 0, ha, hv => simp at ha hv; subst ha; subst hv; exact .int _ _
  | 1, ha, hv => simp at ha hv; subst ha; subst hv; exact .str _
  | 2, ha, hv => simp at ha hv; subst ha; subst hv; exact .int _ _
  | 3, ha, hv => simp at ha hv; subst ha; subst hv; exact .islNil
  | i + 4, ha, hv => simp at ha⟩⟩
/-- The elements of a row of one's own. -/
theorem els {A : Nat → Nat → Prop} {w : World} {vs : Array Value} : ∀ (l : List T) (off : Nat), (∀ t ∈ l, t.size < 4000000) → (∀ (k : Nat) c v, (cellsT l)[k]? = some c → vs[off + k]? = some v → IRel A w c v) → off + 4 * l.length ≤ vs.size →
    ∃ es : List (El A w), es.map El.t = l ∧ ∀ (j c : Nat) (hj : j < es.length), c < 4 → vs[off + (4 * j + c)]? = (es[j]).vs[c]?
  | [], off, _, _, _ => ⟨[], rfl, fun j c hj => by simp at hj⟩
  | a :: l, off, hs, hr, hl => by
    simp only [List.length_cons] at hl
    obtain ⟨es, h1, h2⟩ := els l (off + 4) (fun t ht => hs t (by simp [ht])) (fun k c v hc hv => hr (4 + k) c v (by
      have e : cellsT (a :: l) = (enc a).cells ++ cellsT l := rfl
      have e4 : (enc a).cells.length = 4 := by rw [enc_cells]; rfl
      rw [e, List.getElem?_append_right (by omega), show 4 + k - (enc a).cells.length = k by omega]; exact hc) (by rw [← Nat.add_assoc]; exact hv)) (by omega)
    have g : ∀ c, c < 4 → ∃ v, vs[off + c]? = some v := fun c hc => ⟨vs[off + c]'(by omega), Array.getElem?_eq_getElem (by omega)⟩
    obtain ⟨v0, g0⟩ := g 0 (by omega)
    obtain ⟨v1, g1⟩ := g 1 (by omega)
    obtain ⟨v2, g2⟩ := g 2 (by omega)
    obtain ⟨v3, g3⟩ := g 3 (by omega)
    have r : ∀ (c : Nat) x v, (enc a).cells[c]? = some x → c < 4 → vs[off + c]? = some v → IRel A w x v := fun c x v hx hc hv => hr c x v (by
      have := cellsT_get (l := a :: l) (j := 0) (c := c) (by simp) hc
      rw [Nat.mul_zero, Nat.zero_add] at this
      rw [this]; exact hx) hv
    refine ⟨⟨a, [v0, v1, v2, v3], rfl, hs a (by simp), ?_⟩ :: es, by simp [h1], ?_⟩
    · rw [enc_eq]
      rw [enc_cells] at r
      refine .agg (by intro c hc; simp at hc; rcases hc with rfl | rfl | rfl | rfl <;> rfl) rfl fun i x v hx hv => ?_
      match i, hx, hv with
      | 0, hx, hv => simp at hv; subst hv; exact r 0 x _ hx (by omega) g0
      | 1, hx, hv => simp at hv; subst hv; exact r 1 x _ hx (by omega) g1
      | 2, hx, hv => simp at hv; subst hv; exact r 2 x _ hx (by omega) g2
      | 3, hx, hv => simp at hv; subst hv; exact r 3 x _ hx (by omega) g3
      | i + 4, hx, hv => simp at hx
    · intro j c hj hc
      cases j with
      | zero =>
        match c, hc with
        | 0, _ => exact g0
        | 1, _ => exact g1
        | 2, _ => exact g2
        | 3, _ => exact g3
      | succ j =>
        have := h2 j c (by simpa using hj) hc
        rw [show off + (4 * (j + 1) + c) = off + 4 + (4 * j + c) by omega, this]
        rfl
end Go.VZ

/- The contract of slices.SortFunc at terms, for the value machine. -/
namespace Go.VZ
open Go Go.V Go.Proofs Go.RowKit Go.Sort TL
variable {B : Nat} {A0 : Nat → Nat → Prop} {σ : List (Option Nat)} {h : H} {w : World}
theorem isl_nil {A : Nat → Nat → Prop} {x : Ext} {v : Value} (r : Rel Tryz.prog A σ h w (.isl [] x) v) : ∃ p cap, v = .slice p 0 cap := by
  have key : ∀ u, IRel A w (.isl [] .unk) u → ∃ p cap, u = .slice p 0 cap := fun u r => by
    cases r with
    | islNil => exact ⟨_, _, rfl⟩
    | islEmpty a cap hm => exact ⟨_, _, rfl⟩
    | isl f => exact ⟨_, _, rfl⟩
  cases r with
  | data hd =>
    cases hd with
    | islNil => exact ⟨_, _, rfl⟩
    | islEmpty a cap hm => exact ⟨_, _, rfl⟩
    | isl f => exact ⟨_, _, rfl⟩
  | full hd => obtain ⟨p, c, e⟩ := key _ hd; cases e; exact ⟨_, _, rfl⟩
  | tok hd _ => exact key _ hd
theorem func_rel {A : Nat → Nat → Prop} {f : FuncId} {v : Value} (r : Rel Tryz.prog A σ h w (.func f []) v) : v = .func (.func f) #[] #[] := by
  cases r with
  | data hd => cases hd with
    | func hl _ => simp only [List.length_nil, Array.size_eq_zero_iff] at hl; rw [hl]
  | func hl _ => simp only [List.length_nil, Array.size_eq_zero_iff] at hl; rw [hl]
theorem cells_data {A : Nat → Nat → Prop} {l : List T} {k : Nat} {c : AV} {v : Value} (hc : (cellsT l)[k]? = some c) (r : Rel Tryz.prog A σ h w c v) : IRel A w c v := by
  have hm := List.mem_of_getElem? hc
  simp only [cellsT, List.mem_flatMap] at hm
  obtain ⟨t, _, hm⟩ := hm
  rw [enc_cells] at hm
  simp only [List.mem_cons, List.not_mem_nil, or_false] at hm
  rcases hm with rfl | rfl | rfl | rfl <;> (cases r with | data hd => exact hd)
theorem swoC {A : Nat → Nat → Prop} {w : World} : SWO (ltOf fun x y : El A w => x.t.cmp y.t) where
  irrefl x := by simp [ltOf, cmp_refl]
  trans x y z h1 h2 := by
    simp only [ltOf, decide_eq_true_eq] at *
    exact cmp_trans h1 h2
  ntrans x y z h1 h2 := by
    simp only [ltOf, decide_eq_false_iff_not] at *
    exact le_trans (x := z.t) (y := y.t) (z := x.t) h2 h1
theorem mapBlock_row {b : Nat} {vs : Array Value} {ty : TypeId} {fr : Nat × Nat} (f : Array Value → Array Value) (hb : w.heap[b]? = some (.cells vs ty fr)) : mapBlock w b f = w.setRow b (f vs) := by
  unfold mapBlock World.setRow
  congr 1
  apply Array.ext_getElem?
  intro k
  simp only [Array.getElem?_modify]
  by_cases hk : b = k
  · subst hk; simp only [if_true, hb, Option.map_some, onCells]
  · simp [hk]
set_option maxHeartbeats 1000000 in
/-- Sorting a row of one's own. -/
theorem sort_calls [DFlag] (hr : HRel Tryz.prog B A0 σ h w) {i0 b c : Nat} {l : List T} (hs : ∀ t ∈ l, t.size < 4000000) (hid : h[i0]? = some (.cells (cellsT l) .live)) (hb : σ[i0]? = some (some b)) (hl : l.length < 4611686018427387904) :
    Calls Tryz.prog 217 #[.slice (some ⟨b, 0, none⟩) l.length c, .func (.func 112) #[] #[]] w (fun e w' => ∃ v, e = .returned v ∧ Go.V.Leaves Tryz.prog B A0 σ h w (.tuple []) (h.set i0 (.cells (cellsT (srt l)) .live)) v w') := by
  obtain ⟨b', vs, ty, e1, hB, hblk, hle, hone, hrel⟩ := hr.cells i0 _ .live hid (by simp)
  rw [hb] at e1; simp only [Option.some.injEq] at e1; subst e1
  have hlen := cellsT_len l
  obtain ⟨es, hes, hget⟩ := els (A := Alw Tryz.prog B A0 σ h) (w := w) (vs := vs) l 0 hs (fun k x v hx hv => by
    rw [Nat.zero_add] at hv
    exact cells_data hx (hrel k x v hx hv)) (by omega)
  have hel : es.length = l.length := by rw [← hes]; simp
  have hlt : b < w.heap.size := (Array.getElem?_eq_some_iff.1 hblk).1
  -- what may be led to lies elsewhere
  have hne : ∀ k o, Alw Tryz.prog B A0 σ h k o → k ≠ b := fun k o ha e => by
    subst e
    unfold Alw at ha
    rw [if_neg (by omega)] at ha
    exact ha.1 i0 _ hid hb
  have up : ∀ (m : Nat) (os : Array Obj) (dk : Array (El (Alw Tryz.prog B A0 σ h) w)) (k o : Nat) x, Alw Tryz.prog B A0 σ h k o → w.cell? ⟨k, o, none⟩ = some x → (sortWorldK El.vs 4 w b 0 m dk os).cell? ⟨k, o, none⟩ = some x := fun m os dk k o x ha hc => by
    have hk := World.block_lt_of_cell? w _ hc
    unfold sortWorldK
    rw [cell?_grow _ _ _ (by unfold putRowK putRow mapBlock; simpa using hk), cell?_putRowK_other (h := hne k o ha)]
    exact hc
  have hcmp : CmpLays Tryz.prog 112 #[] El.vs 4 (fun x y : El (Alw Tryz.prog B A0 σ h) w => x.t.cmp y.t) b 0 es.toArray.size w := by
    intro m os dk _ x y
    have go : ∀ {a : AV} {v : Value}, IRel (Alw Tryz.prog B A0 σ h) w a v → IRel (fun _ _ => True) (sortWorldK El.vs 4 w b 0 m dk os) a v := fun r => r.mono fun k o x ha hc => ⟨trivial, up m os dk k o x ha hc⟩
    exact Go.VP.cmp_calls x.t y.t x.small y.small (fun g a hg => go (hr.gr g a hg)) (go x.rel) (go y.rel)
  have hH : HoldsK El.vs 4 w b 0 es.toArray := by
    intro j hj
    have hj' : j < 4 * l.length := by simp [size_flatK] at hj; omega
    have hd : j / 4 < es.length := by omega
    have hg := hget (j / 4) (j % 4) hd (Nat.mod_lt _ (by omega))
    rw [show 0 + (4 * (j / 4) + j % 4) = j by omega] at hg
    have h4 := (es[j / 4]).len
    have hmod : j % 4 < 4 := Nat.mod_lt _ (by omega)
    refine ⟨?_, by simp [World.frozen?, hblk]⟩
    rw [get_flatK _ _ _ _ (by simpa [size_flatK] using hj)]
    simp only [World.cell?, hblk, Nat.zero_add, Option.isSome_none, Bool.false_eq_true, if_false, hg, id]
    rw [getElem!_pos es.toArray (j / 4) (by simpa using hd)]
    simp only [List.getElem_toArray]
    rw [getElem!_pos _ _ (by omega), List.getElem?_eq_getElem (by omega)]
  have hsz : es.toArray.size < 4611686018427387904 := by simp; omega
  have key := AnyQ.slices_SortFunc (P := Tryz.prog) Tryz.laysSort 4 Tryz.isAgg25 Tryz.sizeOf25 (El.vs (A := Alw Tryz.prog B A0 σ h) (w := w)) El.len el_one (fun x y => x.t.cmp y.t) swoC 112 #[] b 0 c es.toArray w (enters_of Tryz.func112 (by kernel_rfl) rfl) hcmp hH hlt hsz
  change Calls Tryz.prog 217 _ _ _ at key
  rw [show es.toArray.size = l.length by simp [hel]] at key
  refine key.mono ?_
  rintro e w' ⟨rfl, d', n, os, hp, hso, rfl⟩
  -- the terms of what the row holds
  have hds : d'.size = l.length := by have := hp.1; simpa [hel] using this
  have hT : d'.toList.map El.t = srt l := by
    have p1 : (d'.toList.map El.t).Perm l := by
      have := hp.2.2
      rw [show l.length = d'.size from hds.symm, Array.extract_size, hds, show l.length = es.toArray.size by simp [hel], Array.extract_size] at this
      rw [← hes]
      exact this.map _
    refine perm_sorted_eq (p1.trans (srt_perm l).symm) ?_ (srt_sorted l)
    rw [List.pairwise_map, List.pairwise_iff_getElem]
    intro i j hi hj hij
    have := hso i j (Nat.zero_le _) hij (by simpa [hds] using hj)
    simp only [ltOf, decide_eq_false_iff_not] at this
    rw [getElem!_pos d' i (by simpa using hi), getElem!_pos d' j (by simpa using hj)] at this
    simpa [le] using this
  obtain ⟨vs', evs⟩ : ∃ vs', vs' = putCells id 0 (flatK El.vs 4 d') vs := ⟨_, rfl⟩
  have hrow : putRowK El.vs 4 w b 0 d' = w.setRow b vs' := by
    unfold putRowK putRow
    rw [mapBlock_row _ hblk, evs]
  have hw : sortWorldK El.vs 4 w b 0 n d' os = Go.Sort.grow ((w.setRow b vs').drewN n) os := by
    rw [← hrow]; rfl
  have hvs : vs'.size = vs.size := by rw [evs]; simp [putCells]
  have hl2 : (cellsT (srt l)).length = 4 * l.length := by rw [cellsT_len, srt_len]
  have hrel' : ∀ (k : Nat) x v, (cellsT (srt l))[k]? = some x → vs'[k]? = some v → Rel Tryz.prog (Alw Tryz.prog B A0 σ h) σ h w x v := by
    intro k x v hx hv
    have hk : k < 4 * l.length := by rw [← hl2]; exact (List.getElem?_eq_some_iff.1 hx).1
    have hd : k / 4 < d'.size := by omega
    have hmod : k % 4 < 4 := Nat.mod_lt _ (by omega)
    have hj : k / 4 < (srt l).length := by rw [srt_len]; omega
    have e1 := cellsT_get hj hmod
    rw [show 4 * (k / 4) + k % 4 = k by omega, hx] at e1
    have et : (srt l)[k / 4] = (d'[k / 4]).t := by simp [← hT]
    rw [et] at e1
    have ev : v = (d'[k / 4]).vs[k % 4]'(by rw [(d'[k / 4]).len]; exact hmod) := by
      rw [evs] at hv
      simp only [putCells, Array.getElem?_mapIdx, Nat.zero_le, true_and, Nat.zero_add, size_flatK, Nat.sub_zero, id] at hv
      rw [Array.getElem?_eq_getElem (by omega), Option.map_some, if_pos (by omega), get_flatK _ _ _ _ (by omega), getElem!_pos d' _ hd, getElem!_pos _ _ (by rw [(d'[k / 4]).len]; exact hmod)] at hv
      simpa using hv.symm
    exact .data (el_rel (d'[k / 4]) e1.symm (by rw [ev]; exact List.getElem?_eq_getElem _))
  have hone' : ∀ x ∈ cellsT (srt l), x.one = true := by
    intro x hx
    simp only [cellsT, List.mem_flatMap] at hx
    obtain ⟨t, _, hx⟩ := hx
    rw [enc_cells] at hx
    simp only [List.mem_cons, List.not_mem_nil, or_false] at hx
    rcases hx with rfl | rfl | rfl | rfl <;> rfl
  have k1 := HRel.write hr hid hb hblk hvs (cs' := cellsT (srt l)) (by omega) hone' hrel'
  have k2 := Step.write (cs' := cellsT (srt l)) hr hid hb hblk hvs
  have g : Grows (w.setRow b vs') (sortWorldK El.vs 4 w b 0 n d' os) := by
    rw [hw]
    refine ⟨rfl, rfl, rfl, by simp [Go.Sort.grow, World.drewN], fun k hk => ?_, fun _ => by simp [Go.Sort.grow, World.drewN]⟩
    simp only [Go.Sort.grow, World.drewN]
    exact Array.getElem?_append_left hk
  exact ⟨_, rfl, σ, k1.grows g, k2.trans (.grows k1 g), .data (.tuple rfl (fun i a v ha => by simp at ha))⟩
theorem primSort_ok [DFlag] : PrimOk Tryz.prog 217 primSort := by
  intro args h r h' hp B A0 σ w vs hr hl ha
  unfold primSort at hp
  split at hp <;> first | (cases hp; done) | skip
  · rename_i x
    simp only [Option.some.injEq, Prod.mk.injEq] at hp
    obtain ⟨rfl, rfl⟩ := hp
    obtain ⟨l⟩ := vs
    match l, hl, ha with
    | [u, v], _, ha =>
      obtain ⟨p, cap, rfl⟩ := isl_nil (ha 0 _ u rfl rfl)
      have hv := func_rel (ha 1 _ v rfl rfl)
      subst hv
      refine (show Calls Tryz.prog 217 #[.slice p 0 cap, .func (.func 112) #[] #[]] w _ from AnyF.slices_SortFunc_none (P := Tryz.prog) { Tryz.laysSort with } p cap _ w).mono ?_
      rintro e w' ⟨rfl, rfl⟩
      exact ⟨_, rfl, σ, hr, .refl _ _ _, .data (.tuple rfl (fun i a v ha => by simp at ha))⟩
  · rename_i i0 n
    split at hp <;> first | (cases hp; done) | skip
    rename_i e
    simp only [Option.some.injEq, Prod.mk.injEq] at hp
    obtain ⟨rfl, rfl⟩ := hp
    obtain ⟨c1, c4, c2, c3⟩ := e.choose_spec
    generalize e.choose = m at c1 c2 c3 c4 ⊢
    subst c1
    obtain ⟨l⟩ := vs
    match l, hl, ha with
    | [u, v], _, ha =>
      have hv := func_rel (ha 1 _ v rfl rfl)
      subst hv
      have hu := ha 0 _ u rfl rfl
      cases hu with
      | data hd => cases hd
      | msl hs hk h0 hc hm hcap hw =>
        exact sort_calls hr c2 c3 hs (by omega)
end Go.VZ
