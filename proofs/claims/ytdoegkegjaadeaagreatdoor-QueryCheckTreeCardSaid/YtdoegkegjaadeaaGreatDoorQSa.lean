/- The value machine at the program of this seat: its ways of calling, facts on its types, terms as values. -/
import Derived.Test.YtdoegkegjaadeaaGreatDoorQV25
import Derived.Test.YtdoegkegjaadeaaGreatDoorProg
import Derived.Test.YtdoegkegjaadeaaGreatDoorQD0
import Derived.Test.YtdoegkegjaadeaaGreatDoorQV34
namespace Go.VZ
open Go Go.V Go.Proofs TL
def md : FuncId → Go.V.Mode := fun f => if f = 170 ∨ f = 85 ∨ f = 89 ∨ f = 93 ∨ f = 151 ∨ f = 152 ∨ f = 153 ∨ f = 154 ∨ f = 174 ∨ f = 217 ∨ f = 218 then .openH else if f = 43 ∨ f = 193 ∨ f = 94 ∨ f = 96 then .ownM else .strip
def wrt : FuncId → Tmp → Bool := fun f _t => decide (f = 43) || decide (f = 193) || decide (f = 94) || decide (f = 96) || decide (f = 57) || decide (f = 50) || decide (f = 153) || decide (f = 174)
def extL : List Value → Option Value
  | [.string a, .string b] => some (.int .i64 (Lib.compareBytes a.data.toList b.data.toList))
  | _ => none
def ext : FuncId → Array Value → Option Value := fun f vs => if f = 287 then extL vs.toList else none
theorem ext_ok (f : FuncId) (vs : Array Value) (v : Value) (w : World) (h : ext f vs = some v) : (callFunc f vs).run Tryz.prog w = .ok (.value v) w := by
  obtain ⟨l⟩ := vs
  unfold ext at h
  split at h
  · rename_i e; subst e
    simp only at h
    unfold extL at h
    split at h <;> first | (cases h; done) | skip
    rename_i a b
    simp only [Option.some.injEq] at h; subst h
    rw [run_callFunc_extern Tryz.func287 (by kernel_rfl) (by kernel_rfl) (by kernel_rfl) (e := Extern.BytealgCompare.compare) (by kernel_rfl)]
    rw [show (⟨[.string a, .string b]⟩ : Array Value) = #[.string a, .string b] from rfl, Lib.run_compareString]
    rfl
  · cases h
/-- The drawn regions that are worked with places. -/
def mixL : List (Nat × Nat) := [(20,2),(24,10),(27,12),(30,3),(33,4),(34,3),(50,1),(51,17),(57,1),(103,1),(108,10),(129,1),(153,1),(157,1),(167,3),(169,3),(174,2),(230,4),(230,9),(230,10),(230,12),(230,14),(230,15),(231,6),(231,17),(263,2),(282,1),(323,1),(331,4),(400,2),(451,19),(451,32)]
/-- A copy of an empty slice: nil or not, what comes back is empty. -/
def cloneIds : List Nat := [11, 18, 23, 43, 96, 193, 349, 361, 435, 460]
def primClone : FuncId → List AV → H → Option (AV × H) := fun f args h => if cloneIds.contains f then (match args with | [.isl [] _] => some (.isl [] .full, h) | _ => none) else none
mutual
def enc : T → AV
  | .mk k n s l => .agg [.int .i64 k, .str n, .int .i64 s, .isl (encs l) .unk]
def encs : List T → List AV
  | [] => []
  | t :: l => enc t :: encs l
end
open Classical in
/-- slices.SortFunc at terms, on a row of one's own. -/
noncomputable def primSort (args : List AV) (h : H) : Option (AV × H) := match args with
  | [.isl [] _, .func 112 []] => some (.tuple [], h)
  | [.msl id 0 4 n none, .func 112 []] => if e : ∃ l : List T, n = l.length ∧ l.length < 1000000000 ∧ (∀ t ∈ l, t.size < 4000000) ∧ h[id]? = some (.cells (l.flatMap fun t => (enc t).cells) .live) then some (.tuple [], h.set id (.cells ((srt e.choose).flatMap fun t => (enc t).cells) .live)) else none
  | _ => none
/-- Besides: the examples of the chapters, which are run closed. -/
noncomputable def prim : FuncId → List AV → H → Option (AV × H) := fun f args h => if f = 20 then (match args with | [] => some (.bool true, h) | _ => none) else if f = 7 then (match args with | [] => some (.bool true, h) | _ => none) else if f = 217 then primSort args h else primClone f args h
noncomputable def C : Cfg := { P := Tryz.prog, mode := md, wr := wrt, prim := prim, ext := ext, extOk := ext_ok, mix := fun f i => decide ((f, i) ∈ mixL) }
@[go_sem] theorem wrC (f : FuncId) (t : Tmp) : C.wr f t = (decide (f = 43) || decide (f = 193) || decide (f = 94) || decide (f = 96) || decide (f = 57) || decide (f = 50) || decide (f = 153) || decide (f = 174)) := (rfl)
@[go_sem] theorem mixC (f : FuncId) (i : Nat) : C.mix f i = decide ((f, i) ∈ [(20,2),(24,10),(27,12),(30,3),(33,4),(34,3),(50,1),(51,17),(57,1),(103,1),(108,10),(129,1),(153,1),(157,1),(167,3),(169,3),(174,2),(230,4),(230,9),(230,10),(230,12),(230,14),(230,15),(231,6),(231,17),(263,2),(282,1),(323,1),(331,4),(400,2),(451,19),(451,32)]) := (rfl)
theorem u23 : C.P.underlying 23 = some (.slice 25) := Tryz.underlying23
theorem u25 : ∃ x, C.P.underlying 25 = some (.struct x) := ⟨_, Tryz.underlying25⟩
theorem s3 : sizeV C.P 3 = some 1 := by kernel_rfl
theorem s9 : sizeV C.P 9 = some 1 := by kernel_rfl
theorem s23 : sizeV C.P 23 = some 1 := by kernel_rfl
theorem s25 : sizeV C.P 25 = some 4 := by kernel_rfl
theorem a3 : isAggB C.P 3 = some false := by kernel_rfl
theorem a9 : isAggB C.P 9 = some false := by kernel_rfl
theorem a23 : isAggB C.P 23 = some false := by kernel_rfl
theorem a25 : isAggB C.P 25 = some true := by kernel_rfl
attribute [go_sem] u23 s3 s9 s23 s25 a3 a9 a23 a25
theorem encs_map : ∀ l, encs l = l.map enc
  | [] => rfl
  | t :: l => by rw [encs, encs_map l]; rfl
def terms (l : List T) : AV := .isl (l.map enc) .unk
theorem enc_eq (t : T) : enc t = .agg [.int .i64 t.kind, .str t.name, .int .i64 t.sort, terms t.kids] := by
  cases t; rw [enc, encs_map]; rfl
theorem enc_cells (t : T) : (enc t).cells = [.int .i64 t.kind, .str t.name, .int .i64 t.sort, terms t.kids] := by rw [enc_eq]; rfl
@[go_sem] theorem cells_agg (l : List AV) : (AV.agg l).cells = l := rfl
theorem len23 (es : List AV) (x : Ext) : lenV C.P 23 (.isl es x) = some (.int .i64 es.length) := by simp [lenV, u23]
theorem idx23 (l : List T) (k : Nat) (hk : k < l.length) (x : Ext) : indexAddrV C.P 23 (.isl (l.map enc) x) (.int .i64 k) = some (.iptr (enc l[k]) 0) := by
  simp [indexAddrV, u23, s25, enc_cells, hk]
theorem ld25 (t : T) (h : H) : loadV C.P h 25 (.iptr (enc t) 0) = some (enc t) := by
  simp [loadV, cellsAt, a25, s25, enc_cells]; rw [enc_eq]
end Go.VZ

/- Sizes: the program's and the document's. -/
namespace Go.VZ
open Go Go.V Go.Proofs TL
theorem fa25_0 (i : Nat) : fieldAddrV C.P 25 (.ptr i 0) 0 = some (.ptr i 0) := by kernel_rfl
theorem fa25_1 (i : Nat) : fieldAddrV C.P 25 (.ptr i 0) 1 = some (.ptr i 1) := by kernel_rfl
theorem fa25_2 (i : Nat) : fieldAddrV C.P 25 (.ptr i 0) 2 = some (.ptr i 2) := by kernel_rfl
theorem fa25_3 (i : Nat) : fieldAddrV C.P 25 (.ptr i 0) 3 = some (.ptr i 3) := by kernel_rfl
attribute [go_sem] fa25_0 fa25_1 fa25_2 fa25_3
theorem callV_strip {f : FuncId} {args args' : List AV} {v : AV} {h : H} (hb : hasBody C.P f = true) (hm : C.mode f = .strip) (hd : dats args = some args') (hs : args.all short = true) (hl : args.length < 90000)
    (hc : CallP C f args' = some v) : callV C h (.func f []) (some args) = some (v, h) := by
  simp only [callV, hb, if_true, List.append_nil]
  rw [applyCall_strip hm hd hs hl, hc]
theorem dat_enc (t : T) : dats [enc t] = some [enc t] := by rw [enc_eq]; rfl
theorem short_enc (t : T) : short (enc t) = true := by rw [enc_eq]; rfl
theorem box25 (t : T) (h : H) : boxV C.P h 25 (enc t) = some (.ptr h.length 0, h ++ [.cells [.int .i64 t.kind, .str t.name, .int .i64 t.sort, terms t.kids] .live]) := by
  simp [boxV, s25, enc_cells]; rw [enc_eq]; rfl
attribute [go_sem] box25
def NI144 (t : T) (n : Nat) (s : PT) (h : H) : Prop := ∃ k : Nat, n = t.kids.length - k ∧ k ≤ t.kids.length ∧ h = [.cells [.int .i64 t.kind, .str t.name, .int .i64 t.sort, terms t.kids] .live] ∧ s.get 1 = .ptr 0 0 ∧ s.get 3 = .int .i64 (sizes (t.kids.take k) + 1 : Nat) ∧ s.get 4 = .int .i64 k
theorem ld23 (t : T) : loadV C.P [.cells [.int .i64 t.kind, .str t.name, .int .i64 t.sort, terms t.kids] .live] 23 (.ptr 0 3) = some (terms t.kids) := by
  simp [loadV, cellsAt, a23, s23]
set_option maxHeartbeats 1000000 in
theorem size144 (t : T) (hc : ∀ k ∈ t.kids, CallP C 144 [enc k] = some (.int .i64 k.size)) (hs : t.size < 4000000) : CallP C 144 [enc t] = some (.int .i64 t.size) := by
  refine CallP_W rfl Tryz.func144 rfl (by kernel_rfl) (by simp [Tryz.f144]) fun R hR => ?_
  have hsz : t.size = sizes t.kids + 1 := by cases t; rfl
  simp [go_sem]
  refine W_loop (NI144 t) t.kids.length ⟨0, by simp [go_sem, sizes]⟩ ?_
  rintro n s h ⟨k, rfl, hk, rfl, g1, g3, g4⟩
  have g25 := ld23 t
  by_cases hlt : k < t.kids.length
  · have hlt' : (k : Int) < t.kids.length := by omega
    have hix := idx23 t.kids k hlt .unk
    have hck : ∀ h, callV C h (.func 144 []) (some [enc t.kids[k]]) = some (.int .i64 t.kids[k].size, h) := fun h => callV_strip (by kernel_rfl) rfl (dat_enc _) (by simp [short_enc]) (by simp) (hc _ (List.getElem_mem hlt))
    have e1 := take_sizes hlt
    have e2 := take_sizes_le t.kids (k + 1)
    have e3 := len_sizes t.kids
    have w1 : IntKind.i64.wrap ((sizes (t.kids.take k) + 1 : Nat) + (t.kids[k].size : Int)) = (sizes (t.kids.take (k + 1)) + 1 : Nat) := by rw [wrap_in (by omega)]; omega
    have w2 : IntKind.i64.wrap ((k : Int) + 1) = ((k + 1 : Nat) : Int) := by rw [wrap_in (by omega)]; omega
    generalize hz : sizes (t.kids.take k) + 1 = z at *
    simp only [terms] at g25
    simp [go_sem, g1, g3, g4, g25, terms, len23, hlt', hix, ld25, hck, -Int.natCast_add, w1, w2]
    refine ⟨t.kids.length - (k + 1), by omega, k + 1, rfl, hlt, ?_⟩
    simp [go_sem, g1, terms]
  · have : k = t.kids.length := by omega
    subst this
    rw [List.take_length, ← hsz] at g3
    generalize t.size = z at *
    simp only [terms] at g25
    simp [go_sem, g1, g3, g4, g25, terms, len23]
    refine hR _ _ _ (.inr rfl) ⟨_, rfl, ?_⟩
    simp [go_sem, hsz]
    exact snap_dat rfl rfl
theorem size144_all (t : T) : t.size < 4000000 → CallP C 144 [enc t] = some (.int .i64 t.size) := by
  induction t using T.ind with
  | _ t ih => exact fun hs => size144 t (fun k hk => ih k hk (by have := kid_size hk; omega)) hs
def NI172 (t : T) (n : Nat) (s : PT) (_h : H) : Prop := ∃ k : Nat, n = t.kids.length - k ∧ k ≤ t.kids.length ∧ s.get 7 = terms t.kids ∧ s.get 8 = .int .i64 t.kids.length ∧ s.get 3 = .int .i64 (sizes (t.kids.take k) + 1 : Nat) ∧ s.get 9 = .int .i64 k
theorem zv25 : zeroV C.P 25 = some (.agg [.int .i64 0, .str ⟨#[]⟩, .int .i64 0, .isl [] .full]) := by kernel_rfl
attribute [go_sem] zv25
theorem st25 (t : T) (a b c d : AV) (h : H) : storeV C.P (h ++ [.cells [a, b, c, d] .live]) 25 (.ptr h.length 0) (enc t) = some (h ++ [.cells [.int .i64 t.kind, .str t.name, .int .i64 t.sort, terms t.kids] .live]) := by
  simp [storeV, s25]; rw [enc_eq]; rfl
theorem ldb25 (t : T) (h : H) : loadV C.P (h ++ [.cells [.int .i64 t.kind, .str t.name, .int .i64 t.sort, terms t.kids] .live]) 25 (.ptr h.length 0) = some (enc t) := by
  simp [loadV, cellsAt, a25, s25]; rw [enc_eq]
set_option maxHeartbeats 1000000 in
theorem size172 (t : T) (hc : ∀ k ∈ t.kids, CallP C 172 [enc k] = some (.int .i64 k.size)) (hs : t.size < 4000000) : CallP C 172 [enc t] = some (.int .i64 t.size) := by
  refine CallP_W rfl Tryz.func172 rfl (by kernel_rfl) (by simp [Tryz.f172]) fun R hR => ?_
  have hsz : t.size = sizes t.kids + 1 := size_kids t
  have g25 := ld23 t
  simp only [terms] at g25
  simp [go_sem, g25, terms, len23]
  refine W_loop (NI172 t) t.kids.length ⟨0, by simp [go_sem, sizes, terms]⟩ ?_
  rintro n s h ⟨k, rfl, hk, g7, g8, g3, g9⟩
  by_cases hlt : k < t.kids.length
  · have hlt' : (k : Int) < t.kids.length := by omega
    have hix := idx23 t.kids k hlt .unk
    have hck : ∀ h, callV C h (.func 172 []) (some [enc t.kids[k]]) = some (.int .i64 t.kids[k].size, h) := fun h => callV_strip (by kernel_rfl) rfl (dat_enc _) (by simp [short_enc]) (by simp) (hc _ (List.getElem_mem hlt))
    have e1 := take_sizes hlt
    have e2 := take_sizes_le t.kids (k + 1)
    have e3 := len_sizes t.kids
    have w1 : IntKind.i64.wrap ((sizes (t.kids.take k) + 1 : Nat) + (t.kids[k].size : Int)) = (sizes (t.kids.take (k + 1)) + 1 : Nat) := by rw [wrap_in (by omega)]; omega
    have w2 : IntKind.i64.wrap ((k : Int) + 1) = ((k + 1 : Nat) : Int) := by rw [wrap_in (by omega)]; omega
    generalize hz : sizes (t.kids.take k) + 1 = z at *
    simp only [terms] at g7
    simp [go_sem, g7, g8, g3, g9, hlt', hix, ld25, st25, ldb25, hck, -Int.natCast_add, w1, w2]
    refine ⟨t.kids.length - (k + 1), by omega, k + 1, rfl, hlt, ?_⟩
    simp [go_sem, g7, g8, terms]
  · have : k = t.kids.length := by omega
    subst this
    rw [List.take_length, ← hsz] at g3
    generalize t.size = z at *
    simp [go_sem, g8, g3, g9]
    refine hR _ _ _ (.inr rfl) ⟨_, rfl, ?_⟩
    simp [go_sem]
    exact snap_dat rfl rfl
theorem size172_all (t : T) : t.size < 4000000 → CallP C 172 [enc t] = some (.int .i64 t.size) := by
  induction t using T.ind with
  | _ t ih => exact fun hs => size172 t (fun k hk => ih k hk (by have := kid_size hk; omega)) hs
end Go.VZ

/- Numbers and names compared. -/
namespace Go.VZ
open Go Go.V Go.Proofs TL
theorem sign_call (a b : Int) : CallP C 171 [.int .i64 a, .int .i64 b] = some (.int .i64 (sgn a b)) := by
  refine CallP_W rfl Tryz.func171 rfl (by kernel_rfl) (by simp [Tryz.f171]) fun R hR => ?_
  by_cases h1 : a < b
  · simp [go_sem, h1]
    refine hR _ _ _ (.inr rfl) ⟨_, rfl, ?_⟩
    simp [go_sem, sgn, h1]; exact snap_dat rfl rfl
  · by_cases h2 : b < a
    · simp [go_sem, h1, h2]
      refine hR _ _ _ (.inr rfl) ⟨_, rfl, ?_⟩
      simp [go_sem, sgn, h1, h2]; exact snap_dat rfl rfl
    · simp [go_sem, h1, h2]
      refine hR _ _ _ (.inr rfl) ⟨_, rfl, ?_⟩
      simp [go_sem, sgn, h1, h2]; exact snap_dat rfl rfl
theorem number_call (a b : Int) : CallP C 176 [.int .i64 a, .int .i64 b] = some (.int .i64 (sgn a b)) := by
  refine CallP_W rfl Tryz.func176 rfl (by kernel_rfl) (by simp [Tryz.f176]) fun R hR => ?_
  by_cases h1 : a < b
  · simp [go_sem, h1]
    refine hR _ _ _ (.inr rfl) ⟨_, rfl, ?_⟩
    simp [go_sem, sgn, h1]; exact snap_dat rfl rfl
  · by_cases h2 : b < a
    · simp [go_sem, h1, h2]
      refine hR _ _ _ (.inr rfl) ⟨_, rfl, ?_⟩
      simp [go_sem, sgn, h1, h2]; exact snap_dat rfl rfl
    · simp [go_sem, h1, h2]
      refine hR _ _ _ (.inr rfl) ⟨_, rfl, ?_⟩
      simp [go_sem, sgn, h1, h2]; exact snap_dat rfl rfl
theorem call171 (a b : Int) (h : H) : callV C h (.func 171 []) (some [.int .i64 a, .int .i64 b]) = some (.int .i64 (sgn a b), h) := callV_strip (by kernel_rfl) rfl rfl rfl (by simp) (sign_call a b)
theorem call176 (a b : Int) (h : H) : callV C h (.func 176 []) (some [.int .i64 a, .int .i64 b]) = some (.int .i64 (sgn a b), h) := callV_strip (by kernel_rfl) rfl rfl rfl (by simp) (number_call a b)
theorem call287 (a b : ByteArray) (h : H) : callV C h (.func 287 []) (some [.str a, .str b]) = some (.int .i64 (Lib.compareBytes a.data.toList b.data.toList), h) := by
  have hb : hasBody C.P 287 = false := by kernel_rfl
  simp only [callV, hb]
  rfl
theorem cmpstring_call (a b : ByteArray) : CallP C 233 [.str a, .str b] = some (.int .i64 (Lib.compareBytes a.data.toList b.data.toList)) := by
  refine CallP_W rfl Tryz.func233 rfl (by kernel_rfl) (by simp [Tryz.f233]) fun R hR => ?_
  simp [go_sem, call287]
  refine hR _ _ _ (.inr rfl) ⟨_, rfl, ?_⟩
  simp [go_sem]; exact snap_dat rfl rfl
theorem call233 (a b : ByteArray) (h : H) : callV C h (.func 233 []) (some [.str a, .str b]) = some (.int .i64 (Lib.compareBytes a.data.toList b.data.toList), h) := callV_strip (by kernel_rfl) rfl rfl rfl (by simp) (cmpstring_call a b)
theorem compare_call (a b : ByteArray) : CallP C 173 [.str a, .str b] = some (.int .i64 (Lib.compareBytes a.data.toList b.data.toList)) := by
  refine CallP_W rfl Tryz.func173 rfl (by kernel_rfl) (by simp [Tryz.f173]) fun R hR => ?_
  simp [go_sem, call233]
  refine hR _ _ _ (.inr rfl) ⟨_, rfl, ?_⟩
  simp [go_sem]; exact snap_dat rfl rfl
theorem call173 (a b : ByteArray) (h : H) : callV C h (.func 173 []) (some [.str a, .str b]) = some (.int .i64 (Lib.compareBytes a.data.toList b.data.toList), h) := callV_strip (by kernel_rfl) rfl rfl rfl (by simp) (compare_call a b)
theorem call144 (t : T) (hs : t.size < 4000000) (h : H) : callV C h (.func 144 []) (some [enc t]) = some (.int .i64 t.size, h) := callV_strip (by kernel_rfl) rfl (dat_enc _) (by simp [short_enc]) (by simp) (size144_all t hs)
theorem call172 (t : T) (hs : t.size < 4000000) (h : H) : callV C h (.func 172 []) (some [enc t]) = some (.int .i64 t.size, h) := callV_strip (by kernel_rfl) rfl (dat_enc _) (by simp [short_enc]) (by simp) (size172_all t hs)
theorem less_cb (a b : ByteArray) : Op.bytesLess a.toList b.toList = decide (Lib.compareBytes a.data.toList b.data.toList = -1) := by
  rw [Lib.toList_data, Lib.toList_data]
  generalize a.data.toList = x
  generalize b.data.toList = y
  induction x generalizing y with
  | nil => cases y <;> simp [Op.bytesLess, Lib.compareBytes]
  | cons c x ih =>
    cases y with
    | nil => simp [Op.bytesLess, Lib.compareBytes]
    | cons d y =>
      rw [Op.bytesLess, Lib.compareBytes, ih]
      by_cases h1 : c < d
      · simp [h1]
      · by_cases h2 : d < c
        · have : c ≠ d := fun e => by subst e; exact h1 h2
          simp [h1, h2, this]
        · have : c = d := by
            simp only [UInt8.lt_iff_toNat_lt] at h1 h2
            exact UInt8.toNat_inj.mp (by omega)
          subst this
          simp [h1]
theorem eq_cb (a b : ByteArray) : (a.toList == b.toList) = decide (Lib.compareBytes a.data.toList b.data.toList = 0) := by
  rw [Lib.toList_data, Lib.toList_data]
  simp only [cb_zero]
  by_cases h : a.data.toList = b.data.toList
  · rw [decide_eq_true h, h]; simp
  · rw [decide_eq_false h]; exact beq_eq_false_iff_ne.mpr h
def ncmp (a b : ByteArray) : Int := Lib.compareBytes a.data.toList b.data.toList
theorem lss_str (x y : Operand) (a b : ByteArray) : binV C.P .lss 9 x y (.str a) (.str b) = some (.bool (decide (ncmp a b = -1))) := by
  have e : pureVal C.P (do eqGuard BinOp.lss 9 x y (.string a) (.string b); binOp .lss 9 (.string a) (.string b)) = some (.bool (Op.bytesLess a.toList b.toList)) := by
    simp [eqGuard, binOp, Op.stringOp]
    try rfl
  simp only [binV, toVal, toScalar, e, ofConst, ofScalar, less_cb, ncmp]
  congr
theorem gtr_str (x y : Operand) (a b : ByteArray) : binV C.P .gtr 9 x y (.str a) (.str b) = some (.bool (decide (ncmp a b = 1))) := by
  have e : pureVal C.P (do eqGuard BinOp.gtr 9 x y (.string a) (.string b); binOp .gtr 9 (.string a) (.string b)) = some (.bool (!(Op.bytesLess a.toList b.toList || a.toList == b.toList))) := by
    simp [eqGuard, binOp, Op.stringOp]
    try rfl
  simp only [binV, toVal, toScalar, e, ofConst, ofScalar, less_cb, eq_cb, ncmp]
  rcases cb_range a.data.toList b.data.toList with h | h | h <;> simp [h]
end Go.VZ

/- Terms compared: the document's way. -/
namespace Go.VZ
open Go Go.V Go.Proofs TL
def two (a b : T) : H := [.cells [.int .i64 a.kind, .str a.name, .int .i64 a.sort, terms a.kids] .live, .cells [.int .i64 b.kind, .str b.name, .int .i64 b.sort, terms b.kids] .live]
theorem two_a (a b : T) : loadV C.P (two a b) 25 (.ptr 0 0) = some (enc a) := by simp [two, loadV, cellsAt, a25, s25]; rw [enc_eq]
theorem two_b (a b : T) : loadV C.P (two a b) 25 (.ptr 1 0) = some (enc b) := by simp [two, loadV, cellsAt, a25, s25]; rw [enc_eq]
theorem two_a0 (a b : T) : loadV C.P (two a b) 3 (.ptr 0 0) = some (.int .i64 a.kind) := by simp [two, loadV, cellsAt, a3, s3]
theorem two_b0 (a b : T) : loadV C.P (two a b) 3 (.ptr 1 0) = some (.int .i64 b.kind) := by simp [two, loadV, cellsAt, a3, s3]
theorem two_a1 (a b : T) : loadV C.P (two a b) 9 (.ptr 0 1) = some (.str a.name) := by simp [two, loadV, cellsAt, a9, s9]
theorem two_b1 (a b : T) : loadV C.P (two a b) 9 (.ptr 1 1) = some (.str b.name) := by simp [two, loadV, cellsAt, a9, s9]
theorem two_a2 (a b : T) : loadV C.P (two a b) 3 (.ptr 0 2) = some (.int .i64 a.sort) := by simp [two, loadV, cellsAt, a3, s3]
theorem two_b2 (a b : T) : loadV C.P (two a b) 3 (.ptr 1 2) = some (.int .i64 b.sort) := by simp [two, loadV, cellsAt, a3, s3]
theorem two_a3 (a b : T) : loadV C.P (two a b) 23 (.ptr 0 3) = some (.isl (a.kids.map enc) .unk) := by simp [two, loadV, cellsAt, a23, s23, terms]
theorem two_b3 (a b : T) : loadV C.P (two a b) 23 (.ptr 1 3) = some (.isl (b.kids.map enc) .unk) := by simp [two, loadV, cellsAt, a23, s23, terms]
theorem box2 (a b : T) : boxV C.P [.cells [.int .i64 a.kind, .str a.name, .int .i64 a.sort, terms a.kids] .live] 25 (enc b) = some (.ptr 1 0, two a b) := by rw [box25]; rfl
theorem cmp_eq (a b : T) : a.cmp b = thn (sgn a.size b.size) (thn (sgn a.kind b.kind) (thn (Lib.compareBytes a.name.data.toList b.name.data.toList) (thn (sgn a.sort b.sort) (thn (sgn a.kids.length b.kids.length) (cmps a.kids b.kids))))) := by
  cases a; cases b; rw [T.cmp]; rfl
theorem dat_enc2 (a b : T) : dats [enc a, enc b] = some [enc a, enc b] := by rw [enc_eq a, enc_eq b]; rfl
def NI118 (a b : T) (n : Nat) (s : PT) (h : H) : Prop := ∃ k : Nat, n = a.kids.length - k ∧ k ≤ a.kids.length ∧ h = two a b ∧ s.get 2 = .ptr 0 0 ∧ s.get 3 = .ptr 1 0 ∧ s.get 9 = .int .i64 k ∧ cmps (a.kids.drop k) (b.kids.drop k) = cmps a.kids b.kids
set_option maxHeartbeats 2000000 in
theorem cmp118 (a b : T) (hs : a.size < 4000000) (hs2 : b.size < 4000000) (hc : ∀ k ∈ a.kids, ∀ m ∈ b.kids, CallP C 118 [enc k, enc m] = some (.int .i64 (k.cmp m))) : CallP C 118 [enc a, enc b] = some (.int .i64 (a.cmp b)) := by
  refine CallP_W rfl Tryz.func118 rfl (by kernel_rfl) (by simp [Tryz.f118]) fun R hR => ?_
  have hq := cmp_eq a b
  have q1 := call144 a hs
  have q2 := call144 b hs2
  by_cases h1 : sgn a.size b.size ≠ 0
  · simp [go_sem, box2, two_a, two_b, q1, q2, call176, h1]
    refine hR _ _ _ (.inr rfl) ⟨_, rfl, ?_⟩
    simp [go_sem, hq, thn, h1]; exact snap_dat rfl rfl
  replace h1 := Decidable.not_not.mp h1
  by_cases h2 : sgn a.kind b.kind ≠ 0
  · simp [go_sem, box2, two_a, two_b, two_a0, two_b0, q1, q2, call176, h1, h2]
    refine hR _ _ _ (.inr rfl) ⟨_, rfl, ?_⟩
    simp [go_sem, hq, thn, h1, h2]; exact snap_dat rfl rfl
  replace h2 := Decidable.not_not.mp h2
  by_cases h3 : ncmp a.name b.name = -1
  · simp [go_sem, box2, two_a, two_b, two_a0, two_b0, two_a1, two_b1, q1, q2, call176, h1, h2, lss_str, h3]
    refine hR _ _ _ (.inr rfl) ⟨_, rfl, ?_⟩
    simp only [ncmp] at h3
    simp [go_sem, hq, thn, h1, h2, h3]; exact snap_dat rfl rfl
  by_cases h4 : ncmp a.name b.name = 1
  · simp [go_sem, box2, two_a, two_b, two_a0, two_b0, two_a1, two_b1, q1, q2, call176, h1, h2, lss_str, gtr_str, h4]
    refine hR _ _ _ (.inr rfl) ⟨_, rfl, ?_⟩
    simp only [ncmp] at h4
    simp [go_sem, hq, thn, h1, h2, h4]; exact snap_dat rfl rfl
  have h0 : Lib.compareBytes a.name.data.toList b.name.data.toList = 0 := by
    rcases cb_range a.name.data.toList b.name.data.toList with e | e | e
    · exact absurd e h3
    · exact e
    · exact absurd e h4
  by_cases h5 : sgn a.sort b.sort ≠ 0
  · simp [go_sem, box2, two_a, two_b, two_a0, two_b0, two_a1, two_b1, two_a2, two_b2, q1, q2, call176, h1, h2, lss_str, gtr_str, h3, h4, h5]
    refine hR _ _ _ (.inr rfl) ⟨_, rfl, ?_⟩
    simp [go_sem, hq, thn, h1, h2, h0, h5]; exact snap_dat rfl rfl
  replace h5 := Decidable.not_not.mp h5
  by_cases h6 : sgn a.kids.length b.kids.length ≠ 0
  · simp [go_sem, box2, two_a, two_b, two_a0, two_b0, two_a1, two_b1, two_a2, two_b2, two_a3, two_b3, len23, q1, q2, call176, h1, h2, lss_str, gtr_str, h3, h4, h5, h6]
    refine hR _ _ _ (.inr rfl) ⟨_, rfl, ?_⟩
    simp [go_sem, hq, thn, h1, h2, h0, h5, h6]; exact snap_dat rfl rfl
  replace h6 := Decidable.not_not.mp h6
  have hl : a.kids.length = b.kids.length := by have := sgn_zero.mp h6; omega
  have hq' : a.cmp b = cmps a.kids b.kids := by rw [hq, h1, h2, h0, h5, h6]; rfl
  simp [go_sem, box2, two_a, two_b, two_a0, two_b0, two_a1, two_b1, two_a2, two_b2, two_a3, two_b3, len23, q1, q2, call176, h1, h2, lss_str, gtr_str, h3, h4, h5, h6]
  refine W_loop (NI118 a b) a.kids.length ⟨0, by simp [go_sem]⟩ ?_
  rintro n s h ⟨k, rfl, hk, rfl, g2, g3, g9, hd⟩
  by_cases hlt : k < a.kids.length
  · have hlt' : (k : Int) < a.kids.length := by omega
    have hltb : k < b.kids.length := by omega
    have hix := idx23 a.kids k hlt .unk
    have hiy := idx23 b.kids k hltb .unk
    have hck : ∀ h, callV C h (.func 118 []) (some [enc a.kids[k], enc b.kids[k]]) = some (.int .i64 (a.kids[k].cmp b.kids[k]), h) := fun h => callV_strip (by kernel_rfl) rfl (dat_enc2 _ _) (by simp [short_enc]) (by simp) (hc _ (List.getElem_mem hlt) _ (List.getElem_mem hltb))
    have e3 := len_sizes a.kids
    have e4 := size_kids a
    have w2 : IntKind.i64.wrap ((k : Int) + 1) = ((k + 1 : Nat) : Int) := by rw [wrap_in (by omega)]; omega
    rw [List.drop_eq_getElem_cons hlt, List.drop_eq_getElem_cons hltb, cmps] at hd
    by_cases hz : a.kids[k].cmp b.kids[k] ≠ 0
    · simp [go_sem, g2, g3, g9, two_a3, two_b3, len23, hlt', hix, hiy, ld25, hck, hz]
      refine hR _ _ _ (.inr rfl) ⟨_, rfl, ?_⟩
      rw [thn, if_neg hz] at hd
      simp [go_sem, hq', ← hd]; exact snap_dat rfl rfl
    · replace hz := Decidable.not_not.mp hz
      rw [hz, thn, if_pos rfl] at hd
      simp [go_sem, g2, g3, g9, two_a3, two_b3, len23, hlt', hix, hiy, ld25, hck, hz, -Int.natCast_add, w2]
      refine ⟨a.kids.length - (k + 1), by omega, k + 1, rfl, hlt, rfl, ?_, ?_, ?_, hd⟩ <;> simp [go_sem, g2, g3]
  · have : k = a.kids.length := by omega
    subst this
    rw [List.drop_length, hl, List.drop_length] at hd
    simp [go_sem, g2, g9, two_a3, len23]
    refine hR _ _ _ (.inr rfl) ⟨_, rfl, ?_⟩
    simp [go_sem, hq', ← hd, cmps]; exact snap_dat rfl rfl
theorem cmp118_all (a : T) : ∀ b : T, a.size < 4000000 → b.size < 4000000 → CallP C 118 [enc a, enc b] = some (.int .i64 (a.cmp b)) := by
  induction a using T.ind with
  | _ a ih => exact fun b hs hs2 => cmp118 a b hs hs2 fun k hk m hm => ih k hk m (by have := kid_size hk; omega) (by have := kid_size hm; omega)
theorem call118 (a b : T) (hs : a.size < 4000000) (hs2 : b.size < 4000000) (h : H) : callV C h (.func 118 []) (some [enc a, enc b]) = some (.int .i64 (a.cmp b), h) := callV_strip (by kernel_rfl) rfl (dat_enc2 _ _) (by simp [short_enc]) (by simp) (cmp118_all a b hs hs2)
end Go.VZ

/- Terms compared: the program's way. -/
namespace Go.VZ
open Go Go.V Go.Proofs TL
/-- What the comparison has come to ahead of the kids. -/
def head (a b : T) : Int := thn (sgn a.size b.size) (thn (sgn a.kind b.kind) (thn (ncmp a.name b.name) (thn (sgn a.sort b.sort) (sgn a.kids.length b.kids.length))))
theorem thn_assoc (a b c : Int) : thn (thn a b) c = thn a (thn b c) := by unfold thn; split <;> simp_all
theorem cmp_head (a b : T) : a.cmp b = thn (head a b) (cmps a.kids b.kids) := by
  rw [cmp_eq, head]; simp only [thn_assoc, ncmp]
def NI112 (a b : T) (n : Nat) (s : PT) (h : H) : Prop := ∃ k : Nat, ∃ c : Int, n = a.kids.length - k ∧ k ≤ a.kids.length ∧ h = two a b ∧ s.get 2 = .ptr 0 0 ∧ s.get 3 = .ptr 1 0 ∧ s.get 6 = .int .i64 k ∧ s.get 5 = .int .i64 c ∧
  (c = 0 → a.kids.length = b.kids.length) ∧ thn c (cmps (a.kids.drop k) (b.kids.drop k)) = a.cmp b
set_option maxHeartbeats 4000000 in
theorem cmp112 (a b : T) (hs : a.size < 4000000) (hs2 : b.size < 4000000) (hc : ∀ k ∈ a.kids, ∀ m ∈ b.kids, CallP C 112 [enc k, enc m] = some (.int .i64 (k.cmp m))) : CallP C 112 [enc a, enc b] = some (.int .i64 (a.cmp b)) := by
  refine CallP_W rfl Tryz.func112 rfl (by kernel_rfl) (by simp [Tryz.f112]) fun R hR => ?_
  have q1 := call172 a hs
  have q2 := call172 b hs2
  have hn : ncmp a.name b.name = Lib.compareBytes a.name.data.toList b.name.data.toList := rfl
  have hl : head a b = 0 → a.kids.length = b.kids.length := fun h => by
    rw [head, thn_zero, thn_zero, thn_zero, thn_zero] at h
    have := sgn_zero.mp h.2.2.2.2; omega
  by_cases h1 : sgn a.size b.size = 0 <;> by_cases h2 : sgn a.kind b.kind = 0 <;> by_cases h3 : ncmp a.name b.name = 0 <;> by_cases h4 : sgn a.sort b.sort = 0
  all_goals
    simp [go_sem, box2, two_a, two_b, two_a0, two_b0, two_a1, two_b1, two_a2, two_b2, two_a3, two_b3, len23, q1, q2, call171, call173, ← hn, h1, h2, h3, h4]
    refine W_loop (NI112 a b) a.kids.length ⟨0, head a b, rfl, Nat.zero_le _, rfl, by simp [go_sem], by simp [go_sem], by simp [go_sem], by simp [go_sem, head, thn, h1, h2, h3, h4], hl, by simp [cmp_head]⟩ ?_
    rintro n s h ⟨k, c, rfl, hk, rfl, g2, g3, g6, g5, hz, hd⟩
    by_cases hc0 : c = 0
    · subst hc0
      by_cases hlt : k < a.kids.length
      · have hlt' : (k : Int) < a.kids.length := by omega
        have hltb : k < b.kids.length := by have := hz rfl; omega
        have hix := idx23 a.kids k hlt .unk
        have hiy := idx23 b.kids k hltb .unk
        have hck : ∀ h, callV C h (.func 112 []) (some [enc a.kids[k], enc b.kids[k]]) = some (.int .i64 (a.kids[k].cmp b.kids[k]), h) := fun h => callV_strip (by kernel_rfl) rfl (dat_enc2 _ _) (by simp [short_enc]) (by simp) (hc _ (List.getElem_mem hlt) _ (List.getElem_mem hltb))
        have e3 := len_sizes a.kids
        have e4 := size_kids a
        have w2 : IntKind.i64.wrap ((k : Int) + 1) = ((k + 1 : Nat) : Int) := by rw [wrap_in (by omega)]; omega
        rw [List.drop_eq_getElem_cons hlt, List.drop_eq_getElem_cons hltb, cmps, thn, if_pos rfl] at hd
        simp [go_sem, g2, g3, g5, g6, two_a3, two_b3, len23, hlt', hix, hiy, ld25, hck, -Int.natCast_add, w2]
        exact ⟨a.kids.length - (k + 1), by omega, k + 1, a.kids[k].cmp b.kids[k], by simp [go_sem, g2, g3, hd]; exact ⟨by omega, fun _ => hz rfl⟩⟩
      · have : k = a.kids.length := by omega
        subst this
        rw [List.drop_length, hz rfl, List.drop_length] at hd
        simp [go_sem, g2, g5, g6, two_a3, len23]
        refine hR _ _ _ (.inr rfl) ⟨_, rfl, ?_⟩
        simp [go_sem, ← hd, cmps, thn]; exact snap_dat rfl rfl
    · rw [thn, if_neg hc0] at hd
      simp [go_sem, g5, hc0]
      refine hR _ _ _ (.inr rfl) ⟨_, rfl, ?_⟩
      simp [go_sem, ← hd]; exact snap_dat rfl rfl
theorem cmp112_all (a : T) : ∀ b : T, a.size < 4000000 → b.size < 4000000 → CallP C 112 [enc a, enc b] = some (.int .i64 (a.cmp b)) := by
  induction a using T.ind with
  | _ a ih => exact fun b hs hs2 => cmp112 a b hs hs2 fun k hk m hm => ih k hk m (by have := kid_size hk; omega) (by have := kid_size hm; omega)
theorem call112 (a b : T) (hs : a.size < 4000000) (hs2 : b.size < 4000000) (h : H) : callV C h (.func 112 []) (some [enc a, enc b]) = some (.int .i64 (a.cmp b), h) := callV_strip (by kernel_rfl) rfl (dat_enc2 _ _) (by simp [short_enc]) (by simp) (cmp112_all a b hs hs2)
end Go.VZ

/- Terms equal, lists of terms equal. -/
namespace Go.VZ
open Go Go.V Go.Proofs TL
theorem same69 (a b : T) (hs : a.size < 4000000) (hs2 : b.size < 4000000) : CallP C 69 [enc a, enc b] = some (.bool (decide (a.cmp b = 0))) := by
  refine CallP_W rfl Tryz.func69 rfl (by kernel_rfl) (by simp [Tryz.f69]) fun R hR => ?_
  have q := call118 a b hs hs2
  simp [go_sem, box2, two_a, two_b, q]
  refine hR _ _ _ (.inr rfl) ⟨_, rfl, ?_⟩
  simp [go_sem]; exact snap_dat rfl rfl
theorem call69 (a b : T) (hs : a.size < 4000000) (hs2 : b.size < 4000000) (h : H) : callV C h (.func 69 []) (some [enc a, enc b]) = some (.bool (decide (a.cmp b = 0)), h) := callV_strip (by kernel_rfl) rfl (dat_enc2 _ _) (by simp [short_enc]) (by simp) (same69 a b hs hs2)
def NI110 (l m : List T) (n : Nat) (s : PT) (h : H) : Prop := ∃ k : Nat, n = l.length - k ∧ k ≤ l.length ∧ h = [] ∧ s.get 0 = .isl (l.map enc) .unk ∧ s.get 1 = .isl (m.map enc) .unk ∧ s.get 5 = .int .i64 k ∧ (l.drop k = m.drop k ↔ l = m)
set_option maxHeartbeats 1000000 in
theorem lists110 (l m : List T) (hl : ∀ t ∈ l, t.size < 4000000) (hm : ∀ t ∈ m, t.size < 4000000) (hn : l.length < 4000000) : CallP C 110 [terms l, terms m] = some (.bool (decide (l = m))) := by
  refine CallP_W rfl Tryz.func110 rfl (by kernel_rfl) (by simp [Tryz.f110]) fun R hR => ?_
  by_cases he : l.length = m.length
  · have he' : (l.length : Int) = m.length := by omega
    simp [go_sem, terms, len23, he']
    refine W_loop (NI110 l m) l.length ⟨0, rfl, Nat.zero_le _, rfl, by simp [go_sem, terms], by simp [go_sem, terms], by simp [go_sem], by simp⟩ ?_
    rintro n s h ⟨k, rfl, hk, rfl, g0, g1, g5, hd⟩
    by_cases hlt : k < l.length
    · have hlt' : (k : Int) < l.length := by omega
      have hltb : k < m.length := by omega
      have hix := idx23 l k hlt .unk
      have hiy := idx23 m k hltb .unk
      have hck := call69 l[k] m[k] (hl _ (List.getElem_mem hlt)) (hm _ (List.getElem_mem hltb))
      have w2 : IntKind.i64.wrap ((k : Int) + 1) = ((k + 1 : Nat) : Int) := by rw [wrap_in (by omega)]; omega
      rw [List.drop_eq_getElem_cons hlt, List.drop_eq_getElem_cons hltb, List.cons.injEq] at hd
      by_cases hz : l[k].cmp m[k] = 0
      · simp [go_sem, g0, g1, g5, len23, hlt', hix, hiy, ld25, hck, hz, -Int.natCast_add, w2]
        rw [cmp_zero] at hz
        exact ⟨l.length - (k + 1), by omega, k + 1, rfl, hlt, rfl, by simp [go_sem, g0], by simp [go_sem, g1], by simp [go_sem], by rw [← hd]; exact ⟨fun e => ⟨hz, e⟩, fun e => e.2⟩⟩
      · simp [go_sem, g0, g1, g5, len23, hlt', hix, hiy, ld25, hck, hz]
        refine hR _ _ _ (.inr rfl) ⟨_, rfl, ?_⟩
        have hne : l ≠ m := fun e => hz (cmp_zero.mpr (hd.mpr e).1)
        simp [go_sem, hne]; exact snap_dat rfl rfl
    · have : k = l.length := by omega
      subst this
      rw [List.drop_length, he, List.drop_length] at hd
      have e := hd.mp rfl
      simp [go_sem, g0, g5, len23]
      refine hR _ _ _ (.inr rfl) ⟨_, rfl, ?_⟩
      simp [go_sem, e]; exact snap_dat rfl rfl
  · have he' : ¬ (l.length : Int) = m.length := by omega
    simp [go_sem, initS, terms, len23, he']
    refine hR _ _ _ (.inr rfl) ⟨_, rfl, ?_⟩
    have hne : l ≠ m := fun e => he (by rw [e])
    simp [go_sem, hne]; exact snap_dat rfl rfl
end Go.VZ

/- The bytes of a name. -/
namespace Go.VZ
open Go Go.V Go.Proofs TL
def letB (c : Nat) : Bool := (decide (97 ≤ c) && decide (c ≤ 122)) || (decide (65 ≤ c) && decide (c ≤ 90))
def digB (c : Nat) : Bool := decide (48 ≤ c) && decide (c ≤ 57)
def partB (c : Nat) : Bool := letB c || digB c || c == 95 || c == 35
def isB (b : Bool) : Option (AV × H) → Bool
  | some (.bool x, _) => x == b
  | _ => false
theorem isB_CallP {n : Nat} {f : FuncId} {args : List AV} {b : Bool} (h : isB b (callR C n f args []) = true) : CallP C f args = some (.bool b) := by
  cases hx : callR C n f args [] with
  | none => rw [hx] at h; cases h
  | some x =>
    obtain ⟨r, h1⟩ := x
    rw [hx] at h
    unfold isB at h
    split at h <;> first | (cases h; done) | skip
    rename_i e
    simp only [Option.some.injEq, Prod.mk.injEq] at e
    obtain ⟨rfl, rfl⟩ := e
    have := eq_of_beq h
    subst this
    unfold CallP
    rw [Call_of n hx]
    exact snap_dat rfl rfl
theorem part_all : (List.range 256).all (fun c => isB (partB c) (callR C 100 286 [.int .u8 c] [])) = true := by kernel_rfl
theorem letter_all : (List.range 256).all (fun c => isB (letB c) (callR C 100 301 [.int .u8 c] [])) = true := by kernel_rfl
theorem digit_all : (List.range 256).all (fun c => isB (digB c) (callR C 100 302 [.int .u8 c] [])) = true := by kernel_rfl
theorem part_call (c : Nat) (hc : c < 256) : CallP C 286 [.int .u8 c] = some (.bool (partB c)) := isB_CallP (n := 100) (List.all_eq_true.mp part_all c (List.mem_range.mpr hc))
theorem letter_call (c : Nat) (hc : c < 256) : CallP C 301 [.int .u8 c] = some (.bool (letB c)) := isB_CallP (n := 100) (List.all_eq_true.mp letter_all c (List.mem_range.mpr hc))
theorem digit_call (c : Nat) (hc : c < 256) : CallP C 302 [.int .u8 c] = some (.bool (digB c)) := isB_CallP (n := 100) (List.all_eq_true.mp digit_all c (List.mem_range.mpr hc))
theorem call286 (c : Nat) (hc : c < 256) (h : H) : callV C h (.func 286 []) (some [.int .u8 c]) = some (.bool (partB c), h) := callV_strip (by kernel_rfl) rfl rfl rfl (by simp) (part_call c hc)
theorem call301 (c : Nat) (hc : c < 256) (h : H) : callV C h (.func 301 []) (some [.int .u8 c]) = some (.bool (letB c), h) := callV_strip (by kernel_rfl) rfl rfl rfl (by simp) (letter_call c hc)
theorem call302 (c : Nat) (hc : c < 256) (h : H) : callV C h (.func 302 []) (some [.int .u8 c]) = some (.bool (digB c), h) := callV_strip (by kernel_rfl) rfl rfl rfl (by simp) (digit_call c hc)
end Go.VZ

/- A byte of a string. -/
namespace Go.VZ
open Go Go.V Go.Proofs TL
theorem u9 : C.P.underlying 9 = some .string := Tryz.underlying9
theorem index9 (s : ByteArray) (k : Nat) (hk : k < s.size) : indexV C.P 9 (.str s) (.int .i64 k) = some (.int .u8 (s[k]).toNat) := by
  have e : pureVal C.P (Instr.index 9 (.string s) (.int .i64 k)) = some (.int .u8 (s[k]).toNat) := by
    have hu : pureVal C.P (underlying 9) = some .string := by kernel_rfl
    have hg : s[k]? = some s[k] := by simp [hk]
    simp only [Instr.index, pureVal_bind, asIntOf, pureVal_pure, Option.bind_some, hu]
    simp [hg, pureVal_pure]
  simp only [indexV, e, ofConst, ofScalar]
@[go_sem] theorem OWindex {C : Cfg} {cf : FuncId} {ops : Array Oper} {d : Tmp} {ty : TypeId} {p : String} {af : Array Edge} {l : List Oper} {s : PT} {h : H} {K : PT → H → Prop} (t : TypeId) (x i : Operand) :
    OW C cf ops (⟨some d, .index t x i, ty, p, af, none⟩ :: l) s h K ↔ bO (bi2 (ev s x) (ev s i) (indexV C.P t)) fun v => OW C cf ops l (s.set d v) h K := OWn (by simp only [opN, bi2]; cases ev s x <;> cases ev s i <;> rfl) rfl rfl
end Go.VZ

/- Names: the document's way. -/
namespace Go.VZ
open Go Go.V Go.Proofs TL
def byteAt (s : ByteArray) (k : Nat) : Nat := if h : k < s.size then (s[k]).toNat else 0
theorem byteAt_lt (s : ByteArray) (k : Nat) : byteAt s k < 256 := by
  unfold byteAt; split
  · exact UInt8.toNat_lt _
  · omega
theorem index9b (s : ByteArray) (k : Nat) (hk : k < s.size) : indexV C.P 9 (.str s) (.int .i64 k) = some (.int .u8 (byteAt s k)) := by
  rw [index9 s k hk]; simp [byteAt, hk]
/-- All bytes from k on can stand in a name. -/
def tailB (s : ByteArray) : Nat → Nat → Bool
  | _, 0 => true
  | k, n + 1 => partB (byteAt s k) && tailB s (k + 1) n
def nameB (s : ByteArray) : Bool := decide (s.size ≠ 0) && decide (s.size ≤ 24) && letB (byteAt s 0) && tailB s 0 s.size
theorem len9 (s : ByteArray) : lenV C.P 9 (.str s) = some (.int .i64 s.size) := by simp [lenV, u9]
def NI261 (s : ByteArray) (z n : Nat) (t : PT) (h : H) : Prop := ∃ k : Nat, n = z - k ∧ k ≤ z ∧ h = [] ∧ t.get 0 = .str s ∧ t.get 3 = .int .i64 k ∧ tailB s k (z - k) = nameB s
set_option maxHeartbeats 1000000 in
theorem isName261 (s : ByteArray) : CallP C 261 [.str s] = some (.bool (nameB s)) := by
  refine CallP_W rfl Tryz.func261 rfl (by kernel_rfl) (by simp [Tryz.f261]) fun R hR => ?_
  have len9 := len9 s
  have hn : nameB s = (decide (s.size ≠ 0) && decide (s.size ≤ 24) && letB (byteAt s 0) && tailB s 0 s.size) := rfl
  have hix := index9b s
  generalize s.size = z at len9 hn hix
  by_cases h0 : z = 0
  · have h0' : (z : Int) = 0 := by omega
    simp [go_sem, len9, h0']
    refine hR _ _ _ (.inr rfl) ⟨_, rfl, ?_⟩
    have : nameB s = false := by simp [hn, h0]
    simp [go_sem, this]; exact snap_dat rfl rfl
  have h0' : ¬ (z : Int) = 0 := by omega
  by_cases h24 : 24 < z
  · have h24' : (24 : Int) < z := by omega
    simp [go_sem, len9, h0, h24']
    refine hR _ _ _ (.inr rfl) ⟨_, rfl, ?_⟩
    have : nameB s = false := by rw [hn, decide_eq_false (show ¬ z ≤ 24 by omega)]; simp
    simp [go_sem, this]; exact snap_dat rfl rfl
  have h24' : ¬ (24 : Int) < z := by omega
  have hi0 := hix 0 (by omega)
  have hc0 := call301 (byteAt s 0) (byteAt_lt s 0)
  simp only [show ((0 : Nat) : Int) = 0 from rfl] at hi0
  by_cases hl : letB (byteAt s 0) = false
  · simp [go_sem, len9, h0, h24', hi0, hc0, hl]
    refine hR _ _ _ (.inr rfl) ⟨_, rfl, ?_⟩
    have : nameB s = false := by simp [hn, hl]
    simp [go_sem, this]; exact snap_dat rfl rfl
  replace hl : letB (byteAt s 0) = true := by simpa using hl
  have hn' : nameB s = tailB s 0 z := by rw [hn, hl, decide_eq_true h0, decide_eq_true (show z ≤ 24 by omega)]; simp
  simp [go_sem, len9, h0, h24', hi0, hc0, hl]
  refine W_loop (NI261 s z) z ⟨0, rfl, Nat.zero_le _, rfl, by simp [go_sem], by simp [go_sem], by rw [hn']; rfl⟩ ?_
  rintro n t h ⟨k, rfl, hk, rfl, g0, g3, hd⟩
  by_cases hlt : k < z
  · have hlt' : (k : Int) < z := by omega
    have hi := hix k hlt
    have c1 := call301 (byteAt s k) (byteAt_lt s k)
    have c2 := call302 (byteAt s k) (byteAt_lt s k)
    have w2 : IntKind.i64.wrap ((k : Int) + 1) = ((k + 1 : Nat) : Int) := by rw [wrap_in (by omega)]; omega
    rw [show z - k = (z - (k + 1)) + 1 by omega, tailB, partB] at hd
    by_cases d1 : letB (byteAt s k) = true <;> by_cases d2 : digB (byteAt s k) = true <;> by_cases d3 : (byteAt s k : Int) = 95 <;> by_cases d4 : (byteAt s k : Int) = 35
    all_goals
      have d3' : (byteAt s k == 95) = decide ((byteAt s k : Int) = 95) := by rw [Bool.eq_iff_iff]; simp; omega
      have d4' : (byteAt s k == 35) = decide ((byteAt s k : Int) = 35) := by rw [Bool.eq_iff_iff]; simp; omega
      rw [d3', d4'] at hd
      simp [d1, d2, d3, d4] at hd
      try rw [d3] at hi c1 c2
      try rw [d4] at hi c1 c2
      simp [go_sem, len9, g0, g3, hlt', hi, c1, c2, d1, d2, d3, d4, -Int.natCast_add, w2]
      first
        | (exfalso; omega)
        | exact ⟨z - (k + 1), by omega, k + 1, rfl, hlt, rfl, by simp [go_sem, g0], by simp [go_sem], hd⟩
        | (refine hR _ _ _ (.inr rfl) ⟨_, rfl, ?_⟩; simp [go_sem, hd]; exact snap_dat rfl rfl)
  · have : k = z := by omega
    subst this
    simp [go_sem, len9, g0, g3]
    refine hR _ _ _ (.inr rfl) ⟨_, rfl, ?_⟩
    rw [Nat.sub_self, tailB] at hd
    simp [go_sem, ← hd]; exact snap_dat rfl rfl
end Go.VZ

/- Names: the program's way; a node of a term: the document's way. -/
namespace Go.VZ
open Go Go.V Go.Proofs TL
theorem eql_str (x y : Operand) (a b : ByteArray) : binV C.P .eql 9 x y (.str a) (.str b) = some (.bool (decide (a = b))) := by
  have e : pureVal C.P (do eqGuard BinOp.eql 9 x y (.string a) (.string b); binOp .eql 9 (.string a) (.string b)) = some (.bool (a.toList == b.toList)) := by
    simp [eqGuard, binOp, Op.stringOp]
    try rfl
  simp only [binV, toVal, toScalar, e, ofConst, ofScalar]
  congr 2
  have : a.toList = b.toList ↔ a = b := by
    have ha : a.toList = a.data.toList := ByteArray.toList_eq a
    have hb : b.toList = b.data.toList := ByteArray.toList_eq b
    rw [ha, hb]; exact name_inj
  by_cases h : a = b
  · subst h; simp
  · have h' : ¬ a.toList = b.toList := fun e => h (this.1 e)
    simp [h, h']
/-- What is wrong with a node alone. -/
def badN (t : T) : Bool := (decide (t.kind ≠ 1) && decide (t.kind ≠ 2) && decide (t.kind ≠ 3)) || decide (t.sort < 0) || decide (5 < t.sort) || (decide (t.kind ≠ 1) && decide (t.kind ≠ 2) && decide (t.sort ≠ 0)) || ((decide (t.kind = 1) || decide (t.kind = 2)) && decide (0 < t.kids.length))
def nodeE (t : T) : Int := if badN t = true then 1 else if nameB t.name = false then 2 else if 8 < t.kids.length then 3 else 0
theorem ld3k (k s : Int) (n : ByteArray) (q : AV) : loadV C.P [.cells [.int .i64 k, .str n, .int .i64 s, q] .live] 3 (.ptr 0 0) = some (.int .i64 k) := by simp [loadV, cellsAt, a3, s3]
theorem ld9n (k s : Int) (n : ByteArray) (q : AV) : loadV C.P [.cells [.int .i64 k, .str n, .int .i64 s, q] .live] 9 (.ptr 0 1) = some (.str n) := by simp [loadV, cellsAt, a9, s9]
theorem ld3s (k s : Int) (n : ByteArray) (q : AV) : loadV C.P [.cells [.int .i64 k, .str n, .int .i64 s, q] .live] 3 (.ptr 0 2) = some (.int .i64 s) := by simp [loadV, cellsAt, a3, s3]
theorem ld23q (k s : Int) (n : ByteArray) (es : List AV) (x : Ext) : loadV C.P [.cells [.int .i64 k, .str n, .int .i64 s, .isl es x] .live] 23 (.ptr 0 3) = some (.isl es x) := by simp [loadV, cellsAt, a23, s23]
theorem callV261 (s : ByteArray) (h : H) : callV C h (.func 261 []) (some [.str s]) = some (.bool (nameB s), h) := callV_strip (by kernel_rfl) rfl rfl rfl (by simp) (isName261 s)
set_option maxHeartbeats 2000000 in
theorem node213 (t : T) : CallP C 213 [enc t] = some (.int .i64 (nodeE t)) := by
  refine CallP_W rfl Tryz.func213 rfl (by kernel_rfl) (by simp [Tryz.f213]) fun R hR => ?_
  have c1 := callV261 t.name
  simp +contextual [go_sem, terms, ld3k, ld3s, ld23q, len23]
  refine Ife_iff.2 ⟨fun h1 => ?_, fun h1 => ?_⟩
  · have hb : badN t = true := by simpa [badN] using h1
    simp [go_sem]
    refine hR _ _ _ (.inr rfl) ⟨_, rfl, ?_⟩
    simp [go_sem, nodeE, hb]; exact snap_dat rfl rfl
  have hb : badN t = false := by simpa [badN] using h1
  simp +contextual [go_sem, ld9n, c1]
  refine Ife_iff.2 ⟨fun h2 => ?_, fun h2 => ?_⟩
  · simp [go_sem]
    refine hR _ _ _ (.inr rfl) ⟨_, rfl, ?_⟩
    simp [go_sem, nodeE, hb, h2]; exact snap_dat rfl rfl
  simp at h2
  simp +contextual [go_sem, ld23q, len23]
  refine Ife_iff.2 ⟨fun h3 => ?_, fun h3 => ?_⟩
  · simp [go_sem]
    refine hR _ _ _ (.inr rfl) ⟨_, rfl, ?_⟩
    simp [go_sem, nodeE, hb, h2, show 8 < t.kids.length by omega]; exact snap_dat rfl rfl
  · simp [go_sem]
    refine hR _ _ _ (.inr rfl) ⟨_, rfl, ?_⟩
    simp [go_sem, nodeE, hb, h2, show ¬ 8 < t.kids.length by omega]; exact snap_dat rfl rfl
end Go.VZ

/- Names: the program's way. -/
namespace Go.VZ
open Go Go.V Go.Proofs TL
theorem u8_eq (n : Nat) : (decide ((n : Int) = 95)) = (n == 95) := by rw [Bool.eq_iff_iff]; simp; omega
theorem first_all : (List.range 256).all (fun c => (partB c && !(decide (48 ≤ c) && decide (c ≤ 57)) && !(decide (c = 95)) && !(decide (c = 35))) == letB c) = true := by kernel_rfl
theorem first_part (c : Nat) (hc : c < 256) : (partB c && !(decide (48 ≤ c) && decide (c ≤ 57)) && !(decide (c = 95)) && !(decide (c = 35))) = letB c := eq_of_beq (List.all_eq_true.mp first_all c (List.mem_range.mpr hc))
def NI232 (s : ByteArray) (z n : Nat) (t : PT) (h : H) : Prop := ∃ k : Nat, n = z - k ∧ k ≤ z ∧ h = [] ∧ t.get 0 = .str s ∧ t.get 38 = .int .i64 z ∧ t.get 39 = .int .i64 k ∧ tailB s k (z - k) = nameB s
set_option maxHeartbeats 1000000 in
theorem isName232 (s : ByteArray) : CallP C 232 [.str s] = some (.bool (nameB s)) := by
  refine CallP_W rfl Tryz.func232 rfl (by kernel_rfl) (by simp [Tryz.f232]) fun R hR => ?_
  have hn : nameB s = (decide (s.size ≠ 0) && decide (s.size ≤ 24) && letB (byteAt s 0) && tailB s 0 s.size) := rfl
  have len9 := len9 s
  have hix := index9b s
  have he : (s = ⟨#[]⟩) ↔ s.size = 0 := ⟨fun e => by subst e; rfl, fun e => by cases s; simp [ByteArray.size] at e; simp [e]⟩
  by_cases h0 : s.size = 0
  · have h0' := he.2 h0
    simp +contextual [go_sem, eql_str, h0']
    refine hR _ _ _ (.inr rfl) ⟨_, rfl, ?_⟩
    have : nameB s = false := by simp [hn, h0]
    simp [go_sem, this]; exact snap_dat rfl rfl
  have h0' : ¬ s = ⟨#[]⟩ := fun e => h0 (he.1 e)
  have hi0 := hix 0 (by omega)
  have hc0 := call286 (byteAt s 0) (byteAt_lt s 0)
  have hlt := byteAt_lt s 0
  simp only [show ((0 : Nat) : Int) = 0 from rfl] at hi0
  have hfp := first_part (byteAt s 0) hlt
  generalize s.size = z at len9 hn hix h0
  by_cases h24 : 24 < z
  · have h24' : (24 : Int) < z := by omega
    simp +contextual [go_sem, eql_str, len9, h0', h24']
    refine hR _ _ _ (.inr rfl) ⟨_, rfl, ?_⟩
    have : nameB s = false := by rw [hn, decide_eq_false (show ¬ z ≤ 24 by omega)]; simp
    simp [go_sem, this]; exact snap_dat rfl rfl
  have h24' : ¬ (24 : Int) < z := by omega
  simp +contextual [go_sem, eql_str, len9, h0', h24', hi0, hc0]
  refine Ife_iff.2 ⟨fun h1 => ?_, fun h1 => ?_⟩
  · have hl : letB (byteAt s 0) = false := by
      cases hlb : letB (byteAt s 0) with
      | false => rfl
      | true =>
        rw [hlb] at hfp
        simp at hfp
        rw [hfp.1.1.1] at h1
        simp at h1
        omega
    simp [go_sem]
    refine hR _ _ _ (.inr rfl) ⟨_, rfl, ?_⟩
    have : nameB s = false := by rw [hn, hl]; simp
    simp [go_sem, this]; exact snap_dat rfl rfl
  have hl : letB (byteAt s 0) = true := by
    rw [← hfp]
    simp only [not_or] at h1
    have p1 : partB (byteAt s 0) = true := by simpa using h1.1.1.1
    have p2 := h1.1.1.2
    have p3 := h1.1.2
    have p4 := h1.2
    rw [p1, decide_eq_false (show ¬ byteAt s 0 = 95 by omega), decide_eq_false (show ¬ byteAt s 0 = 35 by omega)]
    by_cases q : 48 ≤ byteAt s 0
    · rw [decide_eq_false (show ¬ byteAt s 0 ≤ 57 by omega)]; simp
    · rw [decide_eq_false q]; simp
  have hn' : nameB s = tailB s 0 z := by rw [hn, hl, decide_eq_true h0, decide_eq_true (show z ≤ 24 by omega)]; simp
  simp +contextual [go_sem, len9]
  refine W_loop (NI232 s z) z ⟨0, rfl, Nat.zero_le _, rfl, by simp [go_sem], by simp [go_sem], by simp [go_sem], by rw [hn']; rfl⟩ ?_
  rintro n t h ⟨k, rfl, hk, rfl, g0, g38, g39, hd⟩
  by_cases hlt : k < z
  · have hlt' : (k : Int) < z := by omega
    have hi := hix k hlt
    have c1 := call286 (byteAt s k) (byteAt_lt s k)
    have w2 : IntKind.i64.wrap ((k : Int) + 1) = ((k + 1 : Nat) : Int) := by rw [wrap_in (by omega)]; omega
    rw [show z - k = (z - (k + 1)) + 1 by omega, tailB] at hd
    cases hp : partB (byteAt s k) with
    | true =>
      rw [hp, Bool.true_and] at hd
      simp [go_sem, g0, g38, g39, hlt', hi, c1, hp, -Int.natCast_add, w2]
      exact ⟨z - (k + 1), by omega, k + 1, rfl, hlt, rfl, by simp [go_sem, g0], by simp [go_sem, g38], by simp [go_sem], hd⟩
    | false =>
      rw [hp, Bool.false_and] at hd
      simp [go_sem, g0, g38, g39, hlt', hi, c1, hp]
      refine hR _ _ _ (.inr rfl) ⟨_, rfl, ?_⟩
      simp [go_sem, ← hd]; exact snap_dat rfl rfl
  · have : k = z := by omega
    subst this
    simp [go_sem, g38, g39]
    refine hR _ _ _ (.inr rfl) ⟨_, rfl, ?_⟩
    rw [Nat.sub_self, tailB] at hd
    simp [go_sem, ← hd]; exact snap_dat rfl rfl
theorem call232 (s : ByteArray) (h : H) : callV C h (.func 232 []) (some [.str s]) = some (.bool (nameB s), h) := callV_strip (by kernel_rfl) rfl rfl rfl (by simp) (isName232 s)
end Go.VZ

/- Validity of terms: the document's way. -/
namespace Go.VZ
open Go Go.V Go.Proofs TL
mutual
def nodesE : T → Int
  | .mk k n s l => thn (nodeE (.mk k n s l)) (nodesEs l)
def nodesEs : List T → Int
  | [] => 0
  | t :: l => thn (nodesE t) (nodesEs l)
end
theorem nodesE_eq (t : T) : nodesE t = thn (nodeE t) (nodesEs t.kids) := by cases t; rw [nodesE]; rfl
def validE (t : T) : Int := thn (nodesE t) (if 400 < t.size ∨ 40 < t.depth then 3 else 0)
theorem depth_eq (t : T) : t.depth = depths t.kids + 1 := by cases t; rw [T.depth]; rfl
/-- The cells of a term. -/
def tc (t : T) : List AV := [.int .i64 t.kind, .str t.name, .int .i64 t.sort, .isl (t.kids.map enc) .unk]
theorem ld25t (t : T) : loadV C.P [.cells [.int .i64 t.kind, .str t.name, .int .i64 t.sort, .isl (t.kids.map enc) .unk] .live] 25 (.ptr 0 0) = some (enc t) := by
  simp [loadV, cellsAt, a25, s25]; rw [enc_eq]; rfl
theorem node_range (t : T) : 0 ≤ nodeE t ∧ nodeE t ≤ 3 := by unfold nodeE; split <;> (try split) <;> (try split) <;> omega
theorem call213 (t : T) (h : H) : callV C h (.func 213 []) (some [enc t]) = some (.int .i64 (nodeE t), h) := callV_strip (by kernel_rfl) rfl (dat_enc _) (by simp [short_enc]) (by simp) (node213 t)
def NI143 (t : T) (n : Nat) (s : PT) (h : H) : Prop := ∃ k : Nat, n = t.kids.length - k ∧ k ≤ t.kids.length ∧ h = [.cells (tc t) .live] ∧ s.get 1 = .ptr 0 0 ∧ s.get 4 = .int .i64 k ∧ nodesEs (t.kids.drop k) = nodesE t
set_option maxHeartbeats 1000000 in
theorem nodes143 (t : T) (hs : t.size < 4000000) (hc : ∀ k ∈ t.kids, CallP C 143 [enc k] = some (.int .i64 (nodesE k))) : CallP C 143 [enc t] = some (.int .i64 (nodesE t)) := by
  refine CallP_W rfl Tryz.func143 rfl (by kernel_rfl) (by simp [Tryz.f143]) fun R hR => ?_
  have c1 := call213 t
  have hq := nodesE_eq t
  by_cases h1 : nodeE t = 0
  · simp +contextual [go_sem, terms, ld25t, c1, h1]
    refine W_loop (NI143 t) t.kids.length ⟨0, rfl, Nat.zero_le _, rfl, by simp [go_sem], by simp [go_sem], by rw [hq, h1]; rfl⟩ ?_
    rintro n s h ⟨k, rfl, hk, rfl, g1, g4, hd⟩
    have hlen := len_sizes t.kids
    have hsz := size_kids t
    by_cases hlt : k < t.kids.length
    · have hlt' : (k : Int) < t.kids.length := by omega
      have hix := idx23 t.kids k hlt .unk
      have ck : ∀ h, callV C h (.func 143 []) (some [enc t.kids[k]]) = some (.int .i64 (nodesE t.kids[k]), h) := fun h => callV_strip (by kernel_rfl) rfl (dat_enc _) (by simp [short_enc]) (by simp) (hc _ (List.getElem_mem hlt))
      have w1 : IntKind.i64.wrap ((k : Int) + 1) = ((k + 1 : Nat) : Int) := by rw [wrap_in (by omega)]; omega
      rw [List.drop_eq_getElem_cons hlt, nodesEs] at hd
      by_cases h2 : nodesE t.kids[k] = 0
      · rw [h2] at hd
        simp [go_sem, tc, ld23q, len23, g1, g4, hlt', hix, ld25, ck, h2, -Int.natCast_add, w1]
        exact ⟨t.kids.length - (k + 1), by omega, k + 1, rfl, hlt, rfl, by simp [go_sem, g1], by simp [go_sem], hd⟩
      · simp [go_sem, tc, ld23q, len23, g1, g4, hlt', hix, ld25, ck, h2]
        refine hR _ _ _ (.inr rfl) ⟨_, rfl, ?_⟩
        simp [go_sem, ← hd, thn, h2]; exact snap_dat rfl rfl
    · have : k = t.kids.length := by omega
      subst this
      simp [go_sem, tc, ld23q, len23, g1, g4]
      refine hR _ _ _ (.inr rfl) ⟨_, rfl, ?_⟩
      rw [List.drop_length, nodesEs] at hd
      simp [go_sem, ← hd]; exact snap_dat rfl rfl
  · simp +contextual [go_sem, initS, terms, ld25t, c1, h1]
    refine hR _ _ _ (.inr rfl) ⟨_, rfl, ?_⟩
    simp [go_sem, hq, thn, h1]; exact snap_dat rfl rfl
theorem nodes143_all (t : T) : t.size < 4000000 → CallP C 143 [enc t] = some (.int .i64 (nodesE t)) := by
  induction t using T.ind with
  | _ t ih => exact fun hs => nodes143 t hs (fun k hk => ih k hk (by have := kid_size hk; omega))
theorem call143 (t : T) (hs : t.size < 4000000) (h : H) : callV C h (.func 143 []) (some [enc t]) = some (.int .i64 (nodesE t), h) := callV_strip (by kernel_rfl) rfl (dat_enc _) (by simp [short_enc]) (by simp) (nodes143_all t hs)
theorem depth_le (t : T) : t.depth ≤ t.size ∧ 0 < t.depth := by
  induction t using T.ind with
  | _ t ih =>
    rw [depth_eq, size_kids]
    have : depths t.kids ≤ sizes t.kids := by
      generalize t.kids = l at ih
      induction l with
      | nil => simp [depths, sizes]
      | cons a l ihl =>
        have h1 := ih a (by simp)
        have h2 := ihl (fun k hk => ih k (by simp [hk]))
        rw [depths, sizes]; omega
    omega
def NI145 (t : T) (n : Nat) (s : PT) (h : H) : Prop := ∃ k c : Nat, n = t.kids.length - k ∧ k ≤ t.kids.length ∧ h = [.cells (tc t) .live] ∧ s.get 1 = .ptr 0 0 ∧ s.get 3 = .int .i64 c ∧ s.get 4 = .int .i64 k ∧ max c (depths (t.kids.drop k)) = depths t.kids
theorem max_int (P : Program) (a b : Int) : minmaxV P true [.int .i64 a, .int .i64 b] = some (.int .i64 (max a b)) := by
  simp only [minmaxV, toList, toScalar]
  have e : pureVal P (Builtin.max_ #[] 0 [Value.int .i64 a, .int .i64 b].toArray) = some (.int .i64 (max a b)) := by
    simp only [Builtin.max_, List.foldlM, Builtin.max2, pureVal_bind, pureVal_pure, Option.bind_some]
    congr 2
    split <;> omega
  simp [e, ofConst, ofScalar]
set_option maxHeartbeats 1000000 in
theorem depth145 (t : T) (hs : t.size < 4000000) (hc : ∀ k ∈ t.kids, CallP C 145 [enc k] = some (.int .i64 k.depth)) : CallP C 145 [enc t] = some (.int .i64 t.depth) := by
  refine CallP_W rfl Tryz.func145 rfl (by kernel_rfl) (by simp [Tryz.f145]) fun R hR => ?_
  simp +contextual [go_sem, terms]
  refine W_loop (NI145 t) t.kids.length ⟨0, 0, rfl, Nat.zero_le _, rfl, by simp [go_sem], by simp [go_sem], by simp [go_sem], by simp⟩ ?_
  rintro n s h ⟨k, c, rfl, hk, rfl, g1, g3, g4, hd⟩
  have hlen := len_sizes t.kids
  have hsz := size_kids t
  have hde := depth_eq t
  have hdl := (depth_le t).1
  by_cases hlt : k < t.kids.length
  · have hlt' : (k : Int) < t.kids.length := by omega
    have hix := idx23 t.kids k hlt .unk
    have ck : ∀ h, callV C h (.func 145 []) (some [enc t.kids[k]]) = some (.int .i64 (t.kids[k].depth : Nat), h) := fun h => callV_strip (by kernel_rfl) rfl (dat_enc _) (by simp [short_enc]) (by simp) (hc _ (List.getElem_mem hlt))
    have w1 : IntKind.i64.wrap ((k : Int) + 1) = ((k + 1 : Nat) : Int) := by rw [wrap_in (by omega)]; omega
    rw [List.drop_eq_getElem_cons hlt, depths, ← Nat.max_assoc] at hd
    simp [go_sem, tc, ld23q, len23, g1, g3, g4, hlt', hix, ld25, ck, max_int, -Int.natCast_add, w1]
    refine ⟨t.kids.length - (k + 1), by omega, k + 1, max c t.kids[k].depth, rfl, hlt, rfl, by simp [go_sem, g1], ?_, by simp [go_sem], hd⟩
    simp [go_sem]; omega
  · have : k = t.kids.length := by omega
    subst this
    rw [List.drop_length, depths] at hd
    have hc0 : c = depths t.kids := by omega
    have w1 : IntKind.i64.wrap ((c : Int) + 1) = (t.depth : Nat) := by rw [wrap_in (by omega)]; omega
    simp [go_sem, tc, ld23q, len23, g1, g3, g4, w1]
    refine hR _ _ _ (.inr rfl) ⟨_, rfl, ?_⟩
    simp [go_sem]; exact snap_dat rfl rfl
theorem depth145_all (t : T) : t.size < 4000000 → CallP C 145 [enc t] = some (.int .i64 t.depth) := by
  induction t using T.ind with
  | _ t ih => exact fun hs => depth145 t hs (fun k hk => ih k hk (by have := kid_size hk; omega))
theorem call145 (t : T) (hs : t.size < 4000000) (h : H) : callV C h (.func 145 []) (some [enc t]) = some (.int .i64 t.depth, h) := callV_strip (by kernel_rfl) rfl (dat_enc _) (by simp [short_enc]) (by simp) (depth145_all t hs)
theorem callS144 (t : T) (hs : t.size < 4000000) (h : H) : callV C h (.func 144 []) (some [enc t]) = some (.int .i64 t.size, h) := callV_strip (by kernel_rfl) rfl (dat_enc _) (by simp [short_enc]) (by simp) (size144_all t hs)
set_option maxHeartbeats 1000000 in
theorem valid86 (t : T) (hs : t.size < 4000000) : CallP C 86 [enc t] = some (.int .i64 (validE t)) := by
  refine CallP_W rfl Tryz.func86 rfl (by kernel_rfl) (by simp [Tryz.f86]) fun R hR => ?_
  have c1 := call143 t hs
  have c2 := callS144 t hs
  have c3 := call145 t hs
  simp +contextual [go_sem, terms, ld25t, c1]
  refine Ife_iff.2 ⟨fun h1 => ?_, fun h1 => ?_⟩
  · simp [go_sem]
    refine hR _ _ _ (.inr rfl) ⟨_, rfl, ?_⟩
    simp [go_sem, validE, thn, h1]; exact snap_dat rfl rfl
  simp only [Decidable.not_not] at h1
  simp +contextual [go_sem, ld25t, c2, c3]
  refine Ife_iff.2 ⟨fun h2 => ?_, fun h2 => ?_⟩
  · simp [go_sem]
    refine hR _ _ _ (.inr rfl) ⟨_, rfl, ?_⟩
    simp [go_sem, validE, thn, h1, show 400 < t.size ∨ 40 < t.depth by omega]; exact snap_dat rfl rfl
  · simp [go_sem]
    refine hR _ _ _ (.inr rfl) ⟨_, rfl, ?_⟩
    simp [go_sem, validE, thn, h1, show ¬ (400 < t.size ∨ 40 < t.depth) by omega]; exact snap_dat rfl rfl
theorem dat_enc' (t : T) : dat (enc t) = some (enc t) := by rw [enc_eq]; rfl
theorem call86 (t : T) (hs : t.size < 4000000) (h : H) : callV C h (.func 86 []) (some [enc t]) = some (.int .i64 (validE t), h) := callV_strip (by kernel_rfl) rfl (dat_enc _) (by simp [short_enc]) (by simp) (valid86 t hs)
end Go.VZ
