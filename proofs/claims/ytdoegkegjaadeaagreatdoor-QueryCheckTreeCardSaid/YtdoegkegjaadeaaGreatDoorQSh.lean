/- Bindings put into terms: the program's way. -/
import Derived.Test.YtdoegkegjaadeaaGreatDoorQSg
namespace Go.VZ
open Go Go.V Go.Proofs TL
def NA116 (l : List (T × T)) (t : T) (m : Nat) (st : PT) (h : H) : Prop := ∃ k : Nat, m = l.length - k ∧ k ≤ l.length ∧ h[0]? = some (.cells (enc t).cells .live) ∧ h[1]? = some (.cells zc .live) ∧ st.get 3 = .ptr 0 0 ∧ st.get 4 = .ptr 1 0 ∧ st.get 13 = binds l ∧ st.get 14 = .int .i64 l.length ∧ st.get 15 = .int .i64 k ∧ getB (l.drop k) t = getB l t
def NB116 (l : List (T × T)) (t : T) (m : Nat) (st : PT) (h : H) : Prop := ∃ (k : Nat) (v : AV), m = t.kids.length - k ∧ k ≤ t.kids.length ∧ h[1]? = some (.cells zc .live) ∧ h[2]? = some (.cells (tcv t v) .live) ∧ st.get 0 = binds l ∧ st.get 4 = .ptr 1 0 ∧ st.get 7 = .ptr 2 0 ∧ st.get 30 = terms t.kids ∧ st.get 31 = .int .i64 t.kids.length ∧ st.get 32 = .int .i64 k ∧
  OwnR 25 h v (((t.kids.take k).map (putB l)).map enc)
theorem st25zc {h : H} {i : Nat} (t : T) (hi : h[i]? = some (.cells zc .live)) : storeV C.P h 25 (.ptr i 0) (enc t) = some (h.set i (.cells (enc t).cells .live)) := by
  rw [enc_eq]; simp [storeV, hi, s25, zc, cells_agg]
set_option maxRecDepth 8000 in
set_option maxHeartbeats 4000000 in
theorem put116 (l : List (T × T)) (t : T) (hs : small l) (hv : t.size < 4000000) (hl : l.length < 4000000) (hc : ∀ k ∈ t.kids, CallP C 116 [binds l, enc k] = some (enc (putB l k))) : CallP C 116 [binds l, enc t] = some (enc (putB l t)) := by
  refine CallP_W rfl Tryz.func116 rfl (by kernel_rfl) (by simp [Tryz.f116]) fun R hR => ?_
  have fin : ∀ (s : PT) (t' : T) (h : H), s.get 4 = .ptr 1 0 → h[1]? = some (.cells (enc t').cells .live) → t' = putB l t → R .ret s h := fun s t' h hs hh ht => by
    refine hR _ _ _ (.inr rfl) ⟨enc t', ?_, ?_⟩
    · simp [resultV, resV, Tryz.f116, hs, loadV, hh, cellsAt, a25, s25, enc_cells]; rw [enc_eq]
    · rw [← ht]; exact snap_dat (dat_enc' t') (short_enc t')
  have hpe := putB_eq l t
  have hsz := size_kids t
  have hlen := len_sizes t.kids
  have hln := len23t t.kids
  have hlb := len46b l
  by_cases h1 : t.kind = 1
  · rw [if_pos h1] at hpe
    simp [go_sem, box25, h1, hlb]
    refine W_loop (NA116 l t) l.length ⟨0, rfl, Nat.zero_le _, by rw [enc_cells, h1]; rfl, rfl, by simp [go_sem], by simp [go_sem], by simp [go_sem], by simp [go_sem], by simp [go_sem], rfl⟩ ?_
    rintro m st h ⟨k, rfl, hk, m0, m1, g3, g4, g13, g14, g15, hd⟩
    by_cases hlt : k < l.length
    · have hlt' : (k : Int) < l.length := by omega
      have hix : indexAddrV C.P 46 (binds l) (.int .i64 k) = some (.iptr (encB l[k]) 0) := idx46 l k hlt .unk
      have w2 : IntKind.i64.wrap ((k : Int) + 1) = ((k + 1 : Nat) : Int) := by rw [wrap_in (by omega)]; omega
      have e1 := fun c1 c2 c3 c4 c5 c6 c7 c8 => st86 l[k] c1 c2 c3 c4 c5 c6 c7 c8 h
      have hb := hs _ (List.getElem_mem hlt)
      obtain ⟨h2, eh2⟩ : ∃ g, g = h ++ [.cells (encB l[k]).cells .live] := ⟨_, rfl⟩
      simp only [← eh2] at e1
      have nb : h2[h.length]? = some (.cells (encB l[k]).cells .live) := by rw [eh2]; simp
      have n0 : h2[0]? = some (.cells (enc t).cells .live) := by rw [eh2]; exact ga m0
      have n1 : h2[1]? = some (.cells zc .live) := by rw [eh2]; exact ga m1
      have l0 := ldB0 nb
      have l4 := ldB4 nb
      have lt := ldn25 t n0
      have c1 := call62 l[k].1 t hb.1 hv
      rw [List.drop_eq_getElem_cons hlt, getB] at hd
      by_cases hz : l[k].1.cmp t = 0
      · rw [if_pos hz] at hd
        have s1 := st25zc l[k].2 n1
        simp [go_sem, g3, g4, g13, g14, g15, hlt', hix, ld86, cells_agg, e1, l0, l4, lt, c1, hz, s1]
        exact fin _ l[k].2 _ (by simp [go_sem, g4]) (List.getElem?_set_self (List.getElem?_eq_some_iff.1 n1).1) (by rw [hpe, hd])
      · rw [if_neg hz] at hd
        simp [go_sem, g3, g13, g14, g15, hlt', hix, ld86, cells_agg, e1, l0, lt, c1, hz, -Int.natCast_add, w2]
        exact ⟨l.length - (k + 1), by omega, k + 1, rfl, hlt, n0, n1, by simp [go_sem, g3], by simp [go_sem, g4], by simp [go_sem, g13], by simp [go_sem, g14], by simp [go_sem], hd⟩
    · have : k = l.length := by omega
      subst this
      rw [List.drop_length, getB] at hd
      have lt := ldn25 t m0
      have s1 := st25zc t m1
      simp [go_sem, g3, g4, g14, g15, lt, s1]
      exact fin _ t _ (by simp [go_sem, g4]) (List.getElem?_set_self (List.getElem?_eq_some_iff.1 m1).1) (by rw [hpe, ← hd])
  rw [if_neg h1] at hpe
  have q1 : ∀ (x y : VObj) (a b c : AV), storeV C.P [x, y, .cells [a, b, c, .isl (t.kids.map enc) .unk] .live] 23 (.ptr 2 3) (.isl [] .full) = some [x, y, .cells [a, b, c, .isl [] .full] .live] := fun x y a b c => by simp [storeV, s23]
  simp [go_sem, enc_cells, h1, ld25c, st25c, terms, q1, ld23c, len23]
  refine W_loop (NB116 l t) t.kids.length ⟨0, .isl [] .full, rfl, Nat.zero_le _, rfl, rfl, by simp [go_sem], by simp [go_sem], by simp [go_sem], by simp [go_sem, terms], by simp [go_sem], by simp [go_sem], .inl rfl⟩ ?_
  clear q1
  rintro m s h ⟨k, v, rfl, hk, m1, m2, g0, g4, g7, g30, g31, g32, go⟩
  have ntv : notTuple v = true := by obtain ⟨x, rfl⟩ := go.isl; rfl
  by_cases hlt : k < t.kids.length
  · have hlt' : (k : Int) < t.kids.length := by omega
    have hix := idx23t t.kids k hlt
    have w2 : IntKind.i64.wrap ((k : Int) + 1) = ((k + 1 : Nat) : Int) := by rw [wrap_in (by omega)]; omega
    have ck : ∀ h, callV C h (.func 116 []) (some [binds l, enc t.kids[k]]) = some (enc (putB l t.kids[k]), h) := fun h => callV_strip (by kernel_rfl) rfl (dat_binds2 _ _) (by simp [short_binds, short_enc]) (by simp) (hc _ (List.getElem_mem hlt))
    have e4 := st25z t.kids[k] h
    have e5 := ldb25z t.kids[k] h
    obtain ⟨h2, eh2⟩ : ∃ g, g = h ++ [.cells (enc t.kids[k]).cells .live] := ⟨_, rfl⟩
    have n1 : h2[1]? = some (.cells zc .live) := by rw [eh2]; exact ga m1
    have n2 : h2[2]? = some (.cells (tcv t v) .live) := by rw [eh2]; exact ga m2
    have go2 : OwnR 25 h2 v (((t.kids.take k).map (putB l)).map enc) := by rw [eh2]; exact go.keep (Keep.append _ _ none) (by simp)
    have nb : h2[h.length]? = some (.cells (enc t.kids[k]).cells .live) := by rw [eh2]; simp
    have l0 : loadV C.P h2 23 (.ptr 2 3) = some v := by simp [loadV, n2, tcv, cellsAt, a23, s23]
    rw [← eh2] at e4 e5
    obtain ⟨v', h', ha, hst, hw, hoth, hself⟩ := field23 (i := 2) (o := 3) (putB l t.kids[k]) go2 n2 (by simp [tcv]) (by simp; omega)
    have etk : (t.kids.take k).map (putB l) ++ [putB l t.kids[k]] = (t.kids.take (k + 1)).map (putB l) := by
      rw [← List.take_append_getElem hlt, List.map_append]; rfl
    rw [etk] at hw
    have hn2 := own_not go2 n2
    have hnb := own_not go2 nb
    simp [go_sem, g30, g31, g32, hlt', hix, ld25, e4]
    refine W_regionS 14 _ (by simp [mixC]) rfl ?_
    simp [go_sem, g0, g7, g32, l0, e5, ck, build23_1, ha, hst, -Int.natCast_add, w2]
    refine ⟨?_, t.kids.length - (k + 1), by omega, k + 1, v', rfl, hlt, hoth 1 _ _ (by omega) n1, hself, by simp [go_sem, g0], by simp [go_sem, g4], by simp [go_sem, g7], by simp [go_sem, g30], by simp [go_sem, g31], by simp [go_sem], hw⟩
    rcases go2 with rfl | ⟨id, rfl, hd⟩
    · simp [go_sem, idsOk, ldIds, apIds, ldId, appId, mslId]
    · simp only [idOf, ne_eq, Option.some.injEq] at hn2 hnb
      simp [go_sem, idsOk, ldIds, apIds, ldId, appId, mslId]
      (try omega)
  · have : k = t.kids.length := by omega
    subst this
    rw [List.take_length] at go
    obtain ⟨x, rfl⟩ := go.isl
    have e5 : loadV C.P h 25 (.ptr 2 0) = some (.agg [.int .i64 t.kind, .str t.name, .int .i64 t.sort, .isl ((t.kids.map (putB l)).map enc) x]) := by simp [loadV, m2, cellsAt, a25, s25, tcv]
    have e6 : storeV C.P h 25 (.ptr 1 0) (.agg [.int .i64 t.kind, .str t.name, .int .i64 t.sort, .isl ((t.kids.map (putB l)).map enc) x]) = some (h.set 1 (.cells [.int .i64 t.kind, .str t.name, .int .i64 t.sort, .isl ((t.kids.map (putB l)).map enc) x] .live)) := by simp [storeV, m1, s25, zc]
    have e7 := (List.getElem?_eq_some_iff.1 m1).1
    generalize hzz : AV.agg [.int .i64 t.kind, .str t.name, .int .i64 t.sort, .isl ((t.kids.map (putB l)).map enc) x] = zz at e5 e6
    simp [go_sem, g4, g7, g31, g32, e5, e6]
    refine hR _ _ _ (.inr rfl) ⟨zz, ?_, ?_⟩
    · simp [resultV, resV, Tryz.f116, go_sem, g4, loadV, List.getElem?_set_self e7, cellsAt, a25, s25, ← hzz]
    · rw [hpe, enc_eq, ← hzz]; exact snap_dat rfl rfl
theorem put116_all (l : List (T × T)) (hs : small l) (hl : l.length < 4000000) (t : T) : t.size < 4000000 → CallP C 116 [binds l, enc t] = some (enc (putB l t)) := by
  induction t using T.ind with
  | _ t ih => exact fun hv => put116 l t hs hv hl (fun k hk => ih k hk (by have := kid_size hk; omega))
theorem call116 (l : List (T × T)) (t : T) (hs : small l) (hv : t.size < 4000000) (hl : l.length < 4000000) (h : H) : callV C h (.func 116 []) (some [binds l, enc t]) = some (enc (putB l t), h) := callV_strip (by kernel_rfl) rfl (dat_binds2 _ _) (by simp [short_binds, short_enc]) (by simp) (put116_all l hs hl t hv)
end Go.VZ

/- Bindings put into facts and clauses: both ways. -/
namespace Go.VZ
open Go Go.V Go.Proofs TL
def putFa (l : List (T × T)) (f : Fa) : Fa := ⟨f.kind, f.goal, f.terms.map (putB l)⟩
def putCl (l : List (T × T)) (c : Cl) : Cl := ⟨c.body.map (putFa l), putFa l c.head⟩
/-- The cells of a fact whose terms are another row. -/
def fav (f : Fa) (v : AV) : List AV := [.int .i64 f.kind, .int .i64 f.goal, v]
theorem st35zc {h : H} {i : Nat} (a b c : AV) (f : Fa) (x : Ext) (hi : h[i]? = some (.cells [a, b, c] .live)) : storeV C.P h 35 (.ptr i 0) (.agg [.int .i64 f.kind, .int .i64 f.goal, .isl (f.terms.map enc) x]) = some (h.set i (.cells [.int .i64 f.kind, .int .i64 f.goal, .isl (f.terms.map enc) x] .live)) := by
  simp [storeV, hi, s35]
def NI65 (l : List (T × T)) (f : Fa) (m : Nat) (s : PT) (h : H) : Prop := ∃ (k : Nat) (v : AV), m = f.terms.length - k ∧ k ≤ f.terms.length ∧ h[1]? = some (.cells z35c .live) ∧ h[2]? = some (.cells (fav f v) .live) ∧ s.get 0 = binds l ∧ s.get 4 = .ptr 1 0 ∧ s.get 5 = .ptr 2 0 ∧ s.get 11 = terms f.terms ∧ s.get 12 = .int .i64 f.terms.length ∧ s.get 13 = .int .i64 k ∧
  OwnR 25 h v (((f.terms.take k).map (putB l)).map enc)
set_option maxRecDepth 8000 in
set_option maxHeartbeats 4000000 in
theorem put65 (l : List (T × T)) (f : Fa) (hs : small l) (hl : l.length < 4000000) (hv : smallT f.terms) : CallP C 65 [binds l, encFa f] = some (encFa (putFa l f)) := by
  refine CallP_W rfl Tryz.func65 rfl (by kernel_rfl) (by simp [Tryz.f65]) fun R hR => ?_
  have hln := len23t f.terms
  have hvl := hv.1
  obtain ⟨h0, eh0⟩ : ∃ g : H, g = [.cells (faC f) .live, .cells z35c .live] := ⟨_, rfl⟩
  have m0 : h0[0]? = some (.cells (faC f) .live) := by rw [eh0]; rfl
  have lf : loadV C.P h0 35 (.ptr 0 0) = some (encFa f) := by simp [loadV, m0, cellsAt, a35, s35, faC, encFa]
  have e1 := st35z f h0
  have hl0 : h0.length = 2 := by rw [eh0]; rfl
  obtain ⟨h1, eh1⟩ : ∃ g, g = h0 ++ [.cells (faC f) .live] := ⟨_, rfl⟩
  have q1 : storeV C.P h1 23 (.ptr h0.length 2) (.isl [] .full) = some (h1.set 2 (.cells (fav f (.isl [] .full)) .live)) := by
    have : h1[2]? = some (.cells (faC f) .live) := by rw [eh1, ← hl0]; simp
    simp [storeV, this, s23, fav, faC, hl0]
  have hl1 : h1.length = 3 := by rw [eh1]; simp [hl0]
  have k0 : (h1.set 2 (.cells (fav f (.isl [] .full)) .live))[0]? = some (.cells (faC f) .live) := by rw [List.getElem?_set_ne (by simp), eh1]; exact ga m0
  have k1 : (h1.set 2 (.cells (fav f (.isl [] .full)) .live))[1]? = some (.cells z35c .live) := by rw [List.getElem?_set_ne (by simp), eh1, eh0]; rfl
  have k2 : (h1.set 2 (.cells (fav f (.isl [] .full)) .live))[2]? = some (.cells (fav f (.isl [] .full)) .live) := List.getElem?_set_self (by omega)
  have l23 := ld23f k0
  rw [← eh1] at e1
  simp only [eh0, List.length_cons, List.length_nil] at e1 q1 lf
  replace e1 : storeV C.P [.cells (faC f) .live, .cells z35c .live, .cells z35c .live] 35 (.ptr 2 0) (encFa f) = some h1 := e1
  replace q1 : storeV C.P h1 23 (.ptr 2 2) (.isl [] .full) = some (h1.set 2 (.cells (fav f (.isl [] .full)) .live)) := q1
  simp [go_sem, box35, zv35, cells_agg, lf, e1, q1, l23, hln]
  refine W_loop (NI65 l f) f.terms.length ⟨0, .isl [] .full, rfl, Nat.zero_le _, k1, k2, by simp [go_sem], by simp [go_sem], by simp [go_sem], by simp [go_sem], by simp [go_sem], by simp [go_sem], .inl rfl⟩ ?_
  clear l23 k0 k1 k2 q1 e1 lf m0 eh1 hl1 h1 eh0 hl0 h0
  rintro m s h ⟨k, v, rfl, hk, m1, m2, g0, g4, g5, g11, g12, g13, go⟩
  have ntv : notTuple v = true := by obtain ⟨x, rfl⟩ := go.isl; rfl
  by_cases hlt : k < f.terms.length
  · have hlt' : (k : Int) < f.terms.length := by omega
    have hix := idx23t f.terms k hlt
    have w2 : IntKind.i64.wrap ((k : Int) + 1) = ((k + 1 : Nat) : Int) := by rw [wrap_in (by omega)]; omega
    have ck := call116 l f.terms[k] hs (hv.2 _ (List.getElem_mem hlt)) hl
    have e4 := st25z f.terms[k] h
    have e5 := ldb25z f.terms[k] h
    obtain ⟨h2, eh2⟩ : ∃ g, g = h ++ [.cells (enc f.terms[k]).cells .live] := ⟨_, rfl⟩
    have n1 : h2[1]? = some (.cells z35c .live) := by rw [eh2]; exact ga m1
    have n2 : h2[2]? = some (.cells (fav f v) .live) := by rw [eh2]; exact ga m2
    have go2 : OwnR 25 h2 v (((f.terms.take k).map (putB l)).map enc) := by rw [eh2]; exact go.keep (Keep.append _ _ none) (by simp)
    have nb : h2[h.length]? = some (.cells (enc f.terms[k]).cells .live) := by rw [eh2]; simp
    have l0 : loadV C.P h2 23 (.ptr 2 2) = some v := by simp [loadV, n2, fav, cellsAt, a23, s23]
    rw [← eh2] at e4 e5
    obtain ⟨v', h', ha, hst, hw, hoth, hself⟩ := field23 (i := 2) (o := 2) (putB l f.terms[k]) go2 n2 (by simp [fav]) (by simp; omega)
    have etk : (f.terms.take k).map (putB l) ++ [putB l f.terms[k]] = (f.terms.take (k + 1)).map (putB l) := by
      rw [← List.take_append_getElem hlt, List.map_append]; rfl
    rw [etk] at hw
    have hn2 := own_not go2 n2
    have hnb := own_not go2 nb
    simp [go_sem, g11, g12, g13, hlt', hix, ld25, e4]
    refine W_regionS 6 _ (by simp [mixC]) rfl ?_
    simp [go_sem, g0, g5, g13, l0, e5, ck, build23_1, ha, hst, -Int.natCast_add, w2]
    refine ⟨?_, f.terms.length - (k + 1), by omega, k + 1, v', rfl, hlt, hoth 1 _ _ (by omega) n1, hself, by simp [go_sem, g0], by simp [go_sem, g4], by simp [go_sem, g5], by simp [go_sem, g11], by simp [go_sem, g12], by simp [go_sem], hw⟩
    rcases go2 with rfl | ⟨id, rfl, hd⟩
    · simp [go_sem, idsOk, ldIds, apIds, ldId, appId, mslId]
    · simp only [idOf, ne_eq, Option.some.injEq] at hn2 hnb
      simp [go_sem, idsOk, ldIds, apIds, ldId, appId, mslId]
      (try omega)
  · have : k = f.terms.length := by omega
    subst this
    rw [List.take_length] at go
    obtain ⟨x, rfl⟩ := go.isl
    have e5 : loadV C.P h 35 (.ptr 2 0) = some (.agg [.int .i64 f.kind, .int .i64 f.goal, .isl ((putFa l f).terms.map enc) x]) := by simp [loadV, m2, cellsAt, a35, s35, fav, putFa]
    have e6 := st35zc _ _ _ (putFa l f) x m1
    have e7 := (List.getElem?_eq_some_iff.1 m1).1
    change storeV C.P h 35 (.ptr 1 0) (.agg [.int .i64 f.kind, .int .i64 f.goal, .isl ((putFa l f).terms.map enc) x]) = _ at e6
    generalize hzz : AV.agg [.int .i64 f.kind, .int .i64 f.goal, .isl ((putFa l f).terms.map enc) x] = zz at e5 e6
    simp [go_sem, g4, g5, g12, g13, e5, e6]
    refine hR _ _ _ (.inr rfl) ⟨zz, ?_, ?_⟩
    · simp [resultV, resV, Tryz.f65, go_sem, g4, loadV, List.getElem?_set_self e7, cellsAt, a35, s35, ← hzz, putFa]
    · rw [← hzz]; exact snap_dat rfl rfl
theorem call65 (l : List (T × T)) (f : Fa) (hs : small l) (hl : l.length < 4000000) (hv : smallT f.terms) (h : H) : callV C h (.func 65 []) (some [binds l, encFa f]) = some (encFa (putFa l f), h) := callV_strip (by kernel_rfl) rfl (args' := [binds l, encFa f]) rfl (by simp [short_binds]; rfl) (by simp) (put65 l f hs hl hv)
theorem bld35 (f : Fa) : buildV C.P 35 [(0, .int .i64 f.kind), (1, .int .i64 f.goal)] = some (.agg (fav f (.isl [] .full))) := by kernel_rfl
theorem st35n {h : H} (f : Fa) (v : AV) (_hv : notTuple v = true) : storeV C.P (h ++ [.cells z35c .live]) 35 (.ptr h.length 0) (.agg (fav f v)) = some (h ++ [.cells (fav f v) .live]) := by
  simp [storeV, s35, z35c, fav]
def NI121 (l : List (T × T)) (f : Fa) (m : Nat) (s : PT) (h : H) : Prop := ∃ (k : Nat) (v : AV), m = f.terms.length - k ∧ k ≤ f.terms.length ∧ h[0]? = some (.cells (faC f) .live) ∧ h[1]? = some (.cells z35c .live) ∧ h[2]? = some (.cells (fav f v) .live) ∧ s.get 0 = binds l ∧ s.get 3 = .ptr 0 0 ∧ s.get 4 = .ptr 1 0 ∧ s.get 5 = .ptr 2 0 ∧ s.get 6 = .int .i64 k ∧
  OwnR 25 h v (((f.terms.take k).map (putB l)).map enc)
set_option maxRecDepth 8000 in
set_option maxHeartbeats 4000000 in
theorem apply121 (l : List (T × T)) (f : Fa) (hs : small l) (hl : l.length < 4000000) (hv : smallT f.terms) : CallP C 121 [binds l, encFa f] = some (encFa (putFa l f)) := by
  refine CallP_W rfl Tryz.func121 rfl (by kernel_rfl) (by simp [Tryz.f121]) fun R hR => ?_
  have hln := len23t f.terms
  have hvl := hv.1
  obtain ⟨h0, eh0⟩ : ∃ g : H, g = [.cells (faC f) .live, .cells z35c .live] := ⟨_, rfl⟩
  have m0 : h0[0]? = some (.cells (faC f) .live) := by rw [eh0]; rfl
  have k0 := ld3f0 m0
  have k1 := ld3f1 m0
  have e1 := st35n (h := h0) f (.isl [] .full) rfl
  have bl := bld35 f
  simp only [eh0, List.length_cons, List.length_nil] at e1 k0 k1
  simp [go_sem, box35, zv35, cells_agg, k0, k1, bl, notTuple]
  refine W_loop (NI121 l f) f.terms.length ⟨0, .isl [] .full, rfl, Nat.zero_le _, rfl, rfl, rfl, by simp [go_sem], by simp [go_sem], by simp [go_sem], by simp [go_sem], by simp [go_sem], .inl rfl⟩ ?_
  clear e1 k0 k1 m0 eh0 h0
  rintro m s h ⟨k, v, rfl, hk, m0, m1, m2, g0, g3, g4, g5, g6, go⟩
  have ntv : notTuple v = true := by obtain ⟨x, rfl⟩ := go.isl; rfl
  have lt := ld23f m0
  have l0 : loadV C.P h 23 (.ptr 2 2) = some v := by simp [loadV, m2, fav, cellsAt, a23, s23]
  by_cases hlt : k < f.terms.length
  · have hlt' : (k : Int) < f.terms.length := by omega
    have hix := idx23t f.terms k hlt
    have w2 : IntKind.i64.wrap ((k : Int) + 1) = ((k + 1 : Nat) : Int) := by rw [wrap_in (by omega)]; omega
    have ck := call87 l f.terms[k] hs (hv.2 _ (List.getElem_mem hlt)) hl
    obtain ⟨v', h', ha, hst, hw, hoth, hself⟩ := field23 (i := 2) (o := 2) (putB l f.terms[k]) go m2 (by simp [fav]) (by simp; omega)
    have etk : (f.terms.take k).map (putB l) ++ [putB l f.terms[k]] = (f.terms.take (k + 1)).map (putB l) := by
      rw [← List.take_append_getElem hlt, List.map_append]; rfl
    rw [etk] at hw
    have hn2 := own_not go m2
    have hn0 := own_not go m0
    simp [go_sem, g3, g6, lt, hln, hlt', -Int.natCast_add]
    refine W_regionS 5 _ (by simp [mixC]) rfl ?_
    simp [go_sem, g0, g3, g5, g6, lt, l0, hix, ld25, ck, build23_1, ha, hst, -Int.natCast_add, w2]
    refine ⟨?_, f.terms.length - (k + 1), by omega, k + 1, v', rfl, hlt, hoth 0 _ _ (by omega) m0, hoth 1 _ _ (by omega) m1, hself, by simp [go_sem, g0], by simp [go_sem, g3], by simp [go_sem, g4], by simp [go_sem, g5], by simp [go_sem], hw⟩
    rcases go with rfl | ⟨id, rfl, hd⟩
    · simp [go_sem, idsOk, ldIds, apIds, ldId, appId, mslId]
    · simp only [idOf, ne_eq, Option.some.injEq] at hn2 hn0
      simp [go_sem, idsOk, ldIds, apIds, ldId, appId, mslId]
      (try omega)
  · have : k = f.terms.length := by omega
    subst this
    rw [List.take_length] at go
    obtain ⟨x, rfl⟩ := go.isl
    have e5 : loadV C.P h 35 (.ptr 2 0) = some (.agg [.int .i64 f.kind, .int .i64 f.goal, .isl ((putFa l f).terms.map enc) x]) := by simp [loadV, m2, cellsAt, a35, s35, fav, putFa]
    have e6 := st35zc _ _ _ (putFa l f) x m1
    have e7 := (List.getElem?_eq_some_iff.1 m1).1
    change storeV C.P h 35 (.ptr 1 0) (.agg [.int .i64 f.kind, .int .i64 f.goal, .isl ((putFa l f).terms.map enc) x]) = _ at e6
    generalize hzz : AV.agg [.int .i64 f.kind, .int .i64 f.goal, .isl ((putFa l f).terms.map enc) x] = zz at e5 e6
    simp [go_sem, g3, g4, g5, g6, lt, hln, e5, e6]
    refine hR _ _ _ (.inr rfl) ⟨zz, ?_, ?_⟩
    · simp [resultV, resV, Tryz.f121, go_sem, g4, loadV, List.getElem?_set_self e7, cellsAt, a35, s35, ← hzz, putFa]
    · rw [← hzz]; exact snap_dat rfl rfl
theorem call121 (l : List (T × T)) (f : Fa) (hs : small l) (hl : l.length < 4000000) (hv : smallT f.terms) (h : H) : callV C h (.func 121 []) (some [binds l, encFa f]) = some (encFa (putFa l f), h) := callV_strip (by kernel_rfl) rfl (args' := [binds l, encFa f]) rfl (by simp [short_binds]; rfl) (by simp) (apply121 l f hs hl hv)
end Go.VZ

/- Bindings put into a clause: the reference's way walked. -/
namespace Go.VZ
open Go Go.V Go.Proofs TL
theorem append33 {h : H} {v : AV} {xs ys : List Fa} {x : Ext} (o : OwnR 35 h v (xs.map encFa)) (hl : xs.length + ys.length ≤ 100000000000) :
    ∃ v' h', appendW C.P false h 33 v (.isl (ys.map encFa) x) = some (v', h') ∧ OwnR 35 h' v' ((xs ++ ys).map encFa) ∧ Keep h h' (idOf v) ∧ (idOf v' = idOf v ∨ idOf v = none ∧ idOf v' = some h.length) := by
  have := append_own (x := x) u33 s35 b35 z35 rfl o (szOk_encFa xs) (szOk_encFa ys) (by simp only [List.length_map]; omega)
  rwa [← List.map_append] at this
/-- What is appended to a row of facts in a cell of an object of one's own. -/
theorem field33 {h : H} {v : AV} {xs : List Fa} {i o : Nat} {cs : List AV} (y : Fa) (go : OwnR 35 h v (xs.map encFa)) (hi : h[i]? = some (.cells cs .live)) (ho : o < cs.length) (hl : xs.length < 10000000) :
    ∃ v' h', appendW C.P false h 33 v (.isl [encFa y] .full) = some (v', h') ∧ storeV C.P h' 33 (.ptr i o) v' = some (h'.set i (.cells (cs.set o v') .live)) ∧ OwnR 35 (h'.set i (.cells (cs.set o v') .live)) v' ((xs ++ [y]).map encFa) ∧
      (∀ (j : Nat) c st, j ≠ i → h[j]? = some (.cells c st) → (h'.set i (.cells (cs.set o v') .live))[j]? = some (.cells c st)) ∧ (h'.set i (.cells (cs.set o v') .live))[i]? = some (.cells (cs.set o v') .live) := by
  obtain ⟨v', h', ha, hw, hkp, hid⟩ := append33 (ys := [y]) (x := .full) go (by simp; omega)
  have hne : ∀ (j : Nat) c st, h[j]? = some (.cells c st) → idOf v ≠ some j := fun j c st hj => own_not go hj
  have hi' := hkp.get hi (hne _ _ _ hi)
  have hlt := (List.getElem?_eq_some_iff.1 hi').1
  refine ⟨v', h', by simpa using ha, ?_, ?_, ?_, List.getElem?_set_self hlt⟩
  · obtain ⟨x, rfl⟩ := hw.isl
    simp [storeV, hi', s33, ho]
  · refine hw.keep (Keep.set _ _ _) (fun j hj e => ?_)
    simp only [Option.some.injEq] at e
    subst e
    rcases hid with h1 | ⟨h1, h2⟩
    · exact hne _ _ _ hi (h1 ▸ hj)
    · have := (List.getElem?_eq_some_iff.1 hi).1
      rw [h2] at hj; simp only [Option.some.injEq] at hj; omega
  · intro j c st hj hc
    rw [List.getElem?_set_ne (fun e => hj e.symm)]
    exact hkp.get hc (hne _ _ _ hc)
def z37c : List AV := [.isl [] .full, .int .i64 0, .int .i64 0, .isl [] .full]
theorem zv37 : zeroV C.P 37 = some (.agg z37c) := by kernel_rfl
theorem st37n {h : H} (f : Fa) (v : AV) (_hv : notTuple v = true) : storeV C.P (h ++ [.cells z37c .live]) 37 (.ptr h.length 0) (.agg (v :: faC f)) = some (h ++ [.cells (v :: faC f) .live]) := by
  simp [storeV, s37, z37c, faC]
def NI71 (l : List (T × T)) (c : Cl) (m : Nat) (s : PT) (h : H) : Prop := ∃ (k : Nat) (v : AV), m = c.body.length - k ∧ k ≤ c.body.length ∧ h[0]? = some (.cells (clC c) .live) ∧ h[1]? = some (.cells z37c .live) ∧ h[2]? = some (.cells (v :: faC (putFa l c.head)) .live) ∧ s.get 0 = binds l ∧ s.get 3 = .ptr 0 0 ∧ s.get 4 = .ptr 1 0 ∧ s.get 5 = .ptr 2 0 ∧ s.get 6 = .int .i64 k ∧
  OwnR 35 h v (((c.body.take k).map (putFa l)).map encFa)
theorem st37zc {h : H} {i : Nat} (c : Cl) (x : Ext) (hi : h[i]? = some (.cells z37c .live)) : storeV C.P h 37 (.ptr i 0) (.agg (.isl (c.body.map encFa) x :: faC c.head)) = some (h.set i (.cells (.isl (c.body.map encFa) x :: faC c.head) .live)) := by
  simp [storeV, hi, s37, z37c, faC]
set_option maxRecDepth 8000 in
set_option maxHeartbeats 4000000 in
theorem apply71 (l : List (T × T)) (c : Cl) (hs : small l) (hl : l.length < 4000000) (hv : ∀ f ∈ factsOf c, smallT f.terms) (hb : c.body.length ≤ 10000) : CallP C 71 [binds l, encCl c] = some (encCl (putCl l c)) := by
  refine CallP_W rfl Tryz.func71 rfl (by kernel_rfl) (by simp [Tryz.f71]) fun R hR => ?_
  obtain ⟨h0, eh0⟩ : ∃ g : H, g = [.cells (clC c) .live, .cells z37c .live] := ⟨_, rfl⟩
  have m0 : h0[0]? = some (.cells (clC c) .live) := by rw [eh0]; rfl
  have q1 := ld35c m0
  have c1 := call121 l c.head hs hl (hv _ (by simp [factsOf]))
  have bl := bld37 (putFa l c.head)
  have e1 := st37n (h := h0) (putFa l c.head) (.isl [] .full) rfl
  simp only [eh0, List.length_cons, List.length_nil] at e1 q1
  replace e1 : storeV C.P [.cells (clC c) .live, .cells z37c .live, .cells z37c .live] 37 (.ptr 2 0) (.agg (.isl [] .full :: faC (putFa l c.head))) = some [.cells (clC c) .live, .cells z37c .live, .cells (.isl [] .full :: faC (putFa l c.head)) .live] := e1
  simp [go_sem, box37, zv37, cells_agg, q1, c1, bl, e1, show notTuple (encFa (putFa l c.head)) = true from rfl]
  refine W_loop (NI71 l c) c.body.length ⟨0, .isl [] .full, rfl, Nat.zero_le _, rfl, rfl, rfl, by simp [go_sem], by simp [go_sem], by simp [go_sem], by simp [go_sem], by simp [go_sem], .inl rfl⟩ ?_
  clear e1 q1 m0 eh0 h0
  rintro m s h ⟨k, v, rfl, hk, m0, m1, m2, g0, g3, g4, g5, g6, go⟩
  have ntv : notTuple v = true := by obtain ⟨x, rfl⟩ := go.isl; rfl
  have lb := ld33c m0
  have hln := len33f c.body
  have l0 : loadV C.P h 33 (.ptr 2 0) = some v := by simp [loadV, m2, cellsAt, a33, s33]
  by_cases hlt : k < c.body.length
  · have hlt' : (k : Int) < c.body.length := by omega
    have hix : indexAddrV C.P 33 (factsV c.body) (.int .i64 k) = some (.iptr (encFa c.body[k]) 0) := idx33 c.body k hlt .unk
    have l35 := ld35i c.body[k]
    have w2 : IntKind.i64.wrap ((k : Int) + 1) = ((k + 1 : Nat) : Int) := by rw [wrap_in (by omega)]; omega
    have ck := call121 l c.body[k] hs hl (hv _ (by simp [factsOf]))
    obtain ⟨v', h', ha, hst, hw, hoth, hself⟩ := field33 (i := 2) (o := 0) (putFa l c.body[k]) go m2 (by simp) (by simp; omega)
    have etk : (c.body.take k).map (putFa l) ++ [putFa l c.body[k]] = (c.body.take (k + 1)).map (putFa l) := by
      rw [← List.take_append_getElem hlt, List.map_append]; rfl
    rw [etk] at hw
    have hn2 := own_not go m2
    have hn0 := own_not go m0
    have nt := show notTuple (encFa (putFa l c.body[k])) = true from rfl
    simp [go_sem, g3, g6, lb, hln, hlt', -Int.natCast_add]
    refine W_regionS 5 _ (by simp [mixC]) rfl ?_
    simp [go_sem, g0, g3, g5, g6, lb, l0, hix, l35, ck, build33_1, ha, hst, nt, -Int.natCast_add, w2]
    refine ⟨?_, c.body.length - (k + 1), by omega, k + 1, v', rfl, hlt, hoth 0 _ _ (by omega) m0, hoth 1 _ _ (by omega) m1, hself, by simp [go_sem, g0], by simp [go_sem, g3], by simp [go_sem, g4], by simp [go_sem, g5], by simp [go_sem], hw⟩
    rcases go with rfl | ⟨id, rfl, hd⟩
    · simp [go_sem, idsOk, ldIds, apIds, ldId, appId, mslId]
    · simp only [idOf, ne_eq, Option.some.injEq] at hn2 hn0
      simp [go_sem, idsOk, ldIds, apIds, ldId, appId, mslId]
      (try omega)
  · have : k = c.body.length := by omega
    subst this
    rw [List.take_length] at go
    obtain ⟨x, rfl⟩ := go.isl
    have e5 : loadV C.P h 37 (.ptr 2 0) = some (.agg (.isl ((putCl l c).body.map encFa) x :: faC (putCl l c).head)) := by simp [loadV, m2, cellsAt, a37, s37, putCl, faC]
    have e6 := st37zc (putCl l c) x m1
    have e7 := (List.getElem?_eq_some_iff.1 m1).1
    generalize hzz : AV.agg (.isl ((putCl l c).body.map encFa) x :: faC (putCl l c).head) = zz at e5 e6
    simp [go_sem, g3, g4, g5, g6, lb, hln, e5, e6]
    refine hR _ _ _ (.inr rfl) ⟨zz, ?_, ?_⟩
    · simp [resultV, resV, Tryz.f71, go_sem, g4, loadV, List.getElem?_set_self e7, cellsAt, a37, s37, ← hzz, faC]
    · rw [← hzz]; exact snap_dat rfl rfl
theorem call71 (l : List (T × T)) (c : Cl) (hs : small l) (hl : l.length < 4000000) (hv : ∀ f ∈ factsOf c, smallT f.terms) (hb : c.body.length ≤ 10000) (h : H) : callV C h (.func 71 []) (some [binds l, encCl c]) = some (encCl (putCl l c), h) := callV_strip (by kernel_rfl) rfl (args' := [binds l, encCl c]) rfl (by simp [short_binds]; rfl) (by simp) (apply71 l c hs hl hv hb)
end Go.VZ

/- Whether an inference of a tree is right: what is asked; the program's way walked. -/
namespace Go.VZ
open Go Go.V Go.Proofs TL
attribute [go_sem] fa49_0 fa49_1 fa49_2 fa49_3
def kidOk (t : List Inf) (i : Nat) (bs : List (T × T)) (kids : List Int) (b : Fa) (n : Nat) : Bool :=
  match kids[n]? with
  | none => false
  | some k => if k < 0 ∨ (i : Int) ≤ k then false else match t[k.toNat]? with
    | none => false
    | some y => sameFa (putFa bs b) y.fact
def kidsOk (t : List Inf) (i : Nat) (bs : List (T × T)) (kids : List Int) : List Fa → Nat → Bool
  | [], n => decide (n = kids.length)
  | b :: l, n => if b.kind = 1 then kidOk t i bs kids b n && kidsOk t i bs kids l (n + 1) else kidsOk t i bs kids l n
def infOk (l : List Cl) (t : List Inf) (i : Nat) (x : Inf) : Bool :=
  if x.clause < 0 ∨ (l.length : Int) ≤ x.clause ∨ subE x.bs ≠ 0 then false else match l[x.clause.toNat]? with
    | none => false
    | some c => okB x.bs (varsRs (termsOf c)) && sameFa (putFa x.bs c.head) x.fact && kidsOk t i x.bs x.kids c.body 0
def okC (c : Cl) : Prop := c.body.length ≤ 12 ∧ sizes (termsOf c) ≤ 10000 ∧ ∀ f ∈ factsOf c, f.terms ≠ [] ∧ f.terms.length ≤ 8 ∧ ∀ t ∈ f.terms, t.size ≤ 400
def okI (y : Inf) : Prop := y.bs.length ≤ 10000 ∧ (∀ b ∈ y.bs, b.1.size ≤ 10000 ∧ b.2.size ≤ 10000) ∧ y.kids.length ≤ 10000 ∧ smallT y.fact.terms
theorem ldI0 {h : H} {i : Nat} {x : Inf} (hi : h[i]? = some (.cells (infC x) .live)) : loadV C.P h 3 (.ptr i 0) = some (.int .i64 x.clause) := by simp [loadV, hi, cellsAt, a3, s3, infC]
theorem ldI1 {h : H} {i : Nat} {x : Inf} (hi : h[i]? = some (.cells (infC x) .live)) : loadV C.P h 46 (.ptr i 1) = some (binds x.bs) := by simp [loadV, hi, cellsAt, a46, s46, infC, binds]
theorem ldI2 {h : H} {i : Nat} {x : Inf} (hi : h[i]? = some (.cells (infC x) .live)) : loadV C.P h 47 (.ptr i 2) = some (ints x.kids) := by simp [loadV, hi, cellsAt, a47, s47, infC, ints]
theorem ldI3 {h : H} {i : Nat} {x : Inf} (hi : h[i]? = some (.cells (infC x) .live)) : loadV C.P h 35 (.ptr i 3) = some (encFa x.fact) := by simp [loadV, hi, cellsAt, a35, s35, infC, encFa, faC]
def z49c : List AV := [.int .i64 0, .isl [] .full, .isl [] .full, .int .i64 0, .int .i64 0, .isl [] .full]
theorem zv49 : zeroV C.P 49 = some (.agg z49c) := by kernel_rfl
theorem st49z (x : Inf) (h : H) : storeV C.P (h ++ [.cells z49c .live]) 49 (.ptr h.length 0) (encI x) = some (h ++ [.cells (infC x) .live]) := by
  simp [storeV, s49, z49c, encI, infC, faC]
theorem st37y (c : Cl) (h : H) : storeV C.P (h ++ [.cells z37c .live]) 37 (.ptr h.length 0) (encCl c) = some (h ++ [.cells (clC c) .live]) := by
  simp [storeV, s37, z37c, encCl, clC, faC]
theorem varsRs_small {l : List T} {n : Nat} (h : ∀ x ∈ l, x.size < n) : ∀ y ∈ varsRs l, y.size < n := fun y hy => by
  rw [varsRs, mem_setS, List.mem_flatMap] at hy
  obtain ⟨x, hx, hy⟩ := hy
  exact varsR_small (h x hx) y hy
theorem varsRs_len (l : List T) : (varsRs l).length ≤ sizes l := Nat.le_trans (setS_len _) (varsR_flat_len l)
theorem terms_facts (c : Cl) (t : T) : t ∈ allTerms (factsOf c) ↔ t ∈ termsOf c := by
  simp only [allTerms, factsOf, termsOf, List.mem_flatMap, List.mem_append, List.mem_singleton]
  constructor
  · rintro ⟨f, hf | rfl, ht⟩
    · exact .inr ⟨f, hf, ht⟩
    · exact .inl ht
  · rintro (ht | ⟨f, hf, ht⟩)
    · exact ⟨c.head, .inr rfl, ht⟩
    · exact ⟨f, .inl hf, ht⟩
theorem sizes_append : ∀ (l m : List T), sizes (l ++ m) = sizes l + sizes m
  | [], m => by simp [sizes]
  | a :: l, m => by rw [List.cons_append, sizes, sizes, sizes_append l m]; omega
theorem sizes_facts (c : Cl) : sizes (allTerms (factsOf c)) = sizes (termsOf c) := by
  have e : allTerms (factsOf c) = allTerms c.body ++ c.head.terms := by simp [allTerms, factsOf]
  rw [e, termsOf, sizes_append, sizes_append]; omega
theorem okC.call49 {c : Cl} (hc : okC c) (h : H) : callV C h (.func 49 []) (some [factsV (factsOf c)]) = some (terms (varsRs (termsOf c)), h) := by
  rw [← vars_same (factsOf c) (termsOf c) (terms_facts c)]
  obtain ⟨h1, h2, h3⟩ := hc
  refine Go.VZ.call49 (factsOf c) (fun t ht => ?_) (by rw [sizes_facts]; exact h2) (by simp [factsOf]; omega) ?_ h
  · obtain ⟨f, hf, ht⟩ := List.mem_flatMap.1 ht
    have := (h3 f hf).2.2 t ht
    omega
  · have h4 := (h3 c.head (by simp [factsOf])).1
    intro e
    apply h4
    have e2 : allTerms (factsOf c) = allTerms c.body ++ c.head.terms := by simp [allTerms, factsOf]
    rw [e2] at e
    exact (List.append_eq_nil_iff.1 e).2
theorem okC.small {c : Cl} (hc : okC c) : ∀ t ∈ termsOf c, t.size ≤ 400 := fun t ht => by
  obtain ⟨f, hf, ht⟩ := List.mem_flatMap.1 ((terms_facts c t).2 ht)
  exact (hc.2.2 f hf).2.2 t ht
theorem okC.smallT {c : Cl} (hc : okC c) : ∀ f ∈ factsOf c, Go.VZ.smallT f.terms := fun f hf => by
  obtain ⟨_, h2, h3⟩ := hc.2.2 f hf
  exact ⟨by omega, fun t ht => by have := h3 t ht; omega⟩
theorem put_smallT {bs : List (T × T)} {f : Fa} (hb : subE bs = 0) (hf : f.terms.length ≤ 8 ∧ ∀ t ∈ f.terms, t.size ≤ 400) : Go.VZ.smallT (putFa bs f).terms := by
  refine ⟨by simp [putFa]; omega, fun t ht => ?_⟩
  obtain ⟨u, hu, rfl⟩ := List.mem_map.1 ht
  have := putB_size bs (fun b h => ((sub_good hb).2.2 b h).2) u
  have := hf.2 u hu
  omega
def NI36 (c : Cl) (x : Inf) (t : List Inf) (i : Nat) (m : Nat) (s : PT) (h : H) : Prop := ∃ k n : Nat, m = c.body.length - k ∧ k ≤ c.body.length ∧ n ≤ k ∧ h[0]? = some (.cells (infC x) .live) ∧ s.get 1 = infs t ∧ s.get 2 = .int .i64 i ∧ s.get 7 = .ptr 0 0 ∧ s.get 9 = .int .i64 n ∧ s.get 54 = factsV c.body ∧ s.get 55 = .int .i64 c.body.length ∧ s.get 56 = .int .i64 k ∧
  kidsOk t i x.bs x.kids c.body 0 = kidsOk t i x.bs x.kids (c.body.drop k) n
set_option maxRecDepth 8000 in
set_option maxHeartbeats 4000000 in
theorem right36 (l : List Cl) (t : List Inf) (i : Nat) (hi : i < t.length) (hC : ∀ c ∈ l, okC c) (hT : ∀ y ∈ t, okI y) (_hl : l.length ≤ 10000) (_ht : t.length ≤ 10000) : CallP C 36 [clsV l, infs t, .int .i64 i] = some (.bool (infOk l t i t[i])) := by
  refine CallP_W rfl Tryz.func36 rfl (by kernel_rfl) (by simp [Tryz.f36]) fun R hR => ?_
  have fin : ∀ (st : PT) (h : H) (e : Bool), st.get 6 = .bool e → infOk l t i t[i] = e → R .ret st h := fun st h e h2 he => hR _ _ _ (.inr rfl) ⟨.bool e, by simp [resultV, resV, Tryz.f36, h2], by rw [he]; exact snap_dat rfl rfl⟩
  have hix := idx42 t i hi
  obtain ⟨o1, o2, o3, o4⟩ := hT _ (List.getElem_mem hi)
  generalize t[i] = x at hix fin o1 o2 o3 o4
  have l49 := ld49i x
  obtain ⟨h0, eh0⟩ : ∃ g : H, g = [.cells (infC x) .live] := ⟨_, rfl⟩
  have m0 : h0[0]? = some (.cells (infC x) .live) := by rw [eh0]; rfl
  have e1 : storeV C.P [.cells z49c .live] 49 (.ptr 0 0) (encI x) = some h0 := by rw [eh0]; exact st49z x []
  have k0 := ldI0 m0
  have k1 := ldI1 m0
  have k2 := ldI2 m0
  have k3 := ldI3 m0
  have hln := len22c l
  have hsm : small x.bs := fun b hb => by have := o2 b hb; exact ⟨by omega, by omega⟩
  have c59 := call59 x.bs hsm
  by_cases q1 : x.clause < 0
  · simp [go_sem, initS, hix, l49, zv49, cells_agg, e1, k0, q1]
    exact fin _ _ false (by simp [go_sem]) (by rw [infOk, if_pos (.inl q1)])
  by_cases q2 : (l.length : Int) ≤ x.clause
  · simp [go_sem, initS, hix, l49, zv49, cells_agg, e1, k0, q1, hln, q2]
    exact fin _ _ false (by simp [go_sem]) (by rw [infOk, if_pos (.inr (.inl q2))])
  by_cases q3 : subE x.bs = 0
  rotate_left
  · simp [go_sem, initS, hix, l49, zv49, cells_agg, e1, k0, k1, q1, hln, q2, c59, q3]
    exact fin _ _ false (by simp [go_sem]) (by rw [infOk, if_pos (.inr (.inr q3))])
  obtain ⟨k, hk⟩ : ∃ k : Nat, x.clause = k := ⟨x.clause.toNat, by omega⟩
  have hkl : k < l.length := by omega
  have hix2 := idx22 l k hkl
  have hc := hC _ (List.getElem_mem hkl)
  have he : infOk l t i x = (okB x.bs (varsRs (termsOf l[k])) && sameFa (putFa x.bs l[k].head) x.fact && kidsOk t i x.bs x.kids l[k].body 0) := by
    unfold infOk
    rw [if_neg (fun h => h.elim q1 fun h => h.elim q2 fun h => h q3), hk]
    simp [hkl]
  rw [he] at fin
  generalize l[k] = c at hix2 hc fin
  clear he
  rw [hk] at q1 q2 k0
  have q2' : ¬ l.length ≤ k := by omega
  have l37 := ld37i c
  obtain ⟨h1, eh1⟩ : ∃ g : H, g = h0 ++ [.cells (clC c) .live] := ⟨_, rfl⟩
  have hlen0 : h0.length = 1 := by rw [eh0]; rfl
  have e2 : storeV C.P (h0 ++ [.cells z37c .live]) 37 (.ptr 1 0) (encCl c) = some h1 := by rw [eh1, ← hlen0]; exact st37y c h0
  have n0 : h1[0]? = some (.cells (infC x) .live) := by rw [eh1]; exact ga m0
  have n1 : h1[1]? = some (.cells (clC c) .live) := by rw [eh1, eh0]; rfl
  have j0 := ldI0 n0
  rw [hk] at j0
  have j1 := ldI1 n0
  have j2 := ldI2 n0
  have j3 := ldI3 n0
  have d37 := ld37c n1
  have d33 := ld33c n1
  have d35 := ld35c n1
  have hb12 := hc.1
  have c50 := call50 c (by omega)
  have c49 := hc.call49
  have hvs : ∀ y ∈ varsRs (termsOf c), y.size < 4000000 := varsRs_small fun t ht => by have := hc.small t ht; omega
  have hvl := varsRs_len (termsOf c)
  have hsz := hc.2.1
  have c60 : ∀ h, callV C h (.func 60 []) (some [binds x.bs, terms (varsRs (termsOf c)), .func 61 []]) = some (.bool (okB x.bs (varsRs (termsOf c))), h) := call60 x.bs (varsRs (termsOf c)) .unk o1 (by omega) o2 hvs
  have hlb := len33f c.body
  by_cases q4 : okB x.bs (varsRs (termsOf c)) = true
  rotate_left
  · have q4' : okB x.bs (varsRs (termsOf c)) = false := by simpa using q4
    rw [q4', Bool.false_and, Bool.false_and] at fin
    rw [q4'] at c60
    simp [go_sem, initS, hix, l49, zv49, cells_agg, e1, k0, k1, q1, hln, q2', c59, q3, hix2, l37, zv37, hlen0, e2, j1, d37, c50, c49, c60]
    exact fin _ _ false (by simp [go_sem]) rfl
  rw [q4] at c60 fin
  rw [Bool.true_and] at fin
  have c65 := call65 x.bs c.head hsm (by omega) (hc.smallT _ (by simp [factsOf]))
  have hh := (hc.2.2 c.head (by simp [factsOf])).2
  have c64 := call64 (putFa x.bs c.head) x.fact (put_smallT q3 hh) o4
  by_cases q5 : sameFa (putFa x.bs c.head) x.fact = true
  rotate_left
  · have q5' : sameFa (putFa x.bs c.head) x.fact = false := by simpa using q5
    rw [q5', Bool.false_and] at fin
    rw [q5'] at c64
    simp [go_sem, initS, hix, l49, zv49, cells_agg, e1, k0, k1, q1, hln, q2', c59, q3, hix2, l37, zv37, hlen0, e2, j1, j3, d37, d35, c50, c49, c60, c65, c64]
    exact fin _ _ false (by simp [go_sem]) rfl
  rw [q5] at c64 fin
  rw [Bool.true_and] at fin
  simp [go_sem, hix, l49, zv49, cells_agg, e1, k0, k1, q1, hln, q2', c59, q3, hix2, l37, zv37, hlen0, e2, j1, j3, d37, d35, d33, c50, c49, c60, c65, c64, hlb]
  refine W_loop (NI36 c x t i) c.body.length ⟨0, 0, rfl, Nat.zero_le _, Nat.le_refl _, n0, by simp [go_sem], by simp [go_sem], by simp [go_sem], by simp [go_sem], by simp [go_sem], by simp [go_sem], by simp [go_sem], rfl⟩ ?_
  clear c64 c65 c60 c49 c50 d35 d33 d37 j3 j2 j1 j0 n1 n0 e2 hlen0 eh1 h1 k3 k2 k1 k0 e1 m0 eh0 h0
  rintro m s h ⟨k, n, rfl, hkk, hnk, m0, g1, g2, g7, g9, g54, g55, g56, hd⟩
  by_cases hlt : k < c.body.length
  rotate_left
  · have : k = c.body.length := by omega
    subst this
    rw [List.drop_length, kidsOk] at hd
    have k2 := ldI2 m0
    have hlk := len47i x.kids
    simp [go_sem, g7, g9, g55, g56, k2, hlk]
    refine fin _ _ (decide (n = x.kids.length)) ?_ hd
    simp [go_sem]
    try omega
  · have hlt' : (k : Int) < c.body.length := by omega
    have hix3 : indexAddrV C.P 33 (factsV c.body) (.int .i64 k) = some (.iptr (encFa c.body[k]) 0) := idx33 c.body k hlt .unk
    have w2 : IntKind.i64.wrap ((k : Int) + 1) = ((k + 1 : Nat) : Int) := by rw [wrap_in (by omega)]; omega
    have hbf := hc.2.2 c.body[k] (by simp [factsOf])
    have hbs := hc.smallT c.body[k] (by simp [factsOf])
    rw [List.drop_eq_getElem_cons hlt, kidsOk] at hd
    generalize c.body[k] = b at hix3 hd hbf hbs
    have l35 := ld35i b
    have e3 := st35z b h
    obtain ⟨h2, eh2⟩ : ∃ g, g = h ++ [.cells (faC b) .live] := ⟨_, rfl⟩
    rw [← eh2] at e3
    have p0 : h2[0]? = some (.cells (infC x) .live) := by rw [eh2]; exact ga m0
    have pb : h2[h.length]? = some (.cells (faC b) .live) := by rw [eh2]; simp
    have b0 := ld3f0 pb
    have b35 : loadV C.P h2 35 (.ptr h.length 0) = some (encFa b) := by simp [loadV, pb, cellsAt, a35, s35, faC, encFa]
    have k1 := ldI1 p0
    have k2 := ldI2 p0
    have hlk := len47i x.kids
    by_cases r1 : b.kind = 1
    rotate_left
    · rw [if_neg r1] at hd
      simp [go_sem, g54, g55, g56, hlt', hix3, l35, zv35, cells_agg, e3, b0, r1, -Int.natCast_add, w2]
      exact ⟨c.body.length - (k + 1), by omega, k + 1, n, rfl, hlt, by omega, p0, by simp [go_sem, g1], by simp [go_sem, g2], by simp [go_sem, g7], by simp [go_sem, g9], by simp [go_sem, g54], by simp [go_sem, g55], by simp [go_sem], hd⟩
    rw [if_pos r1] at hd
    rw [r1] at b0
    by_cases r2 : n < x.kids.length
    rotate_left
    · have r2' : (x.kids.length : Int) ≤ n := by omega
      have : kidOk t i x.bs x.kids b n = false := by rw [kidOk, List.getElem?_eq_none (by omega)]
      rw [this, Bool.false_and] at hd
      simp [go_sem, g1, g2, g7, g9, g54, g55, g56, hlt', hix3, l35, zv35, cells_agg, e3, b0, k2, hlk, r2']
      exact fin _ _ false (by simp [go_sem]) hd
    have r2' : ¬ (x.kids.length : Int) ≤ n := by omega
    have hik := idx47' x.kids n r2
    have hko : kidOk t i x.bs x.kids b n = if x.kids[n] < 0 ∨ (i : Int) ≤ x.kids[n] then false else match t[x.kids[n].toNat]? with
      | none => false
      | some y => sameFa (putFa x.bs b) y.fact := by rw [kidOk, List.getElem?_eq_getElem r2]
    generalize x.kids[n] = d at hik hko
    have l3 := ld3i d
    by_cases r3 : d < 0
    · rw [if_pos (.inl r3)] at hko
      rw [hko, Bool.false_and] at hd
      simp [go_sem, g1, g2, g7, g9, g54, g55, g56, hlt', hix3, l35, zv35, cells_agg, e3, b0, k2, hlk, r2', hik, l3, r3]
      exact fin _ _ false (by simp [go_sem]) hd
    by_cases r4 : (i : Int) ≤ d
    · rw [if_pos (.inr r4)] at hko
      rw [hko, Bool.false_and] at hd
      simp [go_sem, g1, g2, g7, g9, g54, g55, g56, hlt', hix3, l35, zv35, cells_agg, e3, b0, k2, hlk, r2', hik, l3, r3, r4]
      exact fin _ _ false (by simp [go_sem]) hd
    rw [if_neg (fun h => h.elim r3 r4)] at hko
    obtain ⟨j, hj⟩ : ∃ j : Nat, d = j := ⟨d.toNat, by omega⟩
    subst hj
    have r4' : ¬ i ≤ j := by omega
    have hjt : j < t.length := by omega
    have hix4 := idx42 t j hjt
    have hy := (hT _ (List.getElem_mem hjt)).2.2.2
    rw [Int.toNat_natCast, List.getElem?_eq_getElem hjt] at hko
    dsimp only at hko
    generalize t[j] = y at hix4 hy hko
    have lf := ld35i3 y
    have c65 := call65 x.bs b hsm (by omega) hbs
    have c64 := call64 (putFa x.bs b) y.fact (put_smallT q3 hbf.2) hy
    by_cases r5 : sameFa (putFa x.bs b) y.fact = true
    rotate_left
    · have r5' : sameFa (putFa x.bs b) y.fact = false := by simpa using r5
      rw [hko, r5', Bool.false_and] at hd
      rw [r5'] at c64
      simp [go_sem, g1, g2, g7, g9, g54, g55, g56, hlt', hix3, l35, zv35, cells_agg, e3, b0, b35, k1, k2, hlk, r2', hik, l3, r3, r4, hix4, fa49i_3, lf, c65, c64]
      exact fin _ _ false (by simp [go_sem]) hd
    · rw [hko, r5, Bool.true_and] at hd
      rw [r5] at c64
      have w3 : IntKind.i64.wrap ((n : Int) + 1) = ((n + 1 : Nat) : Int) := by rw [wrap_in (by omega)]; omega
      simp [go_sem, g1, g2, g7, g9, g54, g55, g56, hlt', hix3, l35, zv35, cells_agg, e3, b0, b35, k1, k2, hlk, r2', hik, l3, r3, r4, hix4, fa49i_3, lf, c65, c64, -Int.natCast_add, w2, w3]
      exact ⟨c.body.length - (k + 1), by omega, k + 1, n + 1, rfl, hlt, by omega, p0, by simp [go_sem, g1], by simp [go_sem, g2], by simp [go_sem, g7], by simp [go_sem], by simp [go_sem, g54], by simp [go_sem, g55], by simp [go_sem], hd⟩
theorem call36 (l : List Cl) (t : List Inf) (i : Nat) (hi : i < t.length) (hC : ∀ c ∈ l, okC c) (hT : ∀ y ∈ t, okI y) (hl : l.length ≤ 10000) (ht : t.length ≤ 10000) (h : H) : callV C h (.func 36 []) (some [clsV l, infs t, .int .i64 i]) = some (.bool (infOk l t i t[i]), h) := callV_strip (by kernel_rfl) rfl (args' := [clsV l, infs t, .int .i64 i]) rfl (by simp [short_int]; exact ⟨rfl, rfl⟩) (by simp) (right36 l t i hi hC hT hl ht)
end Go.VZ

/- Whether an inference of a tree is right: the reference's way walked. -/
namespace Go.VZ
open Go Go.V Go.Proofs TL
theorem sameFa_comm (a b : Fa) : sameFa a b = sameFa b a := by
  simp only [sameFa, eq_comm (a := a.kind), eq_comm (a := a.goal), eq_comm (a := a.terms)]
theorem fcmp_ne (a b : Fa) : (fcmp a b = 0) ↔ sameFa b a = true := by rw [fcmp_zero, sameFa_comm]
theorem fa35_0i (e : AV) : fieldAddrV C.P 35 (.iptr e 0) 0 = some (.iptr e 0) := by kernel_rfl
theorem ld3fi (f : Fa) (h : H) : loadV C.P h 3 (.iptr (encFa f) 0) = some (.int .i64 f.kind) := by simp [loadV, cellsAt, a3, s3, encFa, faC, cells_agg]
theorem ld25b0 (b : T × T) (h : H) : loadV C.P h 25 (.iptr (encB b) 0) = some (enc b.1) := by
  simp [loadV, cellsAt, a25, s25, encB, cells_agg]; rw [enc_eq]
theorem ld25b4 (b : T × T) (h : H) : loadV C.P h 25 (.iptr (encB b) 4) = some (enc b.2) := by
  simp [loadV, cellsAt, a25, s25, encB, cells_agg]; rw [enc_eq]
theorem bindOk_ref (b : T × T) (v : T) : bindOk b v = (decide (v.cmp b.1 = 0) && decide (varsR b.2 = [])) := by
  rw [bindOk, ground_same]
  congr 1
  rw [decide_eq_decide, cmp_zero, cmp_zero]; exact eq_comm
def NA38 (c : Cl) (x : Inf) (t : List Inf) (i : Nat) (v : List T) (m : Nat) (s : PT) (h : H) : Prop := ∃ k : Nat, m = v.length - k ∧ k ≤ v.length ∧ h[0]? = some (.cells (infC x) .live) ∧ h[1]? = some (.cells (clC c) .live) ∧ s.get 1 = infs t ∧ s.get 2 = .int .i64 i ∧ s.get 7 = .ptr 0 0 ∧ s.get 8 = .ptr 1 0 ∧ s.get 9 = terms v ∧ s.get 10 = .int .i64 k ∧
  okB x.bs v = okB (x.bs.drop k) (v.drop k)
def NB38 (c : Cl) (x : Inf) (t : List Inf) (i : Nat) (m : Nat) (s : PT) (h : H) : Prop := ∃ k n : Nat, m = c.body.length - k ∧ k ≤ c.body.length ∧ n ≤ k ∧ h[0]? = some (.cells (infC x) .live) ∧ h[1]? = some (.cells (clC (putCl x.bs c)) .live) ∧ s.get 1 = infs t ∧ s.get 2 = .int .i64 i ∧ s.get 7 = .ptr 0 0 ∧ s.get 8 = .ptr 1 0 ∧ s.get 11 = .int .i64 n ∧ s.get 12 = .int .i64 k ∧
  kidsOk t i x.bs x.kids c.body 0 = kidsOk t i x.bs x.kids (c.body.drop k) n
theorem st37w {h : H} {i : Nat} (c c' : Cl) (hi : h[i]? = some (.cells (clC c) .live)) : storeV C.P h 37 (.ptr i 0) (encCl c') = some (h.set i (.cells (clC c') .live)) := by
  simp [storeV, hi, s37, encCl, clC, faC]
set_option maxRecDepth 8000 in
set_option maxHeartbeats 4000000 in
theorem right38 (l : List Cl) (t : List Inf) (i : Nat) (hi : i < t.length) (hC : ∀ c ∈ l, okC c) (hT : ∀ y ∈ t, okI y) (_hl : l.length ≤ 10000) (_ht : t.length ≤ 10000) : CallP C 38 [clsV l, infs t, .int .i64 i] = some (.bool (infOk l t i t[i])) := by
  refine CallP_W rfl Tryz.func38 rfl (by kernel_rfl) (by simp [Tryz.f38]) fun R hR => ?_
  have fin : ∀ (st : PT) (h : H) (e : Bool), st.get 6 = .bool e → infOk l t i t[i] = e → R .ret st h := fun st h e h2 he => hR _ _ _ (.inr rfl) ⟨.bool e, by simp [resultV, resV, Tryz.f38, h2], by rw [he]; exact snap_dat rfl rfl⟩
  have hix := idx42 t i hi
  obtain ⟨o1, o2, o3, o4⟩ := hT _ (List.getElem_mem hi)
  generalize t[i] = x at hix fin o1 o2 o3 o4
  have l49 := ld49i x
  obtain ⟨h0, eh0⟩ : ∃ g : H, g = [.cells (infC x) .live] := ⟨_, rfl⟩
  have m0 : h0[0]? = some (.cells (infC x) .live) := by rw [eh0]; rfl
  have e1 : storeV C.P [.cells z49c .live] 49 (.ptr 0 0) (encI x) = some h0 := by rw [eh0]; exact st49z x []
  have k0 := ldI0 m0
  have k1 := ldI1 m0
  have hln := len22c l
  have hsm : small x.bs := fun b hb => by have := o2 b hb; exact ⟨by omega, by omega⟩
  have c67 := call67 x.bs hsm
  by_cases q1 : x.clause < 0
  · simp [go_sem, initS, hix, l49, zv49, cells_agg, e1, k0, q1]
    exact fin _ _ false (by simp [go_sem]) (by rw [infOk, if_pos (.inl q1)])
  by_cases q2 : (l.length : Int) ≤ x.clause
  · simp [go_sem, initS, hix, l49, zv49, cells_agg, e1, k0, q1, hln, q2]
    exact fin _ _ false (by simp [go_sem]) (by rw [infOk, if_pos (.inr (.inl q2))])
  by_cases q3 : subE x.bs = 0
  rotate_left
  · simp [go_sem, initS, hix, l49, zv49, cells_agg, e1, k0, k1, q1, hln, q2, c67, q3]
    exact fin _ _ false (by simp [go_sem]) (by rw [infOk, if_pos (.inr (.inr q3))])
  obtain ⟨k, hk⟩ : ∃ k : Nat, x.clause = k := ⟨x.clause.toNat, by omega⟩
  have hkl : k < l.length := by omega
  have hix2 := idx22 l k hkl
  have hc := hC _ (List.getElem_mem hkl)
  have he : infOk l t i x = (okB x.bs (varsRs (termsOf l[k])) && sameFa (putFa x.bs l[k].head) x.fact && kidsOk t i x.bs x.kids l[k].body 0) := by
    unfold infOk
    rw [if_neg (fun h => h.elim q1 fun h => h.elim q2 fun h => h q3), hk]
    simp [hkl]
  rw [he] at fin
  generalize l[k] = c at hix2 hc fin
  clear he
  rw [hk] at q1 q2 k0
  have q2' : ¬ l.length ≤ k := by omega
  have l37 := ld37i c
  obtain ⟨h1, eh1⟩ : ∃ g : H, g = h0 ++ [.cells (clC c) .live] := ⟨_, rfl⟩
  have hlen0 : h0.length = 1 := by rw [eh0]; rfl
  have e2 : storeV C.P (h0 ++ [.cells z37c .live]) 37 (.ptr 1 0) (encCl c) = some h1 := by rw [eh1, ← hlen0]; exact st37y c h0
  have n0 : h1[0]? = some (.cells (infC x) .live) := by rw [eh1]; exact ga m0
  have n1 : h1[1]? = some (.cells (clC c) .live) := by rw [eh1, eh0]; rfl
  have j1 := ldI1 n0
  have d37 := ld37c n1
  have hb12 := hc.1
  have hvs : ∀ y ∈ varsRs (termsOf c), y.size < 4000000 := varsRs_small fun t ht => by have := hc.small t ht; omega
  have hvl := varsRs_len (termsOf c)
  have hsz := hc.2.1
  have hll := len_sizes (termsOf c)
  have c56 := call56 c (by omega) (by omega)
  have c68 : ∀ h, callV C h (.func 68 []) (some [terms (termsOf c)]) = some (terms (varsRs (termsOf c)), h) := call68 (termsOf c) .unk (fun t ht => by have := hc.small t ht; omega) (by omega)
  generalize hvv : varsRs (termsOf c) = v at c68 fin hvs hvl
  have hlv := len23t v
  have hlb := len46b x.bs
  by_cases q4 : v.length = x.bs.length
  rotate_left
  · have q4' : ¬ (v.length : Int) = x.bs.length := by omega
    have : okB x.bs v = false := okB_len (fun e => q4 e.symm)
    rw [this, Bool.false_and, Bool.false_and] at fin
    simp [go_sem, initS, hix, l49, zv49, cells_agg, e1, k0, k1, q1, hln, q2', c67, q3, hix2, l37, zv37, hlen0, e2, j1, d37, c56, c68, hlv, hlb, q4']
    exact fin _ _ false (by simp [go_sem]) rfl
  have q4' : (v.length : Int) = x.bs.length := by omega
  simp [go_sem, hix, l49, zv49, cells_agg, e1, k0, k1, q1, hln, q2', c67, q3, hix2, l37, zv37, hlen0, e2, j1, d37, c56, c68, hlv, hlb, q4]
  refine W_loop (NA38 c x t i v) v.length ⟨0, rfl, Nat.zero_le _, n0, n1, by simp [go_sem], by simp [go_sem], by simp [go_sem], by simp [go_sem, hlen0], by simp [go_sem], by simp [go_sem], rfl⟩ ?_
  clear d37 j1 n1 n0 e2 hlen0 eh1 h1 k1 k0 e1 m0 eh0 h0 c68 c56
  rintro m s h ⟨k, rfl, hkk, m0, m1, g1, g2, g7, g8, g9, g10, hd⟩
  have k1 := ldI1 m0
  by_cases hlt : k < v.length
  · have hlt' : (k : Int) < v.length := by omega
    have hltb : k < x.bs.length := by omega
    have hiv := idx23t v k hlt
    have hib : indexAddrV C.P 46 (binds x.bs) (.int .i64 k) = some (.iptr (encB x.bs[k]) 0) := idx46 x.bs k hltb .unk
    have w2 : IntKind.i64.wrap ((k : Int) + 1) = ((k + 1 : Nat) : Int) := by rw [wrap_in (by omega)]; omega
    have hs1 := hvs _ (List.getElem_mem hlt)
    have hs2 := hsm _ (List.getElem_mem hltb)
    rw [List.drop_eq_getElem_cons hlt, List.drop_eq_getElem_cons hltb, okB, bindOk_ref] at hd
    generalize v[k] = u at hiv hs1 hd
    generalize x.bs[k] = b at hib hs2 hd
    have l1 := ld25b0 b
    have l2 := ld25b4 b
    have c69 := call69 u b.1 hs1 hs2.1
    have c70 := call70 b.2 hs2.2
    by_cases q5 : u.cmp b.1 = 0
    rotate_left
    · rw [decide_eq_false q5, Bool.false_and, Bool.false_and] at hd
      rw [hd, Bool.false_and, Bool.false_and] at fin
      simp [go_sem, g7, g9, g10, hlv, hlt', hiv, ld25, k1, hib, fa86i_0, l1, c69, q5]
      exact fin _ _ false (by simp [go_sem]) rfl
    by_cases q6 : varsR b.2 = []
    rotate_left
    · rw [decide_eq_false q6, Bool.and_false, Bool.false_and] at hd
      rw [hd, Bool.false_and, Bool.false_and] at fin
      simp [go_sem, g7, g9, g10, hlv, hlt', hiv, ld25, k1, hib, fa86i_0, fa86i_1, l1, l2, c69, q5, c70, q6]
      exact fin _ _ false (by simp [go_sem]) rfl
    · rw [decide_eq_true q5, decide_eq_true q6, Bool.and_true, Bool.true_and] at hd
      simp [go_sem, g7, g9, g10, hlv, hlt', hiv, ld25, k1, hib, fa86i_0, fa86i_1, l1, l2, c69, q5, c70, q6, -Int.natCast_add, w2]
      exact ⟨v.length - (k + 1), by omega, k + 1, rfl, hlt, m0, m1, by simp [go_sem, g1], by simp [go_sem, g2], by simp [go_sem, g7], by simp [go_sem, g8], by simp [go_sem, g9], by simp [go_sem], hd⟩
  have : k = v.length := by omega
  subst this
  rw [List.drop_length, show x.bs.drop v.length = [] by rw [q4, List.drop_length]] at hd
  rw [hd] at fin
  simp only [okB, Bool.true_and] at fin
  have d37 := ld37c m1
  have c71 := call71 x.bs c hsm (by omega) hc.smallT (by omega)
  have e4 := st37w c (putCl x.bs c) m1
  obtain ⟨h2, eh2⟩ : ∃ g, g = h.set 1 (.cells (clC (putCl x.bs c)) .live) := ⟨_, rfl⟩
  rw [← eh2] at e4
  have n0 : h2[0]? = some (.cells (infC x) .live) := by rw [eh2, List.getElem?_set_ne (by omega)]; exact m0
  have n1 : h2[1]? = some (.cells (clC (putCl x.bs c)) .live) := by rw [eh2]; exact List.getElem?_set_self (List.getElem?_eq_some_iff.1 m1).1
  have j3 := ldI3 n0
  have d35 : loadV C.P h2 35 (.ptr 1 1) = some (encFa (putFa x.bs c.head)) := ld35c n1
  have hh := (hc.2.2 c.head (by simp [factsOf])).2
  have c72 := call72 (putFa x.bs c.head) x.fact (put_smallT q3 hh) o4
  have hfc := (fcmp_zero (putFa x.bs c.head) x.fact)
  by_cases q7 : sameFa (putFa x.bs c.head) x.fact = true
  rotate_left
  · have q7' : sameFa (putFa x.bs c.head) x.fact = false := by simpa using q7
    rw [q7', Bool.false_and] at fin
    have q8 : ¬ fcmp (putFa x.bs c.head) x.fact = 0 := fun e => q7 (hfc.1 e)
    simp [go_sem, g7, g8, g9, g10, hlv, k1, d37, c71, e4, d35, j3, c72, q8]
    exact fin _ _ false (by simp [go_sem]) rfl
  rw [q7, Bool.true_and] at fin
  have q8 : fcmp (putFa x.bs c.head) x.fact = 0 := hfc.2 q7
  simp [go_sem, g7, g8, g9, g10, hlv, k1, d37, c71, e4, d35, j3, c72, q8]
  refine W_loop (NB38 c x t i) c.body.length ⟨0, 0, rfl, Nat.zero_le _, Nat.le_refl _, n0, n1, by simp [go_sem, g1], by simp [go_sem, g2], by simp [go_sem, g7], by simp [go_sem, g8], by simp [go_sem], by simp [go_sem], rfl⟩ ?_
  clear c72 d35 j3 n1 n0 e4 eh2 h2 c71 d37 hd g10 g9 g8 g7 g2 g1 m1 m0 k1 s h
  rintro m s h ⟨k, n, rfl, hkk, hnk, m0, m1, g1, g2, g7, g8, g11, g12, hd⟩
  have k1 := ldI1 m0
  have k2 := ldI2 m0
  have d33 := ld33c m1
  have hlb2 := len33f (putCl x.bs c).body
  have hlen : (putCl x.bs c).body.length = c.body.length := by simp [putCl]
  rw [hlen] at hlb2
  have hlk := len47i x.kids
  by_cases hlt : k < c.body.length
  rotate_left
  · have : k = c.body.length := by omega
    subst this
    rw [List.drop_length, kidsOk] at hd
    simp [go_sem, g7, g8, g11, g12, d33, hlb2, k2, hlk]
    refine fin _ _ (decide (n = x.kids.length)) ?_ hd
    simp [go_sem]
    try omega
  · have hlt' : (k : Int) < c.body.length := by omega
    have hix3 : indexAddrV C.P 33 (factsV (putCl x.bs c).body) (.int .i64 k) = some (.iptr (encFa (putFa x.bs c.body[k])) 0) := by
      have := idx33 (putCl x.bs c).body k (by omega) .unk
      rw [show (putCl x.bs c).body[k]'(by omega) = putFa x.bs c.body[k] by simp [putCl]] at this
      exact this
    have w2 : IntKind.i64.wrap ((k : Int) + 1) = ((k + 1 : Nat) : Int) := by rw [wrap_in (by omega)]; omega
    have hbf := hc.2.2 c.body[k] (by simp [factsOf])
    rw [List.drop_eq_getElem_cons hlt, kidsOk] at hd
    generalize c.body[k] = b at hix3 hd hbf
    have l35 := ld35i (putFa x.bs b)
    have l3k : ∀ h, loadV C.P h 3 (.iptr (encFa (putFa x.bs b)) 0) = some (.int .i64 b.kind) := ld3fi (putFa x.bs b)
    by_cases r1 : b.kind = 1
    rotate_left
    · rw [if_neg r1] at hd
      simp [go_sem, g8, g12, d33, hlb2, hlt', hix3, fa35_0i, l3k, r1, -Int.natCast_add, w2]
      exact ⟨c.body.length - (k + 1), by omega, k + 1, n, rfl, hlt, by omega, m0, m1, by simp [go_sem, g1], by simp [go_sem, g2], by simp [go_sem, g7], by simp [go_sem, g8], by simp [go_sem, g11], by simp [go_sem], hd⟩
    rw [if_pos r1] at hd
    by_cases r2 : n < x.kids.length
    rotate_left
    · have r2' : (x.kids.length : Int) ≤ n := by omega
      have : kidOk t i x.bs x.kids b n = false := by rw [kidOk, List.getElem?_eq_none (by omega)]
      rw [this, Bool.false_and] at hd
      simp [go_sem, g1, g2, g7, g8, g11, g12, d33, hlb2, hlt', hix3, fa35_0i, l3k, r1, k2, hlk, r2']
      exact fin _ _ false (by simp [go_sem]) hd
    have r2' : ¬ (x.kids.length : Int) ≤ n := by omega
    have hik := idx47' x.kids n r2
    have hko : kidOk t i x.bs x.kids b n = if x.kids[n] < 0 ∨ (i : Int) ≤ x.kids[n] then false else match t[x.kids[n].toNat]? with
      | none => false
      | some y => sameFa (putFa x.bs b) y.fact := by rw [kidOk, List.getElem?_eq_getElem r2] <;> rfl
    generalize x.kids[n] = d at hik hko
    have l3 := ld3i d
    by_cases r3 : d < 0
    · rw [if_pos (.inl r3)] at hko
      rw [hko, Bool.false_and] at hd
      simp [go_sem, g1, g2, g7, g8, g11, g12, d33, hlb2, hlt', hix3, fa35_0i, l3k, r1, k2, hlk, r2', hik, l3, r3]
      exact fin _ _ false (by simp [go_sem]) hd
    by_cases r4 : (i : Int) ≤ d
    · rw [if_pos (.inr r4)] at hko
      rw [hko, Bool.false_and] at hd
      simp [go_sem, g1, g2, g7, g8, g11, g12, d33, hlb2, hlt', hix3, fa35_0i, l3k, r1, k2, hlk, r2', hik, l3, r3, r4]
      exact fin _ _ false (by simp [go_sem]) hd
    rw [if_neg (fun h => h.elim r3 r4)] at hko
    obtain ⟨j, hj⟩ : ∃ j : Nat, d = j := ⟨d.toNat, by omega⟩
    subst hj
    have r4' : ¬ i ≤ j := by omega
    have hjt : j < t.length := by omega
    have hix4 := idx42 t j hjt
    have hy := (hT _ (List.getElem_mem hjt)).2.2.2
    rw [Int.toNat_natCast, List.getElem?_eq_getElem hjt] at hko
    dsimp only at hko
    generalize t[j] = y at hix4 hy hko
    have lf := ld35i3 y
    have c72 := call72 y.fact (putFa x.bs b) hy (put_smallT q3 hbf.2)
    have hfc := fcmp_ne y.fact (putFa x.bs b)
    by_cases r5 : sameFa (putFa x.bs b) y.fact = true
    rotate_left
    · have r5' : sameFa (putFa x.bs b) y.fact = false := by simpa using r5
      have r6 : ¬ fcmp y.fact (putFa x.bs b) = 0 := fun e => r5 (hfc.1 e)
      rw [hko, r5', Bool.false_and] at hd
      simp [go_sem, g1, g2, g7, g8, g11, g12, d33, hlb2, hlt', hix3, fa35_0i, l3k, r1, k2, hlk, r2', hik, l3, r3, r4, hix4, fa49i_3, lf, l35, c72, r6]
      exact fin _ _ false (by simp [go_sem]) hd
    · have r6 : fcmp y.fact (putFa x.bs b) = 0 := hfc.2 r5
      rw [hko, r5, Bool.true_and] at hd
      have w3 : IntKind.i64.wrap ((n : Int) + 1) = ((n + 1 : Nat) : Int) := by rw [wrap_in (by omega)]; omega
      simp [go_sem, g1, g2, g7, g8, g11, g12, d33, hlb2, hlt', hix3, fa35_0i, l3k, r1, k2, hlk, r2', hik, l3, r3, r4, hix4, fa49i_3, lf, l35, c72, r6, -Int.natCast_add, w2, w3]
      exact ⟨c.body.length - (k + 1), by omega, k + 1, n + 1, rfl, hlt, by omega, m0, m1, by simp [go_sem, g1], by simp [go_sem, g2], by simp [go_sem, g7], by simp [go_sem, g8], by simp [go_sem], by simp [go_sem], hd⟩
theorem call38 (l : List Cl) (t : List Inf) (i : Nat) (hi : i < t.length) (hC : ∀ c ∈ l, okC c) (hT : ∀ y ∈ t, okI y) (hl : l.length ≤ 10000) (ht : t.length ≤ 10000) (h : H) : callV C h (.func 38 []) (some [clsV l, infs t, .int .i64 i]) = some (.bool (infOk l t i t[i]), h) := callV_strip (by kernel_rfl) rfl (args' := [clsV l, infs t, .int .i64 i]) rfl (by simp [short_int]; exact ⟨rfl, rfl⟩) (by simp) (right38 l t i hi hC hT hl ht)
end Go.VZ
