import Derived.Test.YtdfcbophcfjakaaSkC
set_option linter.unusedSimpArgs false
set_option linter.unusedVariables false
set_option linter.unusedSectionVars false
set_option maxRecDepth 20000
set_option maxHeartbeats 1000000
namespace Go.Proofs.Ytdfcbophcfjakaa.B
open Go Go.Ab
/-! SameInts -/
theorem ptAt_load {v : V} {objs : List AO} {l : List Int} (h : ofIntsR .i64 objs v = some l) {i : Nat} (hi : i < l.length) : loadV Try.prog 3 objs (ptAt v (ints .i64 l) i) = some (.int .i64 (nth l i)) := (is8 h).2.2.2 i hi
noncomputable def k_SameInts : Ab.Spec := con2 some some fun v w objs => match ofIntsR .i64 objs v, ofIntsR .i64 objs w with | some a, some b => bnd a.length 140737488355328 (some (.bool (decide (a = b)), none)) | _, _ => none
noncomputable def T_SameInts : CallF := withF T_SeekT 15 k_SameInts
theorem T_SameInts_ok : CallOk Try.prog T_SameInts := con_of (A := annOf [] [] [] false []) fit T_SeekT_ok (fn := Try.f15) (by kernel_rfl) (by kernel_rfl) (by
  intro args objs r h0
  obtain ⟨v, w, _, _, rfl, hv, hw, hR⟩ := con2_inv h0
  cases hv; cases hw
  split at hR
  case h_2 => cases hR
  rename_i a b ha hb
  obtain ⟨hl, hR⟩ := bnd_inv hR
  cases hR
  obtain ⟨vd, vn, vi, va⟩ := is8 ha
  obtain ⟨wd, wn, wi, wa⟩ := is8 hb
  refine .go _ rfl rfl ?_
  by_cases hn : a.length = b.length
  · simp [vn, wn, hn]
    refine .up a.length (fun i s => s.env 0 = v ∧ s.env 1 = w ∧ s.env 5 = .int .i64 i ∧ s.toks = [] ∧ s.objs = objs ∧ s.low = objs.length ∧ ∀ j, j < i → nth a j = nth b j) (by simp) ?_
    rintro i s hi ⟨h0, h1, h5, ht, ho, hlo, hj⟩
    rcases Nat.lt_or_ge i a.length with h | h
    · have e1 := vi .i64 i h
      have e2 := wi .i64 i (by omega)
      have q1 := va i h
      have q2 := wa i (by omega)
      by_cases he : nth a i = nth b i
      · have hs : ∀ j, j < i + 1 → nth a j = nth b j := fun j hj2 => by
          rcases Nat.lt_or_ge j i with h2 | h2
          · exact hj j h2
          · obtain rfl : j = i := by omega
            exact he
        simp -implicitDefEqProofs (disch := omega) [h0, h1, h5, ht, ho, hlo, vn, wn, e1, e2, q1, q2, h, he, wrap_small]
        exact hs
      · have hne : a ≠ b := fun q => he (by rw [q])
        have hf : (nth a i != nth b i) = true := by simpa using he
        simp -implicitDefEqProofs (disch := omega) [h0, h1, h5, ht, ho, hlo, vn, wn, e1, e2, q1, q2, h, hf, hne]
    · have hab : a = b := ext_nth hn fun j h2 => hj j (by omega)
      have hnl : ¬ i < b.length := by omega
      simp [h0, h1, h5, ht, ho, hlo, vn, wn, hab, hnl]
  · have hf : ((a.length : Int) != (b.length : Int)) = true := by simp only [bne_iff_ne, ne_eq]; omega
    have hne : a ≠ b := fun q => hn (by rw [q])
    simp [vn, wn, hf, hne])
noncomputable def k_Same10H : Ab.Spec := heldF k_Same10
noncomputable def T_Same10H : CallF := withF T_SameInts 14 k_Same10H
theorem T_Same10H_ok : CallOk Try.prog T_Same10H := con_held T_SameInts_ok (fun _ _ => rfl)

end Go.Proofs.Ytdfcbophcfjakaa.B
set_option maxRecDepth 20000
set_option maxHeartbeats 1000000
namespace Go.Proofs.Ytdfcbophcfjakaa.B
open Go Go.Ab
/-! the document's example -/
theorem k_len {O : List AO} {b : Nat} {m : Kvs} {hs : List Int} {tk : Nat} {hg : Int} (M : SkM O b m hs tk hg) : k_Len18 [.ptr (b + 1) 0 0] O = some (.int .i64 m.length, none) := by
  obtain ⟨c, f, ord, ht, nv, hv, X, I, rfl⟩ := M.ex
  have hX := I.toX
  have hc := I.lnk.len
  have hb := I.bc
  have e : (c : Int) - 1 = ((kvs f ord).length : Nat) := by unfold kvs; rw [List.length_map]; omega
  simp (disch := omega) [k_Len18, hX, e]
theorem k_hgt {O : List AO} {b : Nat} {m : Kvs} {hs : List Int} {tk : Nat} {hg : Int} (M : SkM O b m hs tk hg) : k_Hgt [.ptr (b + 1) 0 0] O = some (.int .i64 hg, none) := by
  obtain ⟨c, f, ord, ht, nv, hv, X, I, rfl⟩ := M.ex
  simp [k_Hgt, I.toX]
theorem told_len {α : Type} [Inhabited α] {O : List AO} {v : V} {d : V → Option α} {ks : List α} (h : ofList d (toldV O v) = some ks) : lenV Try.prog 27 v = some (.int .i64 ks.length) ∧ demote v = v ∧ ntup v = some v := by
  obtain ⟨cs, hv, hn, -⟩ := ofList_inv h
  rcases toldV_cases O v with e | ⟨id, ver, off, n, cs', rfl, h1, h2, h3, e⟩
  · rw [e] at hv
    exact ⟨hv.size u27, hv.dem, by rcases hv with q | ⟨q, -⟩ <;> rw [q] <;> rfl⟩
  · rw [e] at hv
    refine ⟨?_, rfl, rfl⟩
    have : n = ks.length := by
      rcases hv with q | ⟨q, -⟩
      · simp only [V.lst.injEq] at q; exact q.2.2
      · cases q
    rw [this]; simp
theorem ints_ntup {k : IntKind} {objs : List AO} {v : V} {l : List Int} (h : ofIntsR k objs v = some l) : ntup v = some v := by
  rcases ofIntsR_inv h with h | ⟨id, ver, off, cs, rfl, -⟩
  · rcases ofInts_inv h with rfl | ⟨rfl, -⟩ <;> rfl
  · rfl
noncomputable def k_alive : Ab.Spec := con0 fun objs => match objs with | [] => some (.bool true, none) | _ => none
noncomputable def T_alive : CallF := withF T_Same10H 8 k_alive
theorem T_alive_ok : CallOk Try.prog T_alive := con_of (A := annOf [] [] [] false [7, 17, 18, 13]) fit T_Same10H_ok (fn := Try.f8) (by kernel_rfl) (by kernel_rfl) (by
  intro args objs r h0
  have c_New : ∀ a o, T_Same10H 7 a o = k_New a o := fun _ _ => rfl
  have c_Put : ∀ a o, T_Same10H 17 a o = k_Put a o := fun _ _ => rfl
  have c_Get : ∀ a o, T_Same10H 20 a o = k_Get a o := fun _ _ => rfl
  have c_SeekT : ∀ a o, T_Same10H 18 a o = k_SeekT a o := fun _ _ => rfl
  have c_Range : ∀ a o, T_Same10H 13 a o = k_Range a o := fun _ _ => rfl
  have c_Hgt : ∀ a o, T_Same10H 11 a o = k_Hgt a o := fun _ _ => rfl
  have c_Len18 : ∀ a o, T_Same10H 10 a o = k_Len18 a o := fun _ _ => rfl
  obtain ⟨rfl, hR⟩ := con0_inv h0
  split at hR <;> cases hR
  have va : ofInts .i64 (.lst .frozen [.int .i64 1, .int .i64 3] 2) = some [1, 3] := rfl
  have kb : ∀ O, ofIntsR .u8 O (.lst .frozen [.int .u8 98] 1) = some [98] := fun O => ofIntsR_of rfl
  have ka : ∀ O, ofIntsR .u8 O (.lst .frozen [.int .u8 97] 1) = some [97] := fun O => ofIntsR_of rfl
  have kaa : ∀ O, ofIntsR .u8 O (.lst .frozen [.int .u8 97, .int .u8 97] 2) = some [97, 97] := fun O => ofIntsR_of rfl
  have kz : ∀ O, ofIntsR .u8 O .nils = some [] := fun O => ofIntsR_of rfl
  obtain ⟨r1, n1, p1⟩ := s_New (objs := []) va (by decide)
  obtain ⟨O1, w1, rfl, -, M1, -⟩ := p1 _ _ rfl va
  have M1 : SkM O1 0 [] [1, 3] 0 0 := M1
  obtain ⟨r2, n2, p2⟩ := s_Put (v := 1) M1 (kb O1) rfl (by decide) (by decide) (by decide)
  obtain ⟨O2, w2, rfl, M2, -⟩ := p2 _ _ _ _ _ _ _ _ rfl M1 (kb O1)
  have M2 : SkM O2 0 [([98], 1)] [1, 3] 1 1 := M2
  obtain ⟨r3, n3, p3⟩ := s_Put (v := 2) M2 (ka O2) rfl (by decide) (by decide) (by decide)
  obtain ⟨O3, w3, rfl, M3, -⟩ := p3 _ _ _ _ _ _ _ _ rfl M2 (ka O2)
  have M3 : SkM O3 0 [([97], 2), ([98], 1)] [1, 3] 2 3 := M3
  obtain ⟨r4, n4, p4⟩ := s_Put (v := 5) M3 (kb O3) rfl (by decide) (by decide) (by decide)
  obtain ⟨O4, w4, rfl, M4, -⟩ := p4 _ _ _ _ _ _ _ _ rfl M3 (kb O3)
  have M4 : SkM O4 0 [([97], 2), ([98], 5)] [1, 3] 2 3 := M4
  obtain ⟨r5, n5, p5⟩ := s_Get M4 (kb O4) rfl (by decide)
  obtain rfl := p5 _ _ _ _ _ _ _ rfl M4 (kb O4)
  obtain ⟨r6, n6, p6⟩ := s_SeekT M4 (kaa O4) rfl (by decide)
  obtain ⟨O6, w6, rfl, old6⟩ := p6 _ _ _ _ _ _ _ rfl M4 (kaa O4)
  have M6 := M4.old old6
  have n6 : k_SeekT [.ptr (0 + 1) 0 0, .lst .frozen [.int .u8 97, .int .u8 97] 2] O4 = some (.tup [.lst .frozen [.int .u8 98] 1, .int .i64 5, .bool true], some (O6, w6)) := n6
  obtain ⟨r7, n7, p7⟩ := s_Range M6 (kz O6) rfl (by decide) (kb O6) rfl (by decide)
  obtain ⟨O7, w7, v, w, rfl, old7, nr, hks, hvs⟩ := p7 _ _ _ _ _ _ _ _ _ rfl M6 (kz O6) (kb O6)
  have M7 := M6.old old7
  have hks : ofList (ofInts .u8) (toldV O7 v) = some [[97]] := hks
  have hvs : ofIntsR .i64 O7 w = some [2] := hvs
  obtain ⟨vl, vd, vt⟩ := told_len hks
  have wt := ints_ntup hvs
  have i1 : isM [] [98] = false := rfl
  have i2 : isM [([98], 1)] [97] = false := rfl
  have i3 : isM [([97], 2), ([98], 1)] [98] = true := rfl
  have i4 : isM [([97], 2), ([98], 5)] [98] = true := rfl
  have i5 : valM [([97], 2), ([98], 5)] [98] = 5 := rfl
  obtain ⟨wd, wn, wi, wa⟩ := is8 hvs
  have wi0 : indexV Try.prog 22 w (.int .i64 0) = some (ptAt w (ints .i64 [2]) 0) := wi .i64 0 (by decide)
  have wa0 : loadV Try.prog 3 O7 (ptAt w (ints .i64 [2]) 0) = some (.int .i64 2) := wa 0 (by decide)
  have kl := k_len M7
  have kh := k_hgt M7
  refine .go _ rfl rfl ?_
  simp -implicitDefEqProofs (maxSteps := 1000000) (disch := omega) [c_New, c_Put, c_Get, c_SeekT, c_Range, c_Hgt, c_Len18, n1, n2, n3, n4, n5, n6, n7, kl, kh, vl, vd, vt, wt, i1, i2, i3, i4, i5, wd, wn, wi0, wa0, nilEq, nilFit, blit1, convV, listV, fillV, zeros, setCells, u8s, strOfNums])
noncomputable def k_aliveA : Ab.Spec := anyF k_alive
noncomputable def T_aliveA : CallF := withF T_alive 8 k_aliveA
theorem T_aliveA_ok : CallOk Try.prog T_aliveA := con_any T_alive_ok (fun _ _ => rfl)
theorem aliveA (O : List AO) : k_aliveA [] O = some (.bool true, none) := anyF_of rfl rfl

end Go.Proofs.Ytdfcbophcfjakaa.B
set_option maxRecDepth 20000
set_option maxHeartbeats 1000000
namespace Go.Proofs.Ytdfcbophcfjakaa.B
open Go Go.Ab
/-! SkipHeights -/
theorem put_hi {m : Kvs} {k : List Int} {v : Int} (h : ∀ e ∈ m, cmpZ e.1 k < 0) : isM m k = false ∧ putM m k v = m ++ [(k, v)] := by
  obtain ⟨q1, q2⟩ := tw_split (p := lessK k) (a := m) (b := []) (fun x hx => decide_eq_true (h x hx)) (by simp)
  rw [List.append_nil] at q1 q2
  have e1 : lowM m k = m := q1
  have e2 : highM m k = [] := q2
  have e3 : isM m k = false := by unfold isM; rw [e2]
  refine ⟨e3, ?_⟩
  unfold putM
  rw [e1, e2, e3, if_neg (by simp)]
theorem put_lo {m : Kvs} {k : List Int} {v : Int} (h : ∀ e ∈ m, cmpZ k e.1 < 0) : isM m k = false ∧ putM m k v = (k, v) :: m := by
  have h' : ∀ e ∈ m, ¬ cmpZ e.1 k < 0 ∧ e.1 ≠ k := fun e he => ⟨fun q => by have := cmpZ_trans (h e he) q; rw [cmpZ_self] at this; omega, fun q => by have := h e he; rw [q, cmpZ_self] at this; omega⟩
  obtain ⟨q1, q2⟩ := tw_split (p := lessK k) (a := []) (b := m) (by simp) (fun x hx => decide_eq_false (h' x hx).1)
  rw [List.nil_append] at q1 q2
  have e1 : lowM m k = [] := q1
  have e2 : highM m k = m := q2
  have e3 : isM m k = false := by
    unfold isM; rw [e2]
    cases m with
    | nil => rfl
    | cons e m => exact decide_eq_false (h' e (by simp)).2
  refine ⟨e3, ?_⟩
  unfold putM
  rw [e1, e2, e3, if_neg (by simp)]; rfl
def mUp (E : List (List Int)) (i : Nat) : Kvs := (List.range i).map fun j => (nth E j, (j : Int))
def mDn (E : List (List Int)) (i : Nat) : Kvs := (List.range (E.length - i)).map fun j => (nth E (i + j), ((i + j : Nat) : Int))
theorem mUp_put {E : List (List Int)} (hS : Srt E) {i : Nat} (hi : i < E.length) : isM (mUp E i) (nth E i) = false ∧ putM (mUp E i) (nth E i) i = mUp E (i + 1) := by
  obtain ⟨h1, h2⟩ := put_hi (m := mUp E i) (k := nth E i) (v := i) fun e he => by
    obtain ⟨j, hj, rfl⟩ := List.mem_map.1 he
    exact hS.nth (List.mem_range.1 hj) hi
  refine ⟨h1, h2.trans ?_⟩
  unfold mUp
  rw [List.range_succ, List.map_append]; rfl
theorem mDn_put {E : List (List Int)} (hS : Srt E) {i : Nat} (hi : i < E.length) : isM (mDn E (i + 1)) (nth E i) = false ∧ putM (mDn E (i + 1)) (nth E i) i = mDn E i := by
  obtain ⟨h1, h2⟩ := put_lo (m := mDn E (i + 1)) (k := nth E i) (v := i) fun e he => by
    obtain ⟨j, hj, rfl⟩ := List.mem_map.1 he
    have := List.mem_range.1 hj
    exact hS.nth (by omega) (by omega)
  refine ⟨h1, h2.trans ?_⟩
  unfold mDn
  rw [show E.length - i = (E.length - (i + 1)) + 1 by omega, List.range_succ_eq_map, List.map_cons, List.map_map]
  congr 1
  refine List.map_congr_left fun j _ => ?_
  simp only [Function.comp]
  rw [show i + (j + 1) = i + 1 + j by omega]
theorem mDn_top (E : List (List Int)) : mDn E E.length = [] := by unfold mDn; rw [Nat.sub_self]; rfl
theorem mDn_zero (E : List (List Int)) : mDn E 0 = mUp E E.length := by
  unfold mDn mUp
  rw [Nat.sub_zero]
  refine List.map_congr_left fun j _ => ?_
  rw [Nat.zero_add]
theorem mUp_len (E : List (List Int)) (i : Nat) : (mUp E i).length = i := by simp [mUp]
theorem mDn_len (E : List (List Int)) (i : Nat) : (mDn E i).length = E.length - i := by simp [mDn]
theorem SkM.fr {O O' : List AO} {b c : Nat} {m : Kvs} {hs : List Int} {tk : Nat} {hg : Int} (M : SkM O c m hs tk hg) (F : FrB b O O') (h : ∀ id, id = c ∨ id = c + 1 ∨ id = c + 2 ∧ hs ≠ [] → id ≠ b ∧ id ≠ b + 1) : SkM O' c m hs tk hg := M.keep fun id cs v hid q => by
  have hlt : id < O.length := by
    rcases Nat.lt_or_ge id O.length with z | z
    · exact z
    · rw [List.getElem?_eq_none z] at q; cases q
  rw [F.same id hlt (h id hid).1 (h id hid).2]; exact q
theorem tkN_le (hs : List Int) (tk : Nat) : tkN hs tk ≤ tk + 1 := by unfold tkN; split <;> omega
/-- One put of a key that is new. -/
theorem put_new {O : List AO} {b : Nat} {m m' : Kvs} {hs : List Int} {tk : Nat} {hg : Int} {kv : V} {k : List Int} {v : Int} (M : SkM O b m hs tk hg) (hk : ofIntsR .u8 O kv = some k) (k8 : b8 k = true) (kl : k.length < 140737488355000) (hml : m.length < 3999990) (htk : tk < 3999990) (h1 : isM m k = false) (h2 : putM m k v = m') :
    ∃ O' low' tk' hg', k_Put [.ptr (b + 1) 0 0, kv, .int .i64 v] O = some (.bool true, some (O', low')) ∧ SkM O' b m' hs tk' hg' ∧ tk' ≤ tk + 1 ∧ FrB b O O' := by
  obtain ⟨r, n, p⟩ := s_Put (v := v) M hk k8 kl hml htk
  obtain ⟨O', low', rfl, M', F⟩ := p _ _ _ _ _ _ _ _ rfl M hk
  rw [h1, h2] at M'
  rw [h1] at n
  exact ⟨O', low', _, _, n, M', tkN_le _ _, F⟩
theorem told_same {O O' : List AO} {v : V} (h : noref 0 (toldV O v) = true) (ho : Old O O') : toldV O' v = toldV O v := toldV_keep h fun id ver off n cs _ q => by rw [ho.2 _ _ (getObj_lt q)]; exact q
theorem ints_old {k : IntKind} {O O' : List AO} {v : V} {l : List Int} (h : ofIntsR k O v = some l) (ho : Old O O') : ofIntsR k O' v = some l := by
  rcases ofIntsR_inv h with q | ⟨id, ver, off, cs, rfl, q1, q2, q3⟩
  · exact ofIntsR_of q
  · have q4 : Ab.getObj O' id ver = some cs := by rw [ho.2 _ _ (getObj_lt q1)]; exact q1
    simp only [ofIntsR, q4, q2, ofCellsI_ints, Option.bind_some]
    rw [if_pos ⟨trivial, q3⟩]
def txOk (ss : List (List Int)) : Prop := ∀ s ∈ ss, b8 s = true ∧ s.length ≤ 140737488351232
noncomputable def k_SkipHeights : Ab.Spec := fun args objs => match args, objs with
  | [v0, v1, v2, v3, v4], [] => match ofInts .i64 v0, ofInts .i64 v1, ofList (ofInts .u8) v2, ofInts .u8 v3, ofInts .u8 v4 with
    | some la, some lb, some ss, some lo, some hi => pre (la.length < 17592186044000 ∧ lb.length < 17592186044000 ∧ ss.length < 140737488355328 ∧ txOk ss ∧ (b8 lo = true ∧ lo.length < 140737488355000) ∧ b8 hi = true ∧ hi.length < 140737488355000) (some (.bool true, none))
    | _, _, _, _, _ => none
  | _, _ => none
noncomputable def T_SkipHeights : CallF := withF T_aliveA 4 k_SkipHeights
theorem T_SkipHeights_ok : CallOk Try.prog T_SkipHeights := con_ofW (A := annOf [] [] [] false [7, 17, 18, 13]) fit T_aliveA_ok (fn := Try.f4) (by kernel_rfl) (by kernel_rfl) (by
  intro args objs r h0
  have c_aliveA : ∀ a o, T_aliveA 8 a o = k_aliveA a o := fun _ _ => rfl
  have c_New : ∀ a o, T_aliveA 7 a o = k_New a o := fun _ _ => rfl
  have c_Put : ∀ a o, T_aliveA 17 a o = k_Put a o := fun _ _ => rfl
  have c_SeekT : ∀ a o, T_aliveA 18 a o = k_SeekT a o := fun _ _ => rfl
  have c_Range : ∀ a o, T_aliveA 13 a o = k_Range a o := fun _ _ => rfl
  have c_Len18 : ∀ a o, T_aliveA 10 a o = k_Len18 a o := fun _ _ => rfl
  have c_SameR : ∀ a o, T_aliveA 19 a o = k_SameR a o := fun _ _ => rfl
  have c_SameInts : ∀ a o, T_aliveA 15 a o = k_SameInts a o := fun _ _ => rfl
  have c_Same10H : ∀ a o, T_aliveA 14 a o = k_Same10H a o := fun _ _ => rfl
  have c_Index10 : ∀ a o, T_aliveA 16 a o = k_Index10 a o := fun _ _ => rfl
  unfold k_SkipHeights at h0
  split at h0
  case h_2 => cases h0
  rename_i v0 v1 v2 v3 v4
  split at h0
  case h_2 => cases h0
  rename_i la lb ss lo hi h0a h1a h2a h3a h4a
  obtain ⟨⟨hla, hlb, hss, hok, ⟨lo8, lol⟩, hi8, hil⟩, hR⟩ := pre_inv h0
  cases hR
  obtain ⟨d0, -⟩ := is8 (objs := []) (ofIntsR_of h0a)
  obtain ⟨d1, -⟩ := is8 (objs := []) (ofIntsR_of h1a)
  obtain ⟨d2, -⟩ := tx h2a
  obtain ⟨d3, -⟩ := bs h3a
  obtain ⟨d4, -⟩ := bs h4a
  obtain ⟨r1, n1, p1⟩ := s_New (objs := []) h0a hla
  obtain ⟨O1, w1, rfl, -, M1, l1⟩ := p1 _ _ rfl h0a
  have n1 : k_New [v0] [] = some (.ptr 1 0 0, some (O1, w1)) := n1
  have l1 : O1.length = if la = [] then 2 else 3 := by rw [l1]; simp
  obtain ⟨b, hb⟩ : ∃ b, b = O1.length := ⟨_, rfl⟩
  obtain ⟨r2, n2, p2⟩ := s_New (objs := O1) h1a hlb
  obtain ⟨O2, w2, rfl, old2, M2, l2⟩ := p2 _ _ rfl h1a
  rw [← hb] at n2 M2
  have M1 := M1.old old2
  obtain ⟨hs1, hh1⟩ : ∃ h, h = la.map clipH := ⟨_, rfl⟩
  obtain ⟨hs2, hh2⟩ : ∃ h, h = lb.map clipH := ⟨_, rfl⟩
  have M1 : SkM O2 0 [] (la.map clipH) 0 0 := M1
  rw [← hh1] at M1
  rw [← hh2] at M2
  have hb2 : 2 ≤ b := by rw [hb, l1]; split <;> omega
  have fr1 : ∀ id, id = b ∨ id = b + 1 ∨ id = b + 2 ∧ hs2 ≠ [] → id ≠ 0 ∧ id ≠ 0 + 1 := fun id h => by omega
  have fr2 : ∀ id, id = 0 ∨ id = 0 + 1 ∨ id = 0 + 2 ∧ hs1 ≠ [] → id ≠ b ∧ id ≠ b + 1 := fun id h => by
    rcases h with h | h | ⟨h, hne⟩
    · omega
    · omega
    · have : la ≠ [] := fun q => hne (by rw [hh1, q]; rfl)
      rw [if_neg this] at l1
      omega
  refine .go _ rfl rfl ?_
  refine ToW.front (M := fun s => s.env 0 = v0 ∧ s.env 1 = v1 ∧ s.env 2 = v2 ∧ s.env 3 = v3 ∧ s.env 4 = v4 ∧ s.toks = [] ∧ s.objs = []) ?_ ?_
  · simp
    exact ⟨rfl, by simp, by simp, by simp, by simp, by simp, rfl, rfl⟩
  rintro s ⟨e0, e1, e2, e3, e4, ht, ho⟩
  refine ToW.front (M := fun s => s.env 2 = v2 ∧ s.env 3 = v3 ∧ s.env 4 = v4 ∧ s.env 11 = .ptr 1 0 0 ∧ s.env 12 = .ptr (b + 1) 0 0 ∧ s.toks = [] ∧ s.objs = O2) ?_ ?_
  · simp -implicitDefEqProofs (disch := omega) [e0, e1, e2, e3, e4, ht, ho, d0, d1, c_New, n1, n2]
    exact ⟨rfl, by simp [e2], by simp [e3], by simp [e4], by simp, by simp, rfl, rfl⟩
  clear e0 e1 e2 e3 e4 ht ho
  clear s
  rintro s ⟨e2, e3, e4, e11, e12, ht, ho⟩
  refine ToW.front (M := fun s => s.env 2 = v2 ∧ s.env 3 = v3 ∧ s.env 4 = v4 ∧ s.env 11 = .ptr 1 0 0 ∧ s.env 12 = .ptr (b + 1) 0 0 ∧ s.toks = [] ∧ s.objs = O2) ?_ ?_
  · simp -implicitDefEqProofs (disch := omega) [e2, e3, e4, e11, e12, ht, ho, nilEq, nilFit, c_aliveA, aliveA]
    exact ⟨rfl, by simp [e2], by simp [e3], by simp [e4], by simp [e11], by simp [e12], rfl, rfl⟩
  clear e2 e3 e4 e11 e12 ht ho
  clear s
  rintro s ⟨e2, e3, e4, e11, e12, ht, ho⟩
  refine ToW.front (M := fun s => s.env 3 = v3 ∧ s.env 4 = v4 ∧ s.env 11 = .ptr 1 0 0 ∧ s.env 12 = .ptr (b + 1) 0 0 ∧ s.toks = [] ∧ s.objs = O2 ∧ ∃ E, ofList (ofInts .u8) (s.env 13) = some E ∧ Srt E ∧ (∀ t ∈ E, b8 t = true ∧ t.length ≤ 200) ∧ E.length ≤ 4096) ?_ ?_
  · have hsT : shortT ss = true := shortT_iff.2 fun t ht => by have := (hok t ht).2; omega
    by_cases hbad : encBad ss = true
    · have kx : ∀ O, k_Index10 [v2] O = some (.tup [.nils, .nils, .int .i64 4], none) := fun O => by
        simp (disch := omega) [k_Index10, h2a, hsT, hbad]
      simp -implicitDefEqProofs (disch := omega) [e2, e3, e4, e11, e12, ht, ho, d2, c_Index10, kx]
      exact ⟨rfl, by simp [e3], by simp [e4], by simp [e11], by simp [e12], rfl, rfl, [], by simp [ofList, ofCells], List.Pairwise.nil, by simp, by simp⟩
    · have hbad := Bool.eq_false_iff.2 hbad
      obtain ⟨hN, h200⟩ := not_bad hbad
      obtain ⟨i1, i2, i3⟩ := idx_facts ss ss.length (Nat.le_refl _)
      have kx : ∀ O, k_Index10 [v2] O = some (.tup [.lst .frozen (txV (idxX ss)) (idxX ss).length, .lst (.fresh 1 false) (ints .i64 (codesL (idxX ss) ss ss.length)) ss.length, .int .i64 0], none) := fun O => by
        simp (disch := omega) [k_Index10, h2a, hsT, hbad]
      simp -implicitDefEqProofs (disch := omega) [e2, e3, e4, e11, e12, ht, ho, d2, c_Index10, kx]
      refine ⟨rfl, by simp [e3], by simp [e4], by simp [e11], by simp [e12], rfl, rfl, idxX ss, by simp; exact txV_of rfl, i1, fun t ht => ?_, by unfold idxX; omega⟩
      have hm := i3 t ht
      obtain ⟨j, hj, rfl⟩ := nth_of_mem hm
      exact ⟨(hok _ hm).1, h200 j hj⟩
  clear e2 e3 e4 e11 e12 ht ho
  clear s
  rintro s ⟨e3, e4, e11, e12, ht, ho, E, hE, hS, hE8, hN⟩
  obtain ⟨u, hu⟩ : ∃ u, u = s.env 13 := ⟨_, rfl⟩
  have e13 := hu.symm
  rw [← hu] at hE
  obtain ⟨du, nu, cs, iu, cu⟩ := tx hE
  -- the first list
  refine ToW.front (M := fun s => s.env 3 = v3 ∧ s.env 4 = v4 ∧ s.env 11 = .ptr 1 0 0 ∧ s.env 12 = .ptr (b + 1) 0 0 ∧ s.env 13 = u ∧ s.toks = [] ∧ ∃ tk hg, SkM s.objs 0 (mUp E E.length) hs1 tk hg ∧ SkM s.objs b [] hs2 0 0) ?_ ?_
  · simp -implicitDefEqProofs (disch := omega) [e3, e4, e11, e12, e13, ht, ho, du, nu]
    obtain ⟨I, hI⟩ : ∃ I : Nat → St → Prop, I = (fun (i : Nat) (z : St) => z.env 3 = v3 ∧ z.env 4 = v4 ∧ z.env 11 = .ptr 1 0 0 ∧ z.env 12 = .ptr (b + 1) 0 0 ∧ z.env 13 = u ∧ z.env 49 = u ∧ z.env 50 = .int .i64 E.length ∧ z.env 51 = .int .i64 i ∧ z.toks = [] ∧ ∃ tk hg, tk ≤ i ∧ SkM z.objs 0 (mUp E i) hs1 tk hg ∧ SkM z.objs b [] hs2 0 0) := ⟨_, rfl⟩
    refine .up E.length I (by rw [hI]; exact ⟨by simp [e3], by simp [e4], by simp [e11], by simp [e12], by simp [e13], by simp, by simp, by simp, rfl, 0, 0, by omega, M1, M2⟩) ?_
    clear e3 e4 e11 e12 e13 ht ho hu
    clear s
    intro i s hi hz
    rw [hI] at hz
    obtain ⟨e3, e4, e11, e12, e13, e49, e50, e51, ht, tk, hg, htk, N1, N2⟩ := hz
    rcases Nat.lt_or_ge i E.length with h | h
    · obtain ⟨c, c1, c1', c2⟩ := cu i h
      obtain ⟨cd, -⟩ := bs c2
      have x1 := iu .i64 i (by omega) (by omega)
      rw [Int.toNat_natCast] at x1
      obtain ⟨k8, kl⟩ := hE8 _ (nth_mem h)
      obtain ⟨q1, q2⟩ := mUp_put hS h
      obtain ⟨O', w', tk', hg', kp, N1', ht', F⟩ := put_new (v := i) N1 (ofIntsR_of c2) k8 (by omega) (by rw [mUp_len]; omega) (by omega) q1 q2
      have N2' := N2.fr F fr1
      have kp : k_Put [.ptr 1 0 0, c, .int .i64 i] s.objs = some (.bool true, some (O', w')) := kp
      simp -implicitDefEqProofs (disch := omega) [e3, e4, e11, e12, e13, e49, e50, e51, ht, h, x1, c1, c1', cd, c_Put, kp, wrap_small]
      rw [hI]
      exact ⟨by simp [e3], by simp [e4], by simp [e11], by simp [e12], by simp [e13], by simp [e49], by simp [e50], by simp, rfl, tk', hg', by omega, N1', N2'⟩
    · obtain rfl : i = E.length := by omega
      simp -implicitDefEqProofs (disch := omega) [e3, e4, e11, e12, e13, e49, e50, e51, ht]
      exact ⟨rfl, by simp [e3], by simp [e4], by simp [e11], by simp [e12], by simp [e13], rfl, ⟨tk, hg, N1⟩, N2⟩
  clear e3 e4 e11 e12 e13 ht ho hu
  clear s
  rintro s ⟨e3, e4, e11, e12, e13, ht, tk, hg, N1, N2⟩
  -- the second
  refine ToW.front (M := fun s => s.env 3 = v3 ∧ s.env 4 = v4 ∧ s.env 11 = .ptr 1 0 0 ∧ s.env 12 = .ptr (b + 1) 0 0 ∧ s.env 13 = u ∧ s.toks = [] ∧ (∃ tk hg, SkM s.objs 0 (mUp E E.length) hs1 tk hg) ∧ ∃ tk hg, SkM s.objs b (mUp E E.length) hs2 tk hg) ?_ ?_
  · obtain ⟨I, hI⟩ : ∃ I : Nat → St → Prop, I = (fun (i : Nat) (z : St) => i ≤ E.length ∧ z.env 3 = v3 ∧ z.env 4 = v4 ∧ z.env 11 = .ptr 1 0 0 ∧ z.env 12 = .ptr (b + 1) 0 0 ∧ z.env 13 = u ∧ z.env 18 = .int .i64 ((i : Int) - 1) ∧ z.toks = [] ∧ (∃ tk hg, SkM z.objs 0 (mUp E E.length) hs1 tk hg) ∧ ∃ tk hg, tk ≤ E.length - i ∧ SkM z.objs b (mDn E i) hs2 tk hg) := ⟨_, rfl⟩
    simp -implicitDefEqProofs (disch := omega) [e3, e4, e11, e12, e13, ht, du, nu, wrap_small]
    refine .dn E.length I (by rw [hI]; exact ⟨Nat.le_refl _, by simp [e3], by simp [e4], by simp [e11], by simp [e12], by simp [e13], by simp, rfl, ⟨tk, hg, N1⟩, 0, 0, by omega, by rw [mDn_top]; exact N2⟩) ?_
    clear e3 e4 e11 e12 e13 ht N1 N2 tk hg
    clear s
    intro i s hz
    rw [hI] at hz
    obtain ⟨hi, e3, e4, e11, e12, e13, e18, ht, ⟨tk1, hg1, N1⟩, tk, hg, htk, N2⟩ := hz
    cases i with
    | zero =>
      have e18 : s.env 18 = .int .i64 (-1) := e18
      simp -implicitDefEqProofs (disch := omega) [e3, e4, e11, e12, e13, e18, ht]
      rw [mDn_zero] at N2
      exact ⟨rfl, by simp [e3], by simp [e4], by simp [e11], by simp [e12], by simp [e13], rfl, ⟨tk1, hg1, N1⟩, tk, hg, N2⟩
    | succ i =>
      have e18 : s.env 18 = .int .i64 (i : Int) := by rw [e18, show ((i + 1 : Nat) : Int) - 1 = i by omega]
      have h : i < E.length := by omega
      obtain ⟨c, c1, c1', c2⟩ := cu i h
      obtain ⟨cd, -⟩ := bs c2
      have x1 := iu .i64 i (by omega) (by omega)
      rw [Int.toNat_natCast] at x1
      obtain ⟨k8, kl⟩ := hE8 _ (nth_mem h)
      obtain ⟨q1, q2⟩ := mDn_put hS h
      obtain ⟨O', w', tk', hg', kp, N2', ht', F⟩ := put_new (v := i) N2 (ofIntsR_of c2) k8 (by omega) (by rw [mDn_len]; omega) (by omega) q1 q2
      have N1' := N1.fr F fr2
      have hi0 : (0 : Int) ≤ i := by omega
      simp -implicitDefEqProofs (disch := omega) [e3, e4, e11, e12, e13, e18, ht, hi0, x1, c1, c1', cd, c_Put, kp, wrap_small]
      refine ⟨i, by omega, ?_⟩
      rw [hI]
      exact ⟨by omega, by simp [e3], by simp [e4], by simp [e11], by simp [e12], by simp [e13], by simp, rfl, ⟨tk1, hg1, N1'⟩, tk', hg', by omega, N2'⟩
  clear e3 e4 e11 e12 e13 ht N1 N2 tk hg
  clear s
  rintro s ⟨e3, e4, e11, e12, e13, ht, ⟨tk1, hg1, N1⟩, tk2, hg2, N2⟩
  obtain ⟨m, hm⟩ : ∃ m, m = mUp E E.length := ⟨_, rfl⟩
  have hml : m.length = E.length := by rw [hm, mUp_len]
  rw [← hm] at N1 N2
  have t3 : ∀ O, ofIntsR .u8 O v3 = some lo := fun O => ofIntsR_of h3a
  have t4 : ∀ O, ofIntsR .u8 O v4 = some hi := fun O => ofIntsR_of h4a
  -- Range of the first
  obtain ⟨O3, ho3⟩ : ∃ O, O = s.objs := ⟨_, rfl⟩
  have ho := ho3.symm
  rw [← ho3] at N1 N2
  obtain ⟨r3, n3, p3⟩ := s_Range N1 (t3 O3) lo8 lol (t4 O3) hi8 hil
  obtain ⟨O4, w4, x, y, rfl, old4, nx, dx, dy⟩ := p3 _ _ _ _ _ _ _ _ _ rfl N1 (t3 O3) (t4 O3)
  have n3 : k_Range [.ptr 1 0 0, v3, v4] O3 = some (.tup [x, y], some (O4, w4)) := n3
  have N1 := N1.old old4
  have N2 := N2.old old4
  obtain ⟨-, xd, xt⟩ := told_len dx
  obtain ⟨yd, -⟩ := is8 dy
  have yt := ints_ntup dy
  refine ToW.front (M := fun s => s.env 3 = v3 ∧ s.env 4 = v4 ∧ s.env 11 = .ptr 1 0 0 ∧ s.env 12 = .ptr (b + 1) 0 0 ∧ s.env 13 = u ∧ s.env 19 = x ∧ s.env 20 = y ∧ s.toks = [] ∧ s.objs = O4) ?_ ?_
  · simp -implicitDefEqProofs (disch := omega) [e3, e4, e11, e12, e13, ht, ho, d3, d4, c_Range, n3, xd, yd, xt, yt]
    exact ⟨rfl, by simp [e3], by simp [e4], by simp [e11], by simp [e12], by simp [e13], by simp, by simp, rfl, rfl⟩
  clear e3 e4 e11 e12 e13 ht ho ho3
  clear s
  rintro s ⟨e3, e4, e11, e12, e13, e19, e20, ht, ho⟩
  -- of the second
  obtain ⟨r5, n5, p5⟩ := s_Range N2 (t3 O4) lo8 lol (t4 O4) hi8 hil
  obtain ⟨O5, w5, z, w, rfl, old5, nz, dz, dw⟩ := p5 _ _ _ _ _ _ _ _ _ rfl N2 (t3 O4) (t4 O4)
  have N1 := N1.old old5
  have N2 := N2.old old5
  obtain ⟨-, zd, zt⟩ := told_len dz
  obtain ⟨wd, -⟩ := is8 dw
  have wt := ints_ntup dw
  refine ToW.front (M := fun s => s.env 3 = v3 ∧ s.env 11 = .ptr 1 0 0 ∧ s.env 12 = .ptr (b + 1) 0 0 ∧ s.env 13 = u ∧ s.env 19 = x ∧ s.env 20 = y ∧ s.env 21 = z ∧ s.env 22 = w ∧ s.toks = [] ∧ s.objs = O5) ?_ ?_
  · simp -implicitDefEqProofs (disch := omega) [e3, e4, e11, e12, e13, e19, e20, ht, ho, d3, d4, c_Range, n5, zd, wd, zt, wt]
    exact ⟨rfl, by simp [e3], by simp [e11], by simp [e12], by simp [e13], by simp [e19], by simp [e20], by simp, by simp, rfl, rfl⟩
  clear e3 e4 e11 e12 e13 e19 e20 ht ho
  clear s
  rintro s ⟨e3, e11, e12, e13, e19, e20, e21, e22, ht, ho⟩
  have dx5 := dx
  have dy5 := ints_old dy old5
  rw [← told_same nx old5] at dx5 nx
  -- Seek
  obtain ⟨p, v, g, hpg⟩ : ∃ (p : V) (v : Int) (g : Bool), (match highM m lo with | [] => p = .nils ∧ v = 0 ∧ g = false | e :: _ => p = .lst .frozen (ints .u8 e.1) e.1.length ∧ v = e.2 ∧ g = true) := by
    cases highM m lo with
    | nil => exact ⟨_, _, _, rfl, rfl, rfl⟩
    | cons e l => exact ⟨_, _, _, rfl, rfl, rfl⟩
  have hshort : ∀ e ∈ m, e.1.length < 140737488355000 := fun e he => by
    rw [hm] at he
    obtain ⟨j, hj, rfl⟩ := List.mem_map.1 he
    have := (hE8 _ (nth_mem (List.mem_range.1 hj))).2
    show (nth E j).length < _
    omega
  obtain ⟨q, hq, q8⟩ : ∃ q, ofInts .u8 p = some q ∧ q.length < 140737488355000 := by
    cases hh : highM m lo with
    | nil =>
      rw [hh] at hpg
      obtain ⟨rfl, -⟩ := hpg
      exact ⟨[], rfl, by decide⟩
    | cons e l =>
      rw [hh] at hpg
      obtain ⟨rfl, -⟩ := hpg
      exact ⟨e.1, ofInts_lst rfl, hshort e ((List.dropWhile_sublist _).subset (show e ∈ highM m lo by rw [hh]; simp))⟩
  obtain ⟨pd, -⟩ := bs hq
  have pt : ntup p = some p := ints_ntup (objs := []) (ofIntsR_of hq)
  have sk : ∀ {O : List AO} {c : Nat} {hs : List Int} {tk : Nat} {hg : Int}, SkM O c m hs tk hg → ∃ O' w', k_SeekT [.ptr (c + 1) 0 0, v3] O = some (.tup [p, .int .i64 v, .bool g], some (O', w')) ∧ Old O O' := fun {O c hs tk hg} N => by
    obtain ⟨r, k, pr⟩ := s_SeekT N (t3 O) lo8 lol
    have pr := pr _ _ _ _ _ _ _ rfl N (t3 O)
    unfold SeekTP at pr
    cases hh : highM m lo with
    | nil =>
      rw [hh] at pr hpg
      obtain ⟨rfl, rfl, rfl⟩ := hpg
      obtain ⟨O', w', rfl, ho⟩ := pr
      exact ⟨O', w', k, ho⟩
    | cons e l =>
      rw [hh] at pr hpg
      obtain ⟨rfl, rfl, rfl⟩ := hpg
      obtain ⟨O', w', rfl, ho⟩ := pr
      exact ⟨O', w', k, ho⟩
  obtain ⟨O6, w6, k6, old6⟩ := sk N1
  have k6 : k_SeekT [.ptr 1 0 0, v3] O5 = some (.tup [p, .int .i64 v, .bool g], some (O6, w6)) := k6
  have N1 := N1.old old6
  have N2 := N2.old old6
  obtain ⟨O7, w7, k7, old7⟩ := sk N2
  have N1 := N1.old old7
  have N2 := N2.old old7
  have old57 : Old O5 O7 := old6.trans old7
  refine ToW.front (M := fun s => s.env 3 = v3 ∧ s.env 11 = .ptr 1 0 0 ∧ s.env 12 = .ptr (b + 1) 0 0 ∧ s.env 13 = u ∧ s.env 19 = x ∧ s.env 20 = y ∧ s.env 21 = z ∧ s.env 22 = w ∧ s.env 23 = p ∧ s.env 24 = .int .i64 v ∧ s.env 25 = .bool g ∧ s.toks = [] ∧ s.objs = O6) ?_ ?_
  · simp -implicitDefEqProofs (disch := omega) [e3, e11, e12, e13, e19, e20, e21, e22, ht, ho, d3, c_SeekT, k6, pd, pt]
    exact ⟨rfl, by simp [e3], by simp [e11], by simp [e12], by simp [e13], by simp [e19], by simp [e20], by simp [e21], by simp [e22], by simp, by simp, by simp, rfl, rfl⟩
  clear e3 e11 e12 e13 e19 e20 e21 e22 ht ho
  clear s
  rintro s ⟨e3, e11, e12, e13, e19, e20, e21, e22, e23, e24, e25, ht, ho⟩
  refine ToW.front (M := fun s => s.env 11 = .ptr 1 0 0 ∧ s.env 12 = .ptr (b + 1) 0 0 ∧ s.env 13 = u ∧ s.env 19 = x ∧ s.env 20 = y ∧ s.env 21 = z ∧ s.env 22 = w ∧ s.env 23 = p ∧ s.env 24 = .int .i64 v ∧ s.env 25 = .bool g ∧ s.env 26 = p ∧ s.env 27 = .int .i64 v ∧ s.env 28 = .bool g ∧ s.toks = [] ∧ s.objs = O7) ?_ ?_
  · simp -implicitDefEqProofs (disch := omega) [e3, e11, e12, e13, e19, e20, e21, e22, e23, e24, e25, ht, ho, d3, c_SeekT, k7, pd, pt]
    exact ⟨rfl, by simp [e11], by simp [e12], by simp [e13], by simp [e19], by simp [e20], by simp [e21], by simp [e22], by simp [e23], by simp [e24], by simp [e25], by simp, by simp, by simp, rfl, rfl⟩
  clear e3 e11 e12 e13 e19 e20 e21 e22 e23 e24 e25 ht ho
  clear s
  rintro s ⟨e11, e12, e13, e19, e20, e21, e22, e23, e24, e25, e26, e27, e28, ht, ho⟩
  have dx7 := dx5
  rw [← told_same nx old57] at dx7
  have dz7 := dz
  rw [← told_same nz old57] at dz7
  have nx7 : noref 0 (toldV O7 x) = true := by rw [told_same nx old57]; exact nx
  have nz7 : noref 0 (toldV O7 z) = true := by rw [told_same nz old57]; exact nz
  have dy7 := ints_old dy5 old57
  have dw7 := ints_old dw old57
  obtain ⟨ks, hks⟩ : ∃ ks, ks = (rangeM m lo hi).map (·.1) := ⟨_, rfl⟩
  obtain ⟨vs, hvs⟩ : ∃ vs, vs = (rangeM m lo hi).map (·.2) := ⟨_, rfl⟩
  rw [← hks] at dx7 dz7
  rw [← hvs] at dy7 dw7
  have hrl : (rangeM m lo hi).length ≤ 4096 := by
    have h1 : (rangeM m lo hi).length ≤ (highM m lo).length := by unfold rangeM; exact (List.takeWhile_sublist _).length_le
    have h2 : (highM m lo).length ≤ m.length := by unfold highM; exact (List.dropWhile_sublist _).length_le
    omega
  have hkl : ks.length ≤ 4096 := by rw [hks, List.length_map]; exact hrl
  have hvl : vs.length ≤ 4096 := by rw [hvs, List.length_map]; exact hrl
  have hksT : shortT ks = true := shortT_iff.2 fun t ht => by
    rw [hks] at ht
    obtain ⟨e, he, rfl⟩ := List.mem_map.1 ht
    have h1 : e ∈ m := by
      unfold rangeM highM at he
      exact (List.dropWhile_sublist _).subset ((List.takeWhile_sublist _).subset he)
    rw [hm] at h1
    obtain ⟨j, hj, rfl⟩ := List.mem_map.1 h1
    have := (hE8 _ (nth_mem (List.mem_range.1 hj))).2
    show (nth E j).length < _
    omega
  have ks1 : k_Same10H [x, z] O7 = some (.bool true, none) := heldF_of rfl (by
    show k_Same10 [toldV O7 x, toldV O7 z] [] = _
    simp (disch := omega) [k_Same10, dx7, dz7, hksT]) (by simp [norefs, nx7, nz7]) rfl
  have ks2 : k_SameInts [y, w] O7 = some (.bool true, none) := by simp (disch := omega) [k_SameInts, dy7, dw7]
  have tp : ofIntsR .u8 O7 p = some q := ofIntsR_of hq
  have ks3 : k_SameR [p, p] O7 = some (.bool true, none) := by simp (disch := omega) [k_SameR, tp]
  have kl1 := k_len N1
  have kl1 : k_Len18 [.ptr 1 0 0] O7 = some (.int .i64 m.length, none) := kl1
  have kl2 := k_len N2
  rw [hml] at kl1 kl2
  refine .of ?_
  simp -implicitDefEqProofs (disch := omega) [e11, e12, e13, e19, e20, e21, e22, e23, e24, e25, e26, e27, e28, ht, ho, du, nu, xd, yd, zd, wd, pd, c_Len18, kl1, kl2, c_Same10H, ks1, c_SameInts, ks2, c_SameR, ks3])

end Go.Proofs.Ytdfcbophcfjakaa.B
set_option maxRecDepth 20000
set_option maxHeartbeats 1000000
namespace Go.Proofs.Ytdfcbophcfjakaa.B
open Go Go.Ab
theorem in_int {D M n : Nat} {v : V} {t : TypeId} {k : IntKind} (hu : Try.prog.underlying t = some (.int k)) (hg : Ab.isAgg Try.prog t = false) (h : ShpV Try.prog D M n t v) : ∃ i, v = .int k i ∧ (Lit.int k i).wf = true := by
  unfold ShpV at h
  rw [if_neg (by rw [hg]; simp)] at h
  exact shp_int hu h
theorem wf_u32 {c : Int} (h : (Lit.int .u32 c).wf = true) : 0 ≤ c ∧ c < 4294967296 := by
  simp [Lit.wf, IntKind.min, IntKind.max] at h; omega
theorem wf_u64 {c : Int} (h : (Lit.int .u64 c).wf = true) : 0 ≤ c ∧ c < 18446744073709551616 := by
  simp [Lit.wf, IntKind.min, IntKind.max] at h; omega
theorem wf_i64 {c : Int} (h : (Lit.int .i64 c).wf = true) : -9223372036854775808 ≤ c ∧ c < 9223372036854775808 := by
  simp [Lit.wf, IntKind.min, IntKind.max] at h; omega
theorem flat : laidFlat Try.prog = true := by kernel_rfl

theorem in_bytes {D M n : Nat} {v : V} (h : ShpV Try.prog D M n 30 v) : ∃ l, ofInts .u8 v = some l ∧ b8 l = true ∧ l.length ≤ 140737488351232 ∧ (M = 0 ∨ l.length ≤ M) := by
  have hg : Ab.isAgg Try.prog 30 = false := by kernel_rfl
  have h2 : Shp Try.prog D M n 30 v := by unfold ShpV at h; rwa [if_neg (by rw [hg]; simp)] at h
  obtain ⟨l, l1, l2, l3, l4⟩ := shp_ints u30 u5 h2
  have hb : Try.prog.bytesOf 5 = 1 := by kernel_rfl
  rw [hb] at l3
  exact ⟨l, l1, wf_u8 l2, by omega, l4⟩
theorem in_texts {D M n : Nat} {v : V} (h : ShpV Try.prog D M n 27 v) : ∃ ss, ofList (ofInts .u8) v = some ss ∧ (∀ s ∈ ss, b8 s = true ∧ s.length ≤ 140737488351232 ∧ (M = 0 ∨ s.length ≤ M)) ∧ ss.length * 24 ≤ 140737488351232 ∧ (M = 0 ∨ ss.length ≤ M) := by
  have hg : Ab.isAgg Try.prog 27 = false := by kernel_rfl
  have hg2 : Ab.isAgg Try.prog 30 = false := by kernel_rfl
  have h2 : Shp Try.prog D M n 27 v := by unfold ShpV at h; rwa [if_neg (by rw [hg]; simp)] at h
  obtain ⟨l, l1, l2, l3, l4⟩ := shp_list (d := ofInts .u8) (R := fun s => b8 s = true ∧ s.length ≤ 140737488351232 ∧ (M = 0 ∨ s.length ≤ M)) u27 hg2 (fun m u hu => by
    obtain ⟨s, s1, s2, s3, s4⟩ := shp_ints u30 u5 hu
    have hb : Try.prog.bytesOf 5 = 1 := by kernel_rfl
    rw [hb] at s3
    exact ⟨s, s1, wf_u8 s2, by omega, s4⟩) h2
  have hb : Try.prog.bytesOf 30 = 24 := by kernel_rfl
  rw [hb] at l3
  exact ⟨l, l1, l2, by omega, l4⟩

theorem in_i64s {D M n : Nat} {v : V} (h : ShpV Try.prog D M n 22 v) : ∃ l, ofInts .i64 v = some l ∧ l.length * 8 ≤ 140737488351232 ∧ (M = 0 ∨ l.length ≤ M) := by
  have hg : Ab.isAgg Try.prog 22 = false := by kernel_rfl
  have h2 : Shp Try.prog D M n 22 v := by unfold ShpV at h; rwa [if_neg (by rw [hg]; simp)] at h
  obtain ⟨l, l1, l2, l3, l4⟩ := shp_ints u22 u3 h2
  have hb : Try.prog.bytesOf 3 = 8 := by kernel_rfl
  rw [hb] at l3
  exact ⟨l, l1, by omega, l4⟩
theorem in_txOk {D M n : Nat} {v : V} (h : ShpV Try.prog D M n 27 v) : ∃ ss, ofList (ofInts .u8) v = some ss ∧ ss.length < 140737488355328 ∧ txOk ss ∧ (M = 0 ∨ ss.length ≤ M) := by
  obtain ⟨ss, d0, b0, n0, m0⟩ := in_texts h
  exact ⟨ss, d0, by omega, fun l hl => ⟨(b0 l hl).1, (b0 l hl).2.1⟩, m0⟩
theorem walk_SkipHeights {D M n : Nat} {vs : List V} {args : Array Value} {W : World} (hS : ShpAll Try.prog D M n [22, 22, 27, 30, 30] vs) (hA : AR (top W) W vs args.toList) : Calls Try.prog 4 args W fun e W' => e = .returned (.bool true) ∧ Go.RowKit.Below W.heap.size W W' := by
  match vs, hS with
  | [v0, v1, v2, v3, v4], ⟨s0, s1, s2, s3, s4, _⟩ =>
    obtain ⟨la, d0, m0, -⟩ := in_i64s s0
    obtain ⟨lb, d1, m1, -⟩ := in_i64s s1
    obtain ⟨ss, d2, m2, o2, -⟩ := in_txOk s2
    obtain ⟨a, d3, b3, n3, -⟩ := in_bytes s3
    obtain ⟨c, d4, b4, n4, -⟩ := in_bytes s4
    refine whole fit T_SkipHeights_ok (fn := Try.f4) (by kernel_rfl) (by kernel_rfl) ?_ hA
    show k_SkipHeights [v0, v1, v2, v3, v4] [] = _
    have h2 : la.length < 17592186044000 ∧ lb.length < 17592186044000 ∧ ss.length < 140737488355328 ∧ txOk ss ∧ (b8 a = true ∧ a.length < 140737488355000) ∧ b8 c = true ∧ c.length < 140737488355000 := ⟨by omega, by omega, m2, o2, ⟨b3, by omega⟩, b4, by omega⟩
    simp only [k_SkipHeights, d0, d1, d2, d3, d4, pre_pos h2]

end Go.Proofs.Ytdfcbophcfjakaa.B
