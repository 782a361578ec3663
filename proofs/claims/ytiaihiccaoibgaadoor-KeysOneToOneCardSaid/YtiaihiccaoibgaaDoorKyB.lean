import Derived.Test.YtiaihiccaoibgaaDoorKyA
set_option linter.unusedSimpArgs false
set_option linter.unusedVariables false
set_option linter.unusedSectionVars false
set_option maxRecDepth 20000
set_option maxHeartbeats 1000000
namespace Go.Proofs.YtiaihiccaoibgaaDoor.B
open Go Go.Ab
theorem apart_gen {objs : List AO} {id ver : Nat} {a : List Int} {y u : V} (hg : Ab.getObj objs id ver = some (ints .u8 a)) (h0 : ¬ a = []) (hl : a.length < 140737488354000) (hy : ofIntsR .u8 objs y = some a) (hu : ofIntsR .u8 objs u = some a)
    (hy2 : ofIntsR .u8 (objs.set id (.cells (ints .u8 (a.map spF)) ver)) y = some a) (hu2 : ofIntsR .u8 (objs.set id (.cells (ints .u8 (a.map spF)) ver)) u = some a) (hcl : clean objs.length (objs.set id (.cells (ints .u8 (a.map spF)) ver)) = true) :
    k_Apart [.ref id ver 0 a.length 1, y, u] objs = some (.bool true, some (objs.set id (.cells (ints .u8 (a.map spF)) ver), id)) := by
  have hz : ¬ a.length = 0 := fun q => h0 (List.length_eq_zero_iff.1 q)
  simp [k_Apart, con3, hg, ofCellsI_ints, hl, hy, hu, hy2, hu2, hcl, h0, bnd_pos]
theorem apart_nilF (objs : List AO) : k_Apart [.nils, .nils, .lst .frozen [] 0] objs = some (.bool true, none) := by
  have h1 : ofIntsR .u8 objs V.nils = some [] := rfl
  have h2 : ofIntsR .u8 objs (.lst .frozen [] 0) = some [] := ofIntsR_of (ofInts_lst (l := []) rfl)
  simp [k_Apart, con3, h1, h2]
theorem lowZ_b8 (n : Nat) (u : Int) : b8 (lowZ n u) = true := b8_iff.2 fun c hc => by
  unfold lowZ at hc
  obtain ⟨i, -, rfl⟩ := List.mem_map.1 hc
  rw [wrapU8]; omega
theorem kput_b8 {k i : Int} {l : List Int} (h : b8 l = true) : b8 (kput k i l) = true := b8_iff.2 fun c hc => by
  unfold kput at hc
  split at hc
  · exact b8_iff.1 (lowZ_b8 _ _) c (List.mem_reverse.1 hc)
  split at hc
  · rcases List.mem_append.1 hc with q | q
    · exact b8_iff.1 h c q
    · simp at q; omega
  · rcases List.mem_append.1 hc with q | q
    · obtain ⟨x, hx, hcx⟩ := List.mem_flatMap.1 q
      have := b8_iff.1 h x hx
      unfold esc at hcx
      split at hcx <;> simp at hcx <;> omega
    · simp at q; omega
theorem catZ_b8 {f : Nat → List Int} : ∀ {n : Nat}, (∀ i, i < n → b8 (f i) = true) → b8 (catZ f n) = true
  | 0, _ => rfl
  | n + 1, h => b8_iff.2 fun c hc => by
    rw [catZ_succ] at hc
    rcases List.mem_append.1 hc with q | q
    · exact b8_iff.1 (catZ_b8 fun i hi => h i (by omega)) c q
    · exact b8_iff.1 (h n (by omega)) c q
theorem encZ_b8 {objs : List AO} {cols : List Co} {row : List Ce} (h : ∀ i, i < row.length → ceOk objs (nth row i) = true) : b8 (encZ objs cols row) = true := catZ_b8 fun i hi => kput_b8 (ceOk_inv (h i hi)).2.2.1
theorem encZ_lenB {objs : List AO} {cols : List Co} {K : Int} {row : List Ce} (h : row = [] ∨ encE objs cols K row = 0) : (encZ objs cols row).length ≤ 1206 := by
  rcases h with rfl | h
  · exact Nat.zero_le _
  · exact (encZ_len h).2
theorem bndE_zero {objs : List AO} {cols : List Co} {K : Int} {low high : List Ce} (h : bndE objs cols K low high = 0) : chkR cols K = 0 ∧ (low = [] ∨ encE objs cols K low = 0) ∧ (high = [] ∨ encE objs cols K high = 0) := by
  unfold bndE at h
  split at h
  case isFalse => rename_i q; exact absurd h q
  rename_i hg
  split at h
  · rename_i q; exact absurd h q.2
  rename_i q1
  split at h
  · rename_i q; exact absurd h q.2
  rename_i q2
  refine ⟨hg, ?_, ?_⟩
  · by_cases q : low = []
    · exact .inl q
    · exact .inr (Classical.byContradiction fun q3 => q1 ⟨q, q3⟩)
  · by_cases q : high = []
    · exact .inl q
    · exact .inr (Classical.byContradiction fun q3 => q2 ⟨q, q3⟩)
theorem bnd_sp {objs : List AO} {v : V} {K : Int} {low high : List Ce} {cols : List Co} {w u : V} (hsc : schD objs (.agg [v, .int .i64 K]) = some (cols, K)) (h1 : rowR objs w = some low) (h2 : rowR objs u = some high) :
    k_Bounds [.agg [v, .int .i64 K], w, u] objs = some (bndK (objs.length + 1) (bndE objs cols K low high) (encZ objs cols low) (encZ objs cols high), some (objs ++ [.cells [v, .int .i64 K] 0] ++ bndO (bndE objs cols K low high) (encE objs cols K low) (encZ objs cols low) (encZ objs cols high), objs.length)) := by
  simp [k_Bounds, hsc, h1, h2]
theorem bndE_old {objs O : List AO} {cols : List Co} {K : Int} {low high : List Ce} (h1 : ∀ i, i < low.length → ceOk objs (nth low i) = true) (h2 : ∀ i, i < high.length → ceOk objs (nth high i) = true) (ho : Old objs O) : bndE O cols K low high = bndE objs cols K low high := by
  unfold bndE; rw [encE_old h1 ho, encE_old h2 ho]
noncomputable def k_KeysBounds : Ab.Spec := con4 some some some some fun s w u k objs => match objs with
  | [] => match schD [] s, rowR [] w, rowR [] u, ofInts .u8 k with
    | some _, some _, some _, some key => if b8 key = true then bnd key.length 140737488355328 (some (.bool true, none)) else none
    | _, _, _, _ => none
  | _ => none
noncomputable def T_KeysBounds : CallF := withF T_Bounds 5 k_KeysBounds
theorem T_KeysBounds_ok : CallOk Tryd.prog T_KeysBounds := con_of (A := annOf [] [] [] false [14, 24]) fit T_Bounds_ok (fn := Tryd.f5) (by kernel_rfl) (by kernel_rfl) (by
  intro args objs r h0
  have c_aliveA : ∀ a o, T_Bounds 10 a o = k_aliveA a o := fun _ _ => rfl
  have c_Bounds : ∀ a o, T_Bounds 24 a o = k_Bounds a o := fun _ _ => rfl
  have c_rBounds : ∀ a o, T_Bounds 25 a o = k_rBounds a o := fun _ _ => rfl
  have c_SameR : ∀ a o, T_Bounds 26 a o = k_SameR a o := fun _ _ => rfl
  have c_Within : ∀ a o, T_Bounds 27 a o = k_Within a o := fun _ _ => rfl
  have c_rWithin : ∀ a o, T_Bounds 28 a o = k_rWithin a o := fun _ _ => rfl
  have c_Apart : ∀ a o, T_Bounds 14 a o = k_Apart a o := fun _ _ => rfl
  obtain ⟨s, w, u, k, _, _, _, _, rfl, hs, hw, hu, hk, hR⟩ := con4_inv h0
  cases hs; cases hw; cases hu; cases hk
  split at hR
  case h_2 => cases hR
  split at hR
  case h_2 => cases hR
  rename_i p low high key hsc hr1 hr2 hk
  obtain ⟨cols, K⟩ := p
  split at hR
  case isFalse => cases hR
  rename_i h8
  obtain ⟨lk, hR⟩ := bnd_inv hR
  cases hR
  obtain ⟨v, rfl, hc, hl, hsh⟩ := schD_inv hsc
  have vd := (colsV hc).dem
  have wd := (rowF hr1).2.1
  have ud := (rowF hr2).2.1
  have kd := (one_ofR (ofIntsR_of (objs := []) hk)).1
  have kO : ∀ O, ofIntsR .u8 O k = some key := fun O => ofIntsR_of hk
  have rk1 := (rowF hr1).2.2.2.2
  have rk2 := (rowF hr2).2.2.2.2
  have nv := fun b => sch_clean (s := v) (K := K) hc b
  obtain ⟨E, hE⟩ : ∃ E, E = bndE [] cols K low high := ⟨_, rfl⟩
  obtain ⟨E1, hE1⟩ : ∃ E, E = encE [] cols K low := ⟨_, rfl⟩
  obtain ⟨A, hA⟩ : ∃ A, A = encZ [] cols low := ⟨_, rfl⟩
  obtain ⟨B, hB⟩ : ∃ B, B = encZ [] cols high := ⟨_, rfl⟩
  have A8 : b8 A = true := by rw [hA]; exact encZ_b8 rk1
  have B8 : b8 B = true := by rw [hB]; exact encZ_b8 rk2
  have P1 : ∀ O, k_rBounds [.agg [v, .int .i64 K], w, u] O = some (bndF E A B, none) := fun O => by
    have ho := old_nil O
    simp [k_rBounds, schD_old hsc ho, rowR_old hr1 ho, rowR_old hr2 ho, bndE_old rk1 rk2 ho, encZ_old rk1 ho, encZ_old rk2 ho, ← hE, ← hA, ← hB]
  have P2 : ∀ O, k_Bounds [.agg [v, .int .i64 K], w, u] O = some (bndK (O.length + 1) E A B, some (O ++ [.cells [v, .int .i64 K] 0] ++ bndO E E1 A B, O.length)) := fun O => by
    have ho := old_nil O
    rw [bnd_sp (schD_old hsc ho) (rowR_old hr1 ho) (rowR_old hr2 ho), bndE_old rk1 rk2 ho, encE_old rk1 ho, encZ_old rk1 ho, encZ_old rk2 ho, ← hE, ← hE1, ← hA, ← hB]
  have n0 : ∀ O, ofIntsR .u8 O .nils = some [] := fun O => rfl
  have f0 : ∀ O, ofIntsR .u8 O (.lst .frozen [] 0) = some [] := fun O => ofIntsR_of (ofInts_lst (l := []) rfl)
  have f1 : ∀ (O : List AO) (x : List Int), ofIntsR .u8 O (.lst .frozen (ints .u8 x) x.length) = some x := fun O x => ofIntsR_of (ofInts_lst rfl)
  have b80 : b8 [] = true := rfl
  refine .go _ rfl rfl ?_
  by_cases he : E = 0
  case neg =>
    have Q1 : ∀ O, k_rBounds [.agg [v, .int .i64 K], w, u] O = some (.tup [.nils, .nils, .int .i64 E], none) := fun O => by rw [P1]; unfold bndF; rw [if_neg he]
    have Q2 : ∀ O, k_Bounds [.agg [v, .int .i64 K], w, u] O = some (.tup [.nils, .nils, .int .i64 E], some (O ++ [.cells [v, .int .i64 K] 0] ++ bndO E E1 A B, O.length)) := fun O => by rw [P2]; unfold bndK; rw [if_neg he]
    simp -implicitDefEqProofs (maxSteps := 1000000) (disch := omega) [vd, wd, ud, kd, c_aliveA, aliveA, c_Bounds, Q2, c_rBounds, Q1, c_SameR, k_SameR, n0, c_Within, k_Within, c_rWithin, k_rWithin, kO, h8, b80, c_Apart, apart_nils]
  obtain ⟨-, hz1, hz2⟩ := bndE_zero (hE.symm.trans he)
  have lA := encZ_lenB hz1
  have lB := encZ_lenB hz2
  rw [← hA] at lA
  rw [← hB] at lB
  have Q1 : ∀ O, k_rBounds [.agg [v, .int .i64 K], w, u] O = some (.tup [.lst .frozen (ints .u8 A) A.length, .lst .frozen (ints .u8 B) B.length, .int .i64 0], none) := fun O => by rw [P1, he]; rfl
  have hO : bndO E E1 A B = kbO A ++ kbO B := by
    unfold bndO
    rw [if_pos he]
    rcases hz1 with rfl | h1
    · rw [show A = [] from hA]; simp [kbO]
    · rw [if_pos (hE1.trans h1)]
  by_cases ha : A = [] <;> by_cases hb : B = []
  · have Q2 : ∀ O, k_Bounds [.agg [v, .int .i64 K], w, u] O = some (.tup [.nils, .nils, .int .i64 0], some (O ++ [.cells [v, .int .i64 K] 0] ++ [], O.length)) := fun O => by rw [P2, hO, he]; simp [bndK, kbV, kbO, ha, hb]
    simp -implicitDefEqProofs (maxSteps := 1000000) (disch := omega) [vd, wd, ud, kd, c_aliveA, aliveA, c_Bounds, Q2, c_rBounds, Q1, c_SameR, k_SameR, n0, f0, f1, c_Within, k_Within, c_rWithin, k_rWithin, kO, h8, b80, A8, B8, c_Apart, ha, hb, ints_nil, apart_nilF]
  · have Q2 : ∀ O, k_Bounds [.agg [v, .int .i64 K], w, u] O = some (.tup [.nils, .ref (O.length + 1) 0 0 B.length 1, .int .i64 0], some (O ++ [.cells [v, .int .i64 K] 0] ++ [.cells (ints .u8 B) 0], O.length)) := fun O => by rw [P2, hO, he]; simp [bndK, kbV, kbO, ha, hb]
    have H2 := apart_gen (a := B) (objs := [.cells [v, .int .i64 K] 0, .cells [v, .int .i64 K] 0, .cells (ints .u8 B) 0, .cells [v, .int .i64 K] 0, .cells (ints .u8 B) 0]) (id := 2) (ver := 0) (y := .ref 4 0 0 B.length 1) (u := .lst .frozen (ints .u8 B) B.length) rfl hb (by omega) (ofIntsR_ref rfl rfl) (f1 _ B) (ofIntsR_ref rfl rfl) (f1 _ B) (by simp [clean, nv])
    simp only [List.set_cons_succ, List.set_cons_zero] at H2
    have rb : ∀ M, ofIntsR .u8 ([.cells [v, .int .i64 K] 0, .cells [v, .int .i64 K] 0, .cells (ints .u8 B) 0] ++ M) (.ref 2 0 0 B.length 1) = some B := fun M => ofIntsR_ref rfl rfl
    simp only [List.cons_append, List.nil_append] at rb
    simp -implicitDefEqProofs (maxSteps := 1000000) (disch := omega) [vd, wd, ud, kd, c_aliveA, aliveA, c_Bounds, Q2, c_rBounds, Q1, c_SameR, k_SameR, n0, f0, f1, c_Within, k_Within, c_rWithin, k_rWithin, kO, h8, b80, A8, B8, c_Apart, ha, ints_nil, apart_nilF, H2, rb]
  · have Q2 : ∀ O, k_Bounds [.agg [v, .int .i64 K], w, u] O = some (.tup [.ref (O.length + 1) 0 0 A.length 1, .nils, .int .i64 0], some (O ++ [.cells [v, .int .i64 K] 0] ++ [.cells (ints .u8 A) 0], O.length)) := fun O => by rw [P2, hO, he]; simp [bndK, kbV, kbO, ha, hb]
    have H1 := apart_gen (a := A) (objs := [.cells [v, .int .i64 K] 0, .cells [v, .int .i64 K] 0, .cells (ints .u8 A) 0, .cells [v, .int .i64 K] 0, .cells (ints .u8 A) 0]) (id := 2) (ver := 0) (y := .ref 4 0 0 A.length 1) (u := .lst .frozen (ints .u8 A) A.length) rfl ha (by omega) (ofIntsR_ref rfl rfl) (f1 _ A) (ofIntsR_ref rfl rfl) (f1 _ A) (by simp [clean, nv])
    simp only [List.set_cons_succ, List.set_cons_zero] at H1
    have ra : ∀ M, ofIntsR .u8 ([.cells [v, .int .i64 K] 0, .cells [v, .int .i64 K] 0, .cells (ints .u8 A) 0] ++ M) (.ref 2 0 0 A.length 1) = some A := fun M => ofIntsR_ref rfl rfl
    simp only [List.cons_append, List.nil_append] at ra
    simp -implicitDefEqProofs (maxSteps := 1000000) (disch := omega) [vd, wd, ud, kd, c_aliveA, aliveA, c_Bounds, Q2, c_rBounds, Q1, c_SameR, k_SameR, n0, f0, f1, c_Within, k_Within, c_rWithin, k_rWithin, kO, h8, b80, A8, B8, c_Apart, hb, ints_nil, H1, apart_nilF, ra]
  · have Q2 : ∀ O, k_Bounds [.agg [v, .int .i64 K], w, u] O = some (.tup [.ref (O.length + 1) 0 0 A.length 1, .ref (O.length + 1 + 1) 0 0 B.length 1, .int .i64 0], some (O ++ [.cells [v, .int .i64 K] 0] ++ [.cells (ints .u8 A) 0, .cells (ints .u8 B) 0], O.length)) := fun O => by rw [P2, hO, he]; simp [bndK, kbV, kbO, ha, hb]
    have H1 := apart_gen (a := A) (objs := [.cells [v, .int .i64 K] 0, .cells [v, .int .i64 K] 0, .cells (ints .u8 A) 0, .cells (ints .u8 B) 0, .cells [v, .int .i64 K] 0, .cells (ints .u8 A) 0, .cells (ints .u8 B) 0]) (id := 2) (ver := 0) (y := .ref 5 0 0 A.length 1) (u := .lst .frozen (ints .u8 A) A.length) rfl ha (by omega) (ofIntsR_ref rfl rfl) (f1 _ A) (ofIntsR_ref rfl rfl) (f1 _ A) (by simp [clean, nv])
    simp only [List.set_cons_succ, List.set_cons_zero] at H1
    have H2 := apart_gen (a := B) (objs := [.cells [v, .int .i64 K] 0, .cells [v, .int .i64 K] 0, .cells (ints .u8 (A.map spF)) 0, .cells (ints .u8 B) 0, .cells [v, .int .i64 K] 0, .cells (ints .u8 A) 0, .cells (ints .u8 B) 0]) (id := 3) (ver := 0) (y := .ref 6 0 0 B.length 1) (u := .lst .frozen (ints .u8 B) B.length) rfl hb (by omega) (ofIntsR_ref rfl rfl) (f1 _ B) (ofIntsR_ref rfl rfl) (f1 _ B) (by simp [clean, nv])
    simp only [List.set_cons_succ, List.set_cons_zero] at H2
    have ra : ∀ M, ofIntsR .u8 ([.cells [v, .int .i64 K] 0, .cells [v, .int .i64 K] 0, .cells (ints .u8 A) 0, .cells (ints .u8 B) 0] ++ M) (.ref 2 0 0 A.length 1) = some A := fun M => ofIntsR_ref rfl rfl
    simp only [List.cons_append, List.nil_append] at ra
    have rb : ∀ M, ofIntsR .u8 ([.cells [v, .int .i64 K] 0, .cells [v, .int .i64 K] 0, .cells (ints .u8 A) 0, .cells (ints .u8 B) 0] ++ M) (.ref 3 0 0 B.length 1) = some B := fun M => ofIntsR_ref rfl rfl
    simp only [List.cons_append, List.nil_append] at rb
    simp -implicitDefEqProofs (maxSteps := 1000000) (disch := omega) [vd, wd, ud, kd, c_aliveA, aliveA, c_Bounds, Q2, c_rBounds, Q1, c_SameR, k_SameR, n0, f0, f1, c_Within, k_Within, c_rWithin, k_rWithin, kO, h8, b80, A8, B8, c_Apart, ints_nil, H1, H2, ra, rb])

end Go.Proofs.YtiaihiccaoibgaaDoor.B
set_option maxRecDepth 20000
set_option maxHeartbeats 1000000
namespace Go.Proofs.YtiaihiccaoibgaaDoor.B
open Go Go.Ab
theorem in_b8 {D M n : Nat} {v : V} (h : ShpV Tryd.prog D M n 28 v) : ∃ l, ofInts .u8 v = some l ∧ b8 l = true ∧ l.length ≤ 140737488351232 := by
  have hg : Ab.isAgg Tryd.prog 28 = false := by kernel_rfl
  exact shp_bytes (by unfold ShpV at h; rwa [if_neg (by rw [hg]; simp)] at h)
theorem walk_KeysBounds {D M n : Nat} {vs : List V} {args : Array Value} {W : World} (hS : ShpAll Tryd.prog (D + 64) M n [24, 25, 25, 28] vs) (hA : AR (top W) W vs args.toList) : Calls Tryd.prog 5 args W fun e W' => e = .returned (.bool true) ∧ Go.RowKit.Below W.heap.size W W' := by
  match vs, hS with
  | [v0, v1, v2, v3], ⟨s0, s1, s2, s3, _⟩ =>
    obtain ⟨cols, K, c1, c2, -⟩ := in_schema s0
    obtain ⟨row, r1, r2, -⟩ := in_row s1
    obtain ⟨row2, q1, q2, -⟩ := in_row s2
    obtain ⟨key, k1, k2, k3⟩ := in_b8 s3
    refine whole fit T_KeysBounds_ok (fn := Tryd.f5) (by kernel_rfl) (by kernel_rfl) ?_ hA
    show k_KeysBounds [v0, v1, v2, v3] [] = _
    simp (disch := omega) [k_KeysBounds, c1, r1, q1, k1, k2]

end Go.Proofs.YtiaihiccaoibgaaDoor.B
