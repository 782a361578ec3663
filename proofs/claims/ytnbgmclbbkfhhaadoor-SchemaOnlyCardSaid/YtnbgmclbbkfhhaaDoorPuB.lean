import Derived.Test.YtnbgmclbbkfhhaaDoorPuA
set_option linter.unusedSimpArgs false
set_option linter.unusedVariables false
set_option linter.unusedSectionVars false
set_option maxRecDepth 20000
set_option maxHeartbeats 1000000
namespace Go.Proofs.YtnbgmclbbkfhhaaDoor.B
open Go Go.Ab
theorem apart_frozen {a : List Int} {objs : List AO} {id ver : Nat} (hg : Ab.getObj objs id ver = some (ints .u8 a)) (h0 : 0 < a.length) (hl : a.length < 140737488354000) (hcl : clean objs.length (objs.set id (.cells (ints .u8 (a.map spF)) ver)) = true) :
    k_Apart [.ref id ver 0 a.length 1, .lst .frozen (ints .u8 a) a.length, .lst .frozen (ints .u8 a) a.length] objs = some (.bool true, some (objs.set id (.cells (ints .u8 (a.map spF)) ver), id)) := by
  have h1 : ∀ O : List AO, ofIntsR .u8 O (.lst .frozen (ints .u8 a) a.length) = some a := fun O => ofIntsR_of (ofInts_lst rfl)
  have hz : ¬ a.length = 0 := by omega
  have hz2 : ¬ a = [] := fun q => hz (by rw [q]; rfl)
  simp [k_Apart, con3, hg, ofCellsI_ints, hl, h1, hcl, hz2, bnd_pos]
theorem apart_nils (objs : List AO) : k_Apart [.nils, .nils, .nils] objs = some (.bool true, none) := by
  have h1 : ofIntsR .u8 objs V.nils = some [] := rfl
  simp [k_Apart, con3, h1]
theorem cput_tw {objs O : List AO} (c : Co) {x : Ce} (h : ceOk objs x = true) : cputC O c (tw objs x) = cputC objs c x := by unfold cputC; rw [(tw_ok h).2]; rfl
theorem rowZ_tw {objs O : List AO} {cols : List Co} {row : List Ce} (h : ∀ x ∈ row, ceOk objs x = true) {n : Nat} (hn : n ≤ row.length) : catZ (rowZ O cols (row.map (tw objs))) n = catZ (rowZ objs cols row) n := catZ_congr fun i hi => by
  show cputC O _ (nth (row.map (tw objs)) i) = _
  rw [nth_map (by omega)]
  exact cput_tw _ (h _ (nth_mem (by omega)))
theorem rowZ_old {objs O : List AO} {cols : List Co} {row : List Ce} (h : ∀ i, i < row.length → ceOk objs (nth row i) = true) (ho : Old objs O) {n : Nat} (hn : n ≤ row.length) : catZ (rowZ O cols row) n = catZ (rowZ objs cols row) n := catZ_congr fun i hi => cput_old (h i (by omega)) ho
theorem setsZ_tw {objs O : List AO} {cols : List Co} {l : List Se} (h : ∀ x ∈ l, seOk objs x = true) {n : Nat} (hn : n ≤ l.length) : setsZ O cols (l.map (twS objs)) n = setsZ objs cols l n := by
  unfold setsZ
  rw [List.length_map, catZ_congr fun i hi => ?_]
  unfold setZ
  rw [nth_map (by omega)]
  show _ ++ cputC O _ (tw objs _) = _
  rw [cput_tw _ (seOk_inv (h _ (nth_mem (by omega)))).2]; rfl
theorem setsZ_old {objs O : List AO} {cols : List Co} {l : List Se} (h : ∀ i, i < l.length → seOk objs (nth l i) = true) (ho : Old objs O) {n : Nat} (hn : n ≤ l.length) : setsZ O cols l n = setsZ objs cols l n := by
  unfold setsZ
  rw [catZ_congr fun i hi => ?_]
  unfold setZ
  rw [cput_old (seOk_inv (h i (by omega))).2 ho]
theorem sch_clean {s : V} {cols : List Co} {K : Int} {v : V} (h : recR coD 3 [] v = some cols) (b : Nat) : Ab.noref b v = true := (colsV h).noref (Nat.zero_le _) (norefs_iff.2 fun u hu => by
  obtain ⟨x, -, h⟩ := List.mem_flatMap.1 hu
  simp only [coV, List.mem_cons, List.not_mem_nil, or_false] at h
  rcases h with rfl | rfl | rfl <;> rfl)
noncomputable def k_SchemaPuts : Ab.Spec := con3 some some some fun s w u objs => match objs with
  | [] => match schD [] s, rowR [] w, setsR [] u with
    | some _, some row, some sets => bnd (row.length * 40) 140737488355328 (bnd (sets.length * 48) 140737488355328 (some (.bool true, none)))
    | _, _, _ => none
  | _ => none
noncomputable def T_SchemaPuts : CallF := withF T_rPutSets 5 k_SchemaPuts
theorem T_SchemaPuts_ok : CallOk Tryd.prog T_SchemaPuts := con_of (A := annOf [] [] [(36, [.ref]),(54, [.ref])] false [38]) fit T_rPutSets_ok (fn := Tryd.f5) (by kernel_rfl) (by kernel_rfl) (by
  intro args objs r h0
  have c_aliveA : ∀ a o, T_rPutSets 9 a o = k_aliveA a o := fun _ _ => rfl
  have c_TwinRow : ∀ a o, T_rPutSets 24 a o = k_TwinRow a o := fun _ _ => rfl
  have c_TwinSets : ∀ a o, T_rPutSets 25 a o = k_TwinSets a o := fun _ _ => rfl
  have c_rPutRow : ∀ a o, T_rPutSets 34 a o = k_rPutRow a o := fun _ _ => rfl
  have c_PutRow : ∀ a o, T_rPutSets 35 a o = k_PutRow a o := fun _ _ => rfl
  have c_rPutSets : ∀ a o, T_rPutSets 36 a o = k_rPutSets a o := fun _ _ => rfl
  have c_PutSets : ∀ a o, T_rPutSets 37 a o = k_PutSets a o := fun _ _ => rfl
  have c_Apart : ∀ a o, T_rPutSets 38 a o = k_Apart a o := fun _ _ => rfl
  have c_AlikeRow : ∀ a o, T_rPutSets 28 a o = k_AlikeRow a o := fun _ _ => rfl
  have c_AlikeSets : ∀ a o, T_rPutSets 31 a o = k_AlikeSets a o := fun _ _ => rfl
  obtain ⟨s, w, u, _, _, _, rfl, hs, hw, hu, hR⟩ := con3_inv h0
  cases hs; cases hw; cases hu
  split at hR
  case h_2 => cases hR
  split at hR
  case h_2 => cases hR
  rename_i p row sets hsc hr hu
  obtain ⟨cols, K⟩ := p
  obtain ⟨l1, hR⟩ := bnd_inv hR
  obtain ⟨l2, hR⟩ := bnd_inv hR
  cases hR
  obtain ⟨v, rfl, hc, hl, hsh⟩ := schD_inv hsc
  have vd := (colsV hc).dem
  have wd := (rowF hr).2.1
  have ud := (setsF hu).2.1
  have rk := (rowR_inv hr).2
  have uk := (setsR_inv hu).2
  have rk' := (rowF hr).2.2.2.2
  have uk' := (setsF hu).2.2.2.2
  have S1 := fun O => schD_old hsc (old_nil O)
  have R1 := fun O => rowR_old hr (old_nil O)
  have U1 := fun O => setsR_old hu (old_nil O)
  have nv := fun b => sch_clean (s := v) (K := K) hc b
  obtain ⟨Rv, hRv⟩ : ∃ Rv, Rv = V.lst .frozen (flatV ceV (row.map (tw []))) row.length := ⟨_, rfl⟩
  obtain ⟨N, hN⟩ : ∃ N, N = V.lst .frozen (flatV seV (sets.map (twS []))) sets.length := ⟨_, rfl⟩
  have R2 : ∀ O, rowR O Rv = some (row.map (tw [])) := fun O => by rw [hRv]; exact tw_row rk
  have U2 : ∀ O, setsR O N = some (sets.map (twS [])) := fun O => by rw [hN]; exact twS_row uk
  have M1 : ∀ O, row.map (Ce.t O) = row.map (Ce.t []) := fun O => List.map_congr_left fun x hx => Ce.t_old (rk x hx) (old_nil O)
  have M2 : ∀ O, sets.map (Se.t O) = sets.map (Se.t []) := fun O => List.map_congr_left fun x hx => by unfold Se.t; rw [Ce.t_old (seOk_inv (uk x hx)).2 (old_nil O)]
  have M3 := fun O => tm_tw (O := O) rk
  have M4 := fun O => tm_twS (O := O) uk
  have T1 : ∀ O, k_TwinRow [w] O = some (.lst (.fresh 3 true) (flatV ceV (row.map (tw []))) row.length, none) := fun O => by simp (disch := omega) [k_TwinRow, R1 O, twm_of rk (old_nil O)]
  have T2 : ∀ O, k_TwinSets [u] O = some (.lst (.fresh 4 false) (flatV seV (sets.map (twS []))) sets.length, none) := fun O => by simp (disch := omega) [k_TwinSets, U1 O, twSm_of uk (old_nil O)]
  have A1 : ∀ O, k_AlikeRow [Rv, w] O = some (.bool true, none) := fun O => by simp (disch := omega) [k_AlikeRow, R1 O, R2 O, M1 O, M3 O]
  have A2 : ∀ O, k_AlikeSets [N, u] O = some (.bool true, none) := fun O => by simp (disch := omega) [k_AlikeSets, U1 O, U2 O, M2 O, M4 O]
  have Md : demote Rv = Rv := by rw [hRv]; rfl
  have Nd : demote N = N := by rw [hN]; rfl
  obtain ⟨E, hE⟩ : ∃ E, E = rowE [] cols K row := ⟨_, rfl⟩
  obtain ⟨F, hF⟩ : ∃ F, F = setsE [] cols K sets := ⟨_, rfl⟩
  obtain ⟨A, hA⟩ : ∃ A, A = catZ (rowZ [] cols row) row.length := ⟨_, rfl⟩
  obtain ⟨B, hB⟩ : ∃ B, B = setsZ [] cols sets sets.length := ⟨_, rfl⟩
  have P1 : ∀ O, k_rPutRow [.agg [v, .int .i64 K], w] O = some (cputV E .frozen A, none) := fun O => by simp [k_rPutRow, S1 O, R1 O, rowE_old rk' (old_nil O), rowZ_old rk' (old_nil O) (Nat.le_refl _), ← hE, ← hA]
  have P2 : ∀ O, k_PutRow [.agg [v, .int .i64 K], Rv] O = some (cputV E (.fresh 1 true) A, none) := fun O => by simp [k_PutRow, S1 O, R2 O, rowE_tw rk, rowZ_tw rk (Nat.le_refl _), ← hE, ← hA]
  have P3 : ∀ O, k_rPutSets [.agg [v, .int .i64 K], u] O = some (cputV F .frozen B, none) := fun O => by simp (disch := omega) [k_rPutSets, S1 O, U1 O, setsE_old uk' (old_nil O), setsZ_old uk' (old_nil O) (Nat.le_refl _), ← hF, ← hB]
  have P4 : ∀ O, k_PutSets [.agg [v, .int .i64 K], N] O = some (cputV F (.fresh 1 true) B, none) := fun O => by simp (disch := omega) [k_PutSets, S1 O, U2 O, setsE_tw uk, setsZ_tw uk (Nat.le_refl _), ← hF, ← hB]
  have hAl : E = 0 → 0 < A.length ∧ A.length ≤ 12 * 211 := fun he => by
    rw [he] at hE
    obtain ⟨hg, hlen, hch⟩ := row_len hE.symm
    obtain ⟨p1, p2, p3, p4, p5⟩ := chk_pos hg
    have hfl : ∀ i, i < row.length → 1 ≤ (rowZ [] cols row i).length ∧ (rowZ [] cols row i).length ≤ 211 := fun i hi => cput_len (hch i hi) (ceOk_inv (rk' i hi)).1
    have h1 := catZ_le (f := rowZ [] cols row) (m := 211) (n := row.length) fun i hi => (hfl i hi).2
    rw [hA]
    refine ⟨?_, by omega⟩
    obtain ⟨m, hm⟩ : ∃ m, row.length = m + 1 := ⟨row.length - 1, by omega⟩
    rw [hm, catZ_succ, List.length_append]
    have := (hfl m (by omega)).1
    omega
  have hBl : F = 0 → 0 < B.length ∧ B.length ≤ 10 + 12 * 221 := fun he => by
    rw [he] at hF
    obtain ⟨hg, hpos, h12, hch⟩ := sets_len hF.symm
    obtain ⟨p1, p2, p3, p4, p5⟩ := chk_pos hg
    have hp0 := M.putL_len10 (u := sets.length) (by omega)
    have hp1 := M.putL_pos sets.length
    have := catZ_le (f := setZ [] cols sets) (m := 221) (n := sets.length) fun j hj => by
      obtain ⟨c0, c1, -, c3⟩ := hch j hj
      have h1 := cput_len c3 (ceOk_inv (seOk_inv (uk' j hj)).2).1
      have h2 := M.putL_len10 (u := (nth sets j).c.toNat) (by omega)
      unfold setZ
      rw [List.length_append]
      unfold cputC
      omega
    rw [hB]
    unfold setsZ
    rw [List.length_append]
    omega
  refine .go _ rfl rfl ?_
  by_cases he : E = 0
  · obtain ⟨q1, q2⟩ := hAl he
    have P1' : ∀ O, k_rPutRow [.agg [v, .int .i64 K], w] O = some (.tup [.lst .frozen (ints .u8 A) A.length, .int .i64 0], none) := fun O => by rw [P1, he]; rfl
    have P2' : ∀ O, k_PutRow [.agg [v, .int .i64 K], Rv] O = some (.tup [.lst (.fresh 1 true) (ints .u8 A) A.length, .int .i64 0], none) := fun O => by rw [P2, he]; rfl
    by_cases hf : F = 0
    · obtain ⟨q3, q4⟩ := hBl hf
      have P3' : ∀ O, k_rPutSets [.agg [v, .int .i64 K], u] O = some (.tup [.lst .frozen (ints .u8 B) B.length, .int .i64 0], none) := fun O => by rw [P3, hf]; rfl
      have P4' : ∀ O, k_PutSets [.agg [v, .int .i64 K], N] O = some (.tup [.lst (.fresh 1 true) (ints .u8 B) B.length, .int .i64 0], none) := fun O => by rw [P4, hf]; rfl
      have H1 := apart_frozen (a := A) (objs := [.cells [v, .int .i64 K] 0, .cells (ints .u8 A) 0, .cells (ints .u8 B) 0]) (id := 1) (ver := 0) rfl q1 (by omega) (by simp [clean, nv])
      have H2 := apart_frozen (a := B) (objs := [.cells [v, .int .i64 K] 0, .cells (ints .u8 (A.map spF)) 0, .cells (ints .u8 B) 0]) (id := 2) (ver := 0) rfl q3 (by omega) (by simp [clean, nv])
      simp only [List.set_cons_succ, List.set_cons_zero] at H1 H2
      simp -implicitDefEqProofs (maxSteps := 1000000) (disch := omega) [vd, wd, ud, c_aliveA, aliveA, c_TwinRow, T1, c_TwinSets, T2, ← hRv, ← hN, Md, Nd, c_rPutRow, P1', c_PutRow, P2', c_rPutSets, P3', c_PutSets, P4', c_Apart, H1, H2, c_AlikeRow, A1, c_AlikeSets, A2]
    · have P3' : ∀ O, k_rPutSets [.agg [v, .int .i64 K], u] O = some (.tup [.nils, .int .i64 F], none) := fun O => by rw [P3]; unfold cputV; rw [if_neg hf]
      have P4' : ∀ O, k_PutSets [.agg [v, .int .i64 K], N] O = some (.tup [.nils, .int .i64 F], none) := fun O => by rw [P4]; unfold cputV; rw [if_neg hf]
      have H1 := apart_frozen (a := A) (objs := [.cells [v, .int .i64 K] 0, .cells (ints .u8 A) 0]) (id := 1) (ver := 0) rfl q1 (by omega) (by simp [clean, nv])
      simp only [List.set_cons_succ, List.set_cons_zero] at H1
      simp -implicitDefEqProofs (maxSteps := 1000000) (disch := omega) [vd, wd, ud, c_aliveA, aliveA, c_TwinRow, T1, c_TwinSets, T2, ← hRv, ← hN, Md, Nd, c_rPutRow, P1', c_PutRow, P2', c_rPutSets, P3', c_PutSets, P4', c_Apart, H1, apart_nils, c_AlikeRow, A1, c_AlikeSets, A2]
  · have P1' : ∀ O, k_rPutRow [.agg [v, .int .i64 K], w] O = some (.tup [.nils, .int .i64 E], none) := fun O => by rw [P1]; unfold cputV; rw [if_neg he]
    have P2' : ∀ O, k_PutRow [.agg [v, .int .i64 K], Rv] O = some (.tup [.nils, .int .i64 E], none) := fun O => by rw [P2]; unfold cputV; rw [if_neg he]
    by_cases hf : F = 0
    · obtain ⟨q3, q4⟩ := hBl hf
      have P3' : ∀ O, k_rPutSets [.agg [v, .int .i64 K], u] O = some (.tup [.lst .frozen (ints .u8 B) B.length, .int .i64 0], none) := fun O => by rw [P3, hf]; rfl
      have P4' : ∀ O, k_PutSets [.agg [v, .int .i64 K], N] O = some (.tup [.lst (.fresh 1 true) (ints .u8 B) B.length, .int .i64 0], none) := fun O => by rw [P4, hf]; rfl
      have H2 := apart_frozen (a := B) (objs := [.cells [v, .int .i64 K] 0, .cells (ints .u8 B) 0]) (id := 1) (ver := 0) rfl q3 (by omega) (by simp [clean, nv])
      simp only [List.set_cons_succ, List.set_cons_zero] at H2
      simp -implicitDefEqProofs (maxSteps := 1000000) (disch := omega) [vd, wd, ud, c_aliveA, aliveA, c_TwinRow, T1, c_TwinSets, T2, ← hRv, ← hN, Md, Nd, c_rPutRow, P1', c_PutRow, P2', c_rPutSets, P3', c_PutSets, P4', c_Apart, H2, apart_nils, c_AlikeRow, A1, c_AlikeSets, A2]
    · have P3' : ∀ O, k_rPutSets [.agg [v, .int .i64 K], u] O = some (.tup [.nils, .int .i64 F], none) := fun O => by rw [P3]; unfold cputV; rw [if_neg hf]
      have P4' : ∀ O, k_PutSets [.agg [v, .int .i64 K], N] O = some (.tup [.nils, .int .i64 F], none) := fun O => by rw [P4]; unfold cputV; rw [if_neg hf]
      simp -implicitDefEqProofs (maxSteps := 1000000) (disch := omega) [vd, wd, ud, c_aliveA, aliveA, c_TwinRow, T1, c_TwinSets, T2, ← hRv, ← hN, Md, Nd, c_rPutRow, P1', c_PutRow, P2', c_rPutSets, P3', c_PutSets, P4', c_Apart, apart_nils, c_AlikeRow, A1, c_AlikeSets, A2])

end Go.Proofs.YtnbgmclbbkfhhaaDoor.B
set_option maxRecDepth 20000
set_option maxHeartbeats 1000000
namespace Go.Proofs.YtnbgmclbbkfhhaaDoor.B
open Go Go.Ab
theorem walk_SchemaPuts {D M n : Nat} {vs : List V} {args : Array Value} {W : World} (hS : ShpAll Tryd.prog (D + 64) M n [24, 25, 26] vs) (hA : AR (top W) W vs args.toList) : Calls Tryd.prog 5 args W fun e W' => e = .returned (.bool true) ∧ Go.RowKit.Below W.heap.size W W' := by
  match vs, hS with
  | [v0, v1, v2], ⟨s0, s1, s2, _⟩ =>
    obtain ⟨cols, K, c1, c2, -⟩ := in_schema s0
    obtain ⟨row, r1, r2, -⟩ := in_row s1
    obtain ⟨sets, t1, t2, -⟩ := in_set s2
    refine whole fit T_SchemaPuts_ok (fn := Tryd.f5) (by kernel_rfl) (by kernel_rfl) ?_ hA
    show k_SchemaPuts [v0, v1, v2] [] = _
    simp (disch := omega) [k_SchemaPuts, c1, r1, t1]

end Go.Proofs.YtnbgmclbbkfhhaaDoor.B
