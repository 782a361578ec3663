import Derived.Test.YtiaihiccaoibgaaDoorKyC
set_option linter.unusedSimpArgs false
set_option linter.unusedVariables false
set_option linter.unusedSectionVars false
set_option maxRecDepth 20000
set_option maxHeartbeats 1000000
namespace Go.Proofs.YtiaihiccaoibgaaDoor.B
open Go Go.Ab
theorem chk_col {cols : List Co} {K : Int} (h : chkR cols K = 0) {i : Nat} (hi : (i : Int) < K) (hl : i < cols.length) : (nth cols i).n = false := by
  have hs : schemaOk cols K = true := by
    unfold chkR at h; split at h
    · assumption
    · cases h
  unfold schemaOk at hs
  rw [Bool.and_eq_true, List.all_eq_true] at hs
  have := hs.2 i (List.mem_range.2 hl)
  unfold colOk at this
  simp only [Bool.and_eq_true, Bool.not_eq_true', Bool.and_eq_false_iff, decide_eq_false_iff_not] at this
  exact this.1.2.resolve_left fun q => q hi
/-- A whole key. -/
theorem key_enc {objs : List AO} {cols : List Co} {K : Int} {row : List Ce} (h : keyE objs cols K row = 0) : chkR cols K = 0 ∧ (row.length : Int) = K ∧ encE objs cols K row = 0 := by
  unfold keyE at h
  split at h
  case isFalse => rename_i q; exact absurd h q
  rename_i hg
  obtain ⟨p1, p2, p3, p4, p5⟩ := chk_pos hg
  unfold cellsN at h
  split at h
  case isFalse => cases h
  rename_i hn
  have hK : (row.length : Int) = K := by omega
  refine ⟨hg, hK, ?_⟩
  unfold encE
  rw [if_pos hg, if_pos ⟨by omega, by omega⟩]
  refine firstE_none fun j _ hj => ?_
  have h2 := firstE_zero h j (Nat.zero_le _) (by omega)
  have hc := chk_col hg (i := j) (by omega) (by omega)
  have h3 : checkR (nth cols j).k (nth cols j).n (nth row j).n (nth row j).i ((nth row j).b objs) = 0 := h2
  rw [hc] at h3
  exact h3
theorem enc_take {objs : List AO} {cols : List Co} {K : Int} {row : List Ce} (h : encE objs cols K row = 0) {n : Nat} (h1 : 1 ≤ n) (hn : n ≤ row.length) : encE objs cols K (row.take n) = 0 ∧ encZ objs cols (row.take n) = catZ (encF objs cols row) n := by
  obtain ⟨hg, e1, e2, hc⟩ := encE_zero h
  have hl : (row.take n).length = n := by rw [List.length_take]; omega
  refine ⟨?_, ?_⟩
  · unfold encE
    rw [if_pos hg, hl, if_pos ⟨h1, by omega⟩]
    refine firstE_none fun j _ hj => ?_
    show chkK objs (nth cols j) (nth (row.take n) j) = 0
    rw [nth_take (by omega)]
    exact hc j (by omega)
  · unfold encZ
    rw [hl]
    refine catZ_congr fun i hi => ?_
    show kcell objs _ (nth (row.take n) i) = _
    rw [nth_take hi]; rfl
theorem catZ_pre (f : Nat → List Int) (n : Nat) : ∀ (m : Nat), ∃ t, catZ f (n + m) = catZ f n ++ t
  | 0 => ⟨[], by simp⟩
  | m + 1 => by
    obtain ⟨t, ht⟩ := catZ_pre f n m
    exact ⟨t ++ f (n + m), by rw [← Nat.add_assoc, catZ_succ, ht, List.append_assoc]⟩
theorem cmpZ_eq : ∀ {a b : List Int}, cmpZ a b = 0 → a = b
  | [], [], _ => rfl
  | [], _ :: _, h => by cases h
  | _ :: _, [], h => by cases h
  | x :: a, y :: b, h => by
    rw [cmpZ_cons] at h
    split at h
    · cases h
    split at h
    · cases h
    rw [cmpZ_eq h]; congr 1; omega
theorem rank_put {objs : List AO} {c : Co} {x y : Ce} (h1 : chkK objs c x = 0) (h2 : chkK objs c y = 0) (hr : rankC objs x y = 0) : kcell objs c x = kcell objs c y := by
  obtain ⟨n1, -⟩ := chk_key h1
  obtain ⟨n2, -⟩ := chk_key h2
  have h : rankZ x.n x.i (x.b objs) y.n y.i (y.b objs) = 0 := hr
  rw [n1, n2] at h
  unfold rankZ at h
  rw [if_neg (by simp)] at h
  split at h
  · cases h
  split at h
  · cases h
  have := cmpZ_eq h
  unfold kcell
  rw [this, show x.i = y.i by omega]
/-- The first cells' bytes begin just the keys with the same first cells. -/
theorem enc_begins {objs : List AO} {cols : List Co} {K : Int} {a b : List Ce} (ha : encE objs cols K a = 0) (hb : encE objs cols K b = 0) (h1 : ∀ i, i < a.length → ceOk objs (nth a i) = true) (h2 : ∀ i, i < b.length → ceOk objs (nth b i) = true) {n : Nat} (hn : n ≤ a.length) (hm : n ≤ b.length) :
    (∃ t, encZ objs cols b = catZ (encF objs cols a) n ++ t) ↔ rankR objs a b n = 0 := by
  obtain ⟨-, -, -, c1⟩ := encE_zero ha
  obtain ⟨-, -, -, c2⟩ := encE_zero hb
  have hR : rankR objs a b n = firstE (fun i => rankC objs (nth a i) (nth b i)) n 0 := by unfold rankR; rw [show min n (min a.length b.length) = n by omega]
  obtain ⟨r, hr⟩ := catZ_pre (encF objs cols b) n (b.length - n)
  rw [show n + (b.length - n) = b.length by omega] at hr
  have h := fun s t => enc_cmp (objs := objs) (cols := cols) (a := a) (b := b) n (fun i hi => ⟨c1 i (by omega), h1 i (by omega)⟩) (fun i hi => ⟨c2 i (by omega), h2 i (by omega)⟩) s t
  rw [hR]
  constructor
  · rintro ⟨t, ht⟩
    have h3 := h t r
    rw [← hr, ← ht] at h3
    rw [show encZ objs cols b = catZ (encF objs cols b) b.length from rfl, cmpZ_self] at h3
    refine Classical.byContradiction fun q => ?_
    unfold zif at h3
    rw [if_neg q] at h3
    exact q h3.symm
  · intro h0
    refine ⟨r, ?_⟩
    have e : catZ (encF objs cols a) n = catZ (encF objs cols b) n := catZ_congr fun i hi => rank_put (c1 i (by omega)) (c2 i (by omega)) (firstE_zero h0 i (Nat.zero_le _) (by omega))
    rw [e, ← hr]; rfl

end Go.Proofs.YtiaihiccaoibgaaDoor.B
set_option maxRecDepth 20000
set_option maxHeartbeats 1000000
namespace Go.Proofs.YtiaihiccaoibgaaDoor.B
open Go Go.Ab
theorem piece_pre {a t : List Int} : pieceZ (a ++ t) 0 (a.length : Int) = a := by
  unfold pieceZ
  rw [Int.toNat_natCast, List.take_left]; rfl
noncomputable def k_KeysFirst : Ab.Spec := con4 some some some (ofInt .i64) fun s w u n objs => match objs with
  | [] => match schD [] s, rowR [] w, rowR [] u with
    | some _, some a, some b => bnd a.length 140737488355328 (bnd b.length 140737488355328 (some (.bool true, none)))
    | _, _, _ => none
  | _ => none
noncomputable def T_KeysFirst : CallF := withF T_KeysOrder 9 k_KeysFirst
theorem T_KeysFirst_ok : CallOk Tryd.prog T_KeysFirst := con_of (A := annOf [] [] [] false []) fit T_KeysOrder_ok (fn := Tryd.f9) (by kernel_rfl) (by kernel_rfl) (by
  intro args objs r h0
  have c_aliveA : ∀ a o, T_KeysOrder 10 a o = k_aliveA a o := fun _ _ => rfl
  have c_Enc : ∀ a o, T_KeysOrder 13 a o = k_Enc a o := fun _ _ => rfl
  have c_rKey : ∀ a o, T_KeysOrder 29 a o = k_rKey a o := fun _ _ => rfl
  have c_RankR : ∀ a o, T_KeysOrder 32 a o = k_RankR a o := fun _ _ => rfl
  have c_SameR : ∀ a o, T_KeysOrder 26 a o = k_SameR a o := fun _ _ => rfl
  have c_Piece : ∀ a o, T_KeysOrder 33 a o = k_Piece a o := fun _ _ => rfl
  obtain ⟨s, w, u, _, _, _, _, n, rfl, hs, hw, hu, hn, hR⟩ := con4_inv h0
  cases hs; cases hw; cases hu
  obtain rfl := ofInt_inv hn
  split at hR
  case h_2 => cases hR
  split at hR
  case h_2 => cases hR
  rename_i p a b hsc hr1 hr2
  obtain ⟨cols, K⟩ := p
  obtain ⟨l1, hR⟩ := bnd_inv hR
  obtain ⟨l2, hR⟩ := bnd_inv hR
  cases hR
  obtain ⟨v, rfl, hc, hl, hsh⟩ := schD_inv hsc
  have vd := (colsV hc).dem
  obtain ⟨hw, wd, wn, -, rk1⟩ := rowF hr1
  obtain ⟨-, ud, un, -, rk2⟩ := rowF hr2
  obtain ⟨E1, hE1⟩ : ∃ E, E = keyE [] cols K a := ⟨_, rfl⟩
  obtain ⟨E2, hE2⟩ : ∃ E, E = keyE [] cols K b := ⟨_, rfl⟩
  have Q1 : ∀ O, k_rKey [.agg [v, .int .i64 K], w] O = some (.int .i64 E1, none) := fun O => by
    have ho := old_nil O
    simp [k_rKey, schD_old hsc ho, rowR_old hr1 ho, keyE_old rk1 ho, ← hE1]
  have Q2 : ∀ O, k_rKey [.agg [v, .int .i64 K], u] O = some (.int .i64 E2, none) := fun O => by
    have ho := old_nil O
    simp [k_rKey, schD_old hsc ho, rowR_old hr2 ho, keyE_old rk2 ho, ← hE2]
  refine .go _ rfl rfl ?_
  by_cases e1 : E1 = 0
  case neg =>
    have e1' : (E1 != 0) = true := by simpa using e1
    simp -implicitDefEqProofs (maxSteps := 1000000) (disch := omega) [vd, wd, ud, c_aliveA, aliveA, c_rKey, Q1, Q2, e1, e1']
  by_cases e2 : E2 = 0
  case neg =>
    have e2' : (E2 != 0) = true := by simpa using e2
    simp -implicitDefEqProofs (maxSteps := 1000000) (disch := omega) [vd, wd, ud, c_aliveA, aliveA, c_rKey, Q1, Q2, e1, e2, e2']
  by_cases n1 : n < 1
  · simp -implicitDefEqProofs (maxSteps := 1000000) (disch := omega) [vd, wd, ud, c_aliveA, aliveA, c_rKey, Q1, Q2, e1, e2, n1]
  by_cases n2 : (a.length : Int) < n
  · simp -implicitDefEqProofs (maxSteps := 1000000) (disch := omega) [vd, wd, ud, wn, c_aliveA, aliveA, c_rKey, Q1, Q2, e1, e2, n1, n2]
  obtain ⟨N, rfl⟩ := Int.eq_ofNat_of_zero_le (show 0 ≤ n by omega)
  obtain ⟨g1, K1, x1⟩ := key_enc (hE1.symm.trans e1)
  obtain ⟨-, K2, x2⟩ := key_enc (hE2.symm.trans e2)
  obtain ⟨x3, z3⟩ := enc_take x1 (n := N) (by omega) (by omega)
  obtain ⟨A, hA⟩ : ∃ A, A = catZ (encF [] cols a) N := ⟨_, rfl⟩
  obtain ⟨B, hB⟩ : ∃ B, B = encZ [] cols a := ⟨_, rfl⟩
  obtain ⟨C, hC⟩ : ∃ C, C = encZ [] cols b := ⟨_, rfl⟩
  obtain ⟨w', cw, hw'⟩ := hw.cut (P := Tryd.prog) u25 z63 none (some (.int .i64 (N : Int))) 0 N rfl (by simp [boundV]) (by omega) (by omega)
  have ef : ((flatV ceV a).take (N * 3)).drop (0 * 3) = flatV ceV (a.take N) := by rw [Nat.zero_mul, List.drop_zero, flatV_take ceV_len]
  have el : N - 0 = (a.take N).length := by rw [List.length_take]; omega
  rw [ef, el] at hw'
  have wd' := hw'.dem
  have hr3 : rowR [] w' = some (a.take N) := rowR_of hw' fun x hx => (rowR_inv hr1).2 x (List.mem_of_mem_take hx)
  have rk3 := (rowF hr3).2.2.2.2
  have P1 : ∀ O, k_Enc [.agg [v, .int .i64 K], w'] O = some (.tup [.lst (.fresh 1 true) (ints .u8 A) A.length, .int .i64 0], none) := fun O => by
    have ho := old_nil O
    simp [k_Enc, schD_old hsc ho, rowR_old hr3 ho, encE_old rk3 ho, encZ_old rk3 ho, x3, z3, ← hA, cputV]
  have P2 : ∀ O, k_Enc [.agg [v, .int .i64 K], w] O = some (.tup [.lst (.fresh 1 true) (ints .u8 B) B.length, .int .i64 0], none) := fun O => by
    have ho := old_nil O
    simp [k_Enc, schD_old hsc ho, rowR_old hr1 ho, encE_old rk1 ho, encZ_old rk1 ho, x1, ← hB, cputV]
  have P3 : ∀ O, k_Enc [.agg [v, .int .i64 K], u] O = some (.tup [.lst (.fresh 1 true) (ints .u8 C) C.length, .int .i64 0], none) := fun O => by
    have ho := old_nil O
    simp [k_Enc, schD_old hsc ho, rowR_old hr2 ho, encE_old rk2 ho, encZ_old rk2 ho, x2, ← hC, cputV]
  have lA := (encZ_len x3).2
  rw [z3, ← hA] at lA
  have lB := (encZ_len x1).2
  rw [← hB] at lB
  have lC := (encZ_len x2).2
  rw [← hC] at lC
  obtain ⟨X, hX⟩ : ∃ X, X = rankR [] a b N := ⟨_, rfl⟩
  have R1 : ∀ O, k_RankR [w, u, .int .i64 N] O = some (.int .i64 X, none) := fun O => by
    have ho := old_nil O
    simp (disch := omega) [k_RankR, rowR_old hr1 ho, rowR_old hr2 ho, rankR_old rk1 rk2 ho, ← hX]
  have hbeg := enc_begins x1 x2 rk1 rk2 (n := N) (by omega) (by omega)
  rw [← hA, ← hC, ← hX] at hbeg
  obtain ⟨t, ht⟩ : ∃ t, B = A ++ t := by
    obtain ⟨t, ht⟩ := catZ_pre (encF [] cols a) N (a.length - N)
    rw [show N + (a.length - N) = a.length by omega] at ht
    exact ⟨t, by rw [hB, hA]; exact ht⟩
  have hAB : A.length ≤ B.length := by rw [ht]; simp
  have hp1 : pieceZ B 0 (A.length : Int) = A := by rw [ht]; exact piece_pre
  have f0 : ∀ x : List Int, ofInts .u8 (.lst .frozen (ints .u8 x) x.length) = some x := fun x => ofInts_lst rfl
  have f1 : ∀ (O : List AO) (x : List Int), ofIntsR .u8 O (.lst .frozen (ints .u8 x) x.length) = some x := fun O x => ofIntsR_of (ofInts_lst rfl)
  obtain ⟨D, hD⟩ : ∃ D, D = pieceZ C 0 (A.length : Int) := ⟨_, rfl⟩
  by_cases hX0 : X = 0
  · obtain ⟨t2, ht2⟩ := hbeg.2 hX0
    have hAC : A.length ≤ C.length := by rw [ht2]; simp
    have hDA : D = A := by rw [hD, ht2]; exact piece_pre
    rw [hDA] at hD
    simp -implicitDefEqProofs (maxSteps := 1000000) (disch := omega) [vd, wd, ud, wn, c_aliveA, aliveA, c_rKey, Q1, Q2, e1, e2, n1, n2, cw, wd', c_Enc, P1, P2, P3, hAB, hAC, c_Piece, k_Piece, f0, hp1, ← hD, c_SameR, k_SameR, f1, c_RankR, R1, hX0]
  · have hX1 : (X == 0) = false := by simpa using hX0
    by_cases hAC : A.length ≤ C.length
    · have hDA : ¬ A = D := fun q => hX0 (hbeg.1 ⟨C.drop A.length, by
        have e : C.take A.length = A := by
          rw [hD] at q
          unfold pieceZ at q
          rw [Int.toNat_natCast] at q
          exact q.symm
        rw [← e, List.length_take, Nat.min_eq_left hAC, List.take_append_drop]⟩)
      have lD : D.length ≤ 1206 := by rw [hD, pieceZ_len]; omega
      simp -implicitDefEqProofs (maxSteps := 1000000) (disch := omega) [vd, wd, ud, wn, c_aliveA, aliveA, c_rKey, Q1, Q2, e1, e2, n1, n2, cw, wd', c_Enc, P1, P2, P3, hAB, hAC, c_Piece, k_Piece, f0, hp1, ← hD, c_SameR, k_SameR, f1, c_RankR, R1, hX0, hX1, hDA]
    · simp -implicitDefEqProofs (maxSteps := 1000000) (disch := omega) [vd, wd, ud, wn, c_aliveA, aliveA, c_rKey, Q1, Q2, e1, e2, n1, n2, cw, wd', c_Enc, P1, P2, P3, hAB, hAC, c_Piece, k_Piece, f0, hp1, ← hD, c_SameR, k_SameR, f1, c_RankR, R1, hX0, hX1])
theorem walk_KeysFirst {D M n : Nat} {vs : List V} {args : Array Value} {W : World} (hS : ShpAll Tryd.prog (D + 64) M n [24, 25, 25, 3] vs) (hA : AR (top W) W vs args.toList) : Calls Tryd.prog 9 args W fun e W' => e = .returned (.bool true) ∧ Go.RowKit.Below W.heap.size W W' := by
  match vs, hS with
  | [v0, v1, v2, v3], ⟨s0, s1, s2, s3, _⟩ =>
    obtain ⟨cols, K, c1, c2, -⟩ := in_schema s0
    obtain ⟨row, r1, r2, -⟩ := in_row s1
    obtain ⟨row2, q1, q2, -⟩ := in_row s2
    obtain ⟨i, rfl, hi⟩ := in_int u3 (by kernel_rfl) s3
    refine whole fit T_KeysFirst_ok (fn := Tryd.f9) (by kernel_rfl) (by kernel_rfl) ?_ hA
    show k_KeysFirst [v0, v1, v2, .int .i64 i] [] = _
    simp (disch := omega) [k_KeysFirst, c1, r1, q1]

end Go.Proofs.YtiaihiccaoibgaaDoor.B
