import Derived.Test.YtiaihiccaoibgaaDoorKyD
set_option linter.unusedSimpArgs false
set_option linter.unusedVariables false
set_option linter.unusedSectionVars false
set_option maxRecDepth 20000
set_option maxHeartbeats 1000000
namespace Go.Proofs.YtiaihiccaoibgaaDoor.B
open Go Go.Ab
theorem next_self : ∀ (a : List Int), cmpZ (a ++ [0]) a = 1
  | [] => rfl
  | x :: a => by rw [List.cons_append, cmpZ_cons, if_neg (by omega), if_neg (by omega)]; exact next_self a
theorem cmpZ_nil : ∀ (a : List Int), 0 ≤ cmpZ a []
  | [] => by decide
  | _ :: _ => show (0 : Int) ≤ 1 by decide
theorem next_above : ∀ {o a : List Int} (_ : ∀ c ∈ o, 0 ≤ c), (0 < cmpZ o a ↔ 0 ≤ cmpZ o (a ++ [0]))
  | [], [], _ => by decide
  | [], x :: a, _ => by
    show 0 < (-1 : Int) ↔ 0 ≤ (-1 : Int)
    omega
  | y :: o, [], h => by
    have hy := h y (by simp)
    show 0 < (1 : Int) ↔ 0 ≤ cmpZ (y :: o) [0]
    rw [cmpZ_cons, if_neg (by omega)]
    split
    · omega
    · have := cmpZ_nil o; omega
  | y :: o, x :: a, h => by
    have ih := next_above (o := o) (a := a) fun c hc => h c (by simp [hc])
    rw [List.cons_append, cmpZ_cons, cmpZ_cons]
    split
    · omega
    split
    · omega
    · exact ih
theorem nil_cmp {a : List Int} (h : a ≠ []) : cmpZ a [] = 1 := by
  cases a with
  | nil => exact absurd rfl h
  | cons x a => rfl
theorem enc_low {objs : List AO} {cols : List Co} {K : Int} {a b : List Ce} (ha : encE objs cols K a = 0) (hb : b = [] ∨ encE objs cols K b = 0) (h1 : ∀ i, i < a.length → ceOk objs (nth a i) = true) (h2 : ∀ i, i < b.length → ceOk objs (nth b i) = true) (hn : b.length ≤ a.length) :
    (0 ≤ cmpZ (encZ objs cols a) (encZ objs cols b) ↔ 0 ≤ rankR objs a b b.length) ∧ (cmpZ (encZ objs cols a) (encZ objs cols b) < 0 ↔ rankR objs a b b.length < 0) := by
  obtain ⟨-, -, -, c1⟩ := encE_zero ha
  have c2 : ∀ i, i < b.length → chkK objs (nth cols i) (nth b i) = 0 := by
    rcases hb with rfl | hb
    · intro i hi; exact absurd hi (Nat.not_lt_zero _)
    · exact (encE_zero hb).2.2.2
  obtain ⟨r, hr⟩ := catZ_pre (encF objs cols a) b.length (a.length - b.length)
  rw [show b.length + (a.length - b.length) = a.length by omega] at hr
  have h := enc_cmp (objs := objs) (cols := cols) (a := a) (b := b) b.length (fun i hi => ⟨c1 i (by omega), h1 i (by omega)⟩) (fun i hi => ⟨c2 i hi, h2 i hi⟩) r []
  rw [← hr, List.append_nil] at h
  have hR : rankR objs a b b.length = firstE (fun i => rankC objs (nth a i) (nth b i)) b.length 0 := by unfold rankR; rw [show min b.length (min a.length b.length) = b.length by omega]
  have hn := cmpZ_nil r
  unfold encZ
  rw [h, hR]
  unfold zif
  split
  · rename_i q; rw [q]; omega
  · exact ⟨Iff.rfl, Iff.rfl⟩
theorem bndO_sp {objs : List AO} {v : V} {K E E1 : Int} {A B : List Int} (hne : E = 0 → A = [] ∨ E1 = 0) : ∃ X Y O1, bndK (objs.length + 1) E A B = .tup [X, Y, .int .i64 E] ∧ objs ++ [.cells [v, .int .i64 K] 0] ++ bndO E E1 A B = O1 ∧ demote X = X ∧ demote Y = Y ∧ ntup X = some X ∧ ntup Y = some Y ∧ Old objs O1 ∧ (E = 0 → A.length < 100000 → B.length < 100000 → ofIntsR .u8 O1 X = some A ∧ ofIntsR .u8 O1 Y = some B) := by
  by_cases he : E = 0
  · have hO : bndO E E1 A B = kbO A ++ kbO B := by
      unfold bndO
      rw [if_pos he]
      rcases hne he with rfl | h1
      · simp [kbO]
      · rw [if_pos h1]
    refine ⟨kbV (objs.length + 1) A, kbV (objs.length + 1 + (kbO A).length) B, _, by unfold bndK; rw [if_pos he, he], rfl, by unfold kbV; split <;> rfl, by unfold kbV; split <;> rfl, by unfold kbV; split <;> rfl, by unfold kbV; split <;> rfl, by rw [List.append_assoc]; exact Old.ext _ _, fun _ la lb => ?_⟩
    rw [hO]
    by_cases ha : A = []
    · by_cases hb : B = []
      · simp [kbV, kbO, ha, hb, ofIntsR, ofInts]
      · refine ⟨by simp [kbV, ha, ofIntsR, ofInts], ?_⟩
        have e1 : kbV (objs.length + 1 + (kbO A).length) B = .ref (objs.length + 1) 0 0 B.length 1 := by simp [kbV, kbO, ha, hb]
        rw [e1]
        exact ofIntsR_ref (by simp [kbO, ha, hb, Ab.getObj]) (by omega)
    · by_cases hb : B = []
      · refine ⟨?_, by simp [kbV, hb, ofIntsR, ofInts]⟩
        have e1 : kbV (objs.length + 1) A = .ref (objs.length + 1) 0 0 A.length 1 := by simp [kbV, ha]
        rw [e1]
        exact ofIntsR_ref (by simp [kbO, ha, hb, Ab.getObj]) (by omega)
      · have e1 : kbV (objs.length + 1) A = .ref (objs.length + 1) 0 0 A.length 1 := by simp [kbV, ha]
        have e2 : kbV (objs.length + 1 + (kbO A).length) B = .ref (objs.length + 2) 0 0 B.length 1 := by simp [kbV, kbO, ha, hb]
        rw [e1, e2]
        exact ⟨ofIntsR_ref (by simp [kbO, ha, hb, Ab.getObj]) (by omega), ofIntsR_ref (by simp [kbO, ha, hb, Ab.getObj]) (by omega)⟩
  · exact ⟨.nils, .nils, _, by unfold bndK; rw [if_neg he], rfl, rfl, rfl, rfl, rfl, by rw [List.append_assoc]; exact Old.ext _ _, fun q => absurd q he⟩
noncomputable def k_Next : Ab.Spec := con1 some fun v objs => match ofIntsR .u8 objs v with
  | some l => bnd (l.length + 1) 140737488355300 (some (.lst (.fresh 1 true) (ints .u8 (l ++ [0])) (l ++ [0]).length, none))
  | none => none
noncomputable def T_Next : CallF := withF T_KeysFirst 22 k_Next
theorem T_Next_ok : CallOk Tryd.prog T_Next := con_of (A := annOf [] [4,6] [] false []) fit T_KeysFirst_ok (fn := Tryd.f22) (by kernel_rfl) (by kernel_rfl) (by
  intro args objs r h0
  have c_CloneR : ∀ a o, T_KeysFirst 47 a o = k_CloneR a o := fun _ _ => rfl
  obtain ⟨v, _, rfl, hv, hR⟩ := con1_inv h0
  cases hv
  split at hR
  case h_2 => cases hR
  rename_i l ha
  obtain ⟨hl, hR⟩ := bnd_inv hR
  cases hR
  obtain ⟨a1, a2, a3, a4⟩ := one_ofR ha
  have i0 : ints .u8 [0] = [.int .u8 0] := rfl
  refine .go _ rfl rfl ?_
  by_cases hn : isNils v = true
  · have hl0 : l = [] := by
      cases v <;> simp [isNils] at hn
      simpa [ofIntsR, ofInts] using ha.symm
    subst hl0
    simp -implicitDefEqProofs (disch := omega) [a1, c_CloneR, k_CloneR, ha, hn, blit1, i0, Nat.mod_one]
  · simp -implicitDefEqProofs (disch := omega) [a1, c_CloneR, k_CloneR, ha, hn, blit1, i0, Nat.mod_one])

end Go.Proofs.YtiaihiccaoibgaaDoor.B
set_option maxRecDepth 20000
set_option maxHeartbeats 1000000
namespace Go.Proofs.YtiaihiccaoibgaaDoor.B
open Go Go.Ab
noncomputable def k_KeysRange : Ab.Spec := fun args objs => match args, objs with
  | [s, w, l, h, o], [] => match schD [] s, rowR [] w, rowR [] l, rowR [] h, ofInts .u8 o with
    | some _, some key, some low, some high, some oth => if b8 oth = true then bnd key.length 140737488355328 (bnd oth.length 140737488355328 (some (.bool true, none))) else none
    | _, _, _, _, _ => none
  | _, _ => none
noncomputable def T_KeysRange : CallF := withF T_Next 8 k_KeysRange
theorem T_KeysRange_ok : CallOk Tryd.prog T_KeysRange := con_of (A := annOf [] [] [] false [24]) fit T_Next_ok (fn := Tryd.f8) (by kernel_rfl) (by kernel_rfl) (by
  intro args objs r h0
  have c_aliveA : ∀ a o, T_Next 10 a o = k_aliveA a o := fun _ _ => rfl
  have c_Bounds : ∀ a o, T_Next 24 a o = k_Bounds a o := fun _ _ => rfl
  have c_Enc : ∀ a o, T_Next 13 a o = k_Enc a o := fun _ _ => rfl
  have c_rKey : ∀ a o, T_Next 29 a o = k_rKey a o := fun _ _ => rfl
  have c_rBounds : ∀ a o, T_Next 25 a o = k_rBounds a o := fun _ _ => rfl
  have c_RankR : ∀ a o, T_Next 32 a o = k_RankR a o := fun _ _ => rfl
  have c_Within : ∀ a o, T_Next 27 a o = k_Within a o := fun _ _ => rfl
  have c_Next : ∀ a o, T_Next 22 a o = k_Next a o := fun _ _ => rfl
  have c_Order : ∀ a o, T_Next 31 a o = k_Order a o := fun _ _ => rfl
  unfold k_KeysRange at h0
  split at h0
  case h_2 => cases h0
  rename_i s w l h o
  split at h0
  case h_2 => cases h0
  rename_i p key low high oth hsc hr1 hr2 hr3 hot
  obtain ⟨cols, K⟩ := p
  split at h0
  case isFalse => cases h0
  rename_i ho8
  obtain ⟨l1, h0⟩ := bnd_inv h0
  obtain ⟨l2, h0⟩ := bnd_inv h0
  cases h0
  obtain ⟨v, rfl, hc, hl, hsh⟩ := schD_inv hsc
  have vd := (colsV hc).dem
  obtain ⟨hw, wd, wn, -, rk1⟩ := rowF hr1
  obtain ⟨-, ld, ln, -, rk2⟩ := rowF hr2
  obtain ⟨-, hd, hn, -, rk3⟩ := rowF hr3
  have od := (one_ofR (ofIntsR_of (objs := []) hot)).1
  have oO : ∀ O, ofIntsR .u8 O o = some oth := fun O => ofIntsR_of hot
  obtain ⟨E, hE⟩ : ∃ E, E = bndE [] cols K low high := ⟨_, rfl⟩
  obtain ⟨Ek, hEk⟩ : ∃ E, E = keyE [] cols K key := ⟨_, rfl⟩
  obtain ⟨Ec, hEc⟩ : ∃ E, E = encE [] cols K key := ⟨_, rfl⟩
  obtain ⟨E1, hE1⟩ : ∃ E, E = encE [] cols K low := ⟨_, rfl⟩
  obtain ⟨A, hA⟩ : ∃ A, A = encZ [] cols key := ⟨_, rfl⟩
  obtain ⟨L, hL⟩ : ∃ A, A = encZ [] cols low := ⟨_, rfl⟩
  obtain ⟨H, hH⟩ : ∃ A, A = encZ [] cols high := ⟨_, rfl⟩
  have hne : E = 0 → L = [] ∨ E1 = 0 := fun q => by
    rcases (bndE_zero (hE.symm.trans q)).2.1 with rfl | h1
    · exact .inl hL
    · exact .inr (hE1.trans h1)
  obtain ⟨X, Y, O1, hX, hO1, xd, yd, xn, yn, hold, hXY⟩ := bndO_sp (objs := [.cells [v, .int .i64 K] 0]) (v := v) (K := K) (E := E) (E1 := E1) (A := L) (B := H) hne
  have b1 : Ab.getObj O1 0 0 = some [v, .int .i64 K] := by rw [hold.2 0 0 (by simp)]; rfl
  have P2 : k_Bounds [.agg [v, .int .i64 K], l, h] [.cells [v, .int .i64 K] 0] = some (.tup [X, Y, .int .i64 E], some (O1, 1)) := by
    have ho := old_nil [.cells [v, .int .i64 K] 0]
    rw [bnd_sp (schD_old hsc ho) (rowR_old hr2 ho) (rowR_old hr3 ho), bndE_old rk2 rk3 ho, encE_old rk2 ho, encZ_old rk2 ho, encZ_old rk3 ho, ← hE, ← hE1, ← hL, ← hH, hX, hO1]; rfl
  have P1 : ∀ O, k_Enc [.agg [v, .int .i64 K], w] O = some (cputV Ec (.fresh 1 true) A, none) := fun O => by
    have ho := old_nil O
    simp [k_Enc, schD_old hsc ho, rowR_old hr1 ho, encE_old rk1 ho, encZ_old rk1 ho, ← hEc, ← hA]
  have P3 : ∀ O, k_rKey [.agg [v, .int .i64 K], w] O = some (.int .i64 Ek, none) := fun O => by
    have ho := old_nil O
    simp [k_rKey, schD_old hsc ho, rowR_old hr1 ho, keyE_old rk1 ho, ← hEk]
  have P4 : ∀ O, ∃ x y, k_rBounds [.agg [v, .int .i64 K], l, h] O = some (.tup [x, y, .int .i64 E], none) ∧ demote x = x ∧ demote y = y ∧ ntup x = some x ∧ ntup y = some y := fun O => by
    have ho := old_nil O
    have e : k_rBounds [.agg [v, .int .i64 K], l, h] O = some (bndF E L H, none) := by simp [k_rBounds, schD_old hsc ho, rowR_old hr2 ho, rowR_old hr3 ho, bndE_old rk2 rk3 ho, encZ_old rk2 ho, encZ_old rk3 ho, ← hE, ← hL, ← hH]
    rw [e]
    unfold bndF
    split
    · rename_i q; rw [q]; exact ⟨_, _, rfl, rfl, rfl, rfl, rfl⟩
    · exact ⟨_, _, rfl, rfl, rfl, rfl, rfl⟩
  obtain ⟨x4, y4, P4, x4d, y4d, x4n, y4n⟩ := P4 O1
  refine .go _ rfl rfl ?_
  by_cases hg : Ek = 0 ∧ E = 0
  case neg =>
    have Q1 : ∀ O, ∃ z e, cputV Ec O A = .tup [z, .int .i64 e] := fun O => by
      unfold cputV; split
      · exact ⟨_, _, rfl⟩
      · exact ⟨_, _, rfl⟩
    by_cases e1 : Ek = 0
    · have e2 : ¬ E = 0 := fun q => hg ⟨e1, q⟩
      have e2' : (E != 0) = true := by simpa using e2
      by_cases e3 : Ec = 0
      · have Q1 : cputV Ec (.fresh 1 true) A = .tup [.lst (.fresh 1 true) (ints .u8 A) A.length, .int .i64 0] := by unfold cputV; rw [if_pos e3]
        simp -implicitDefEqProofs (maxSteps := 1000000) (disch := omega) [vd, wd, ld, hd, od, c_aliveA, aliveA, c_Bounds, P2, xd, yd, xn, yn, b1, c_Enc, P1, Q1, c_rKey, P3, e1, e2, e2', c_rBounds, P4, x4d, y4d, x4n, y4n]
      · have Q1 : cputV Ec (.fresh 1 true) A = .tup [.nils, .int .i64 Ec] := if_neg e3
        simp -implicitDefEqProofs (maxSteps := 1000000) (disch := omega) [vd, wd, ld, hd, od, c_aliveA, aliveA, c_Bounds, P2, xd, yd, xn, yn, b1, c_Enc, P1, Q1, c_rKey, P3, e1, e2, e2', c_rBounds, P4, x4d, y4d, x4n, y4n]
    · have e1' : (Ek != 0) = true := by simpa using e1
      by_cases e3 : Ec = 0
      · have Q1 : cputV Ec (.fresh 1 true) A = .tup [.lst (.fresh 1 true) (ints .u8 A) A.length, .int .i64 0] := by unfold cputV; rw [if_pos e3]
        simp -implicitDefEqProofs (maxSteps := 1000000) (disch := omega) [vd, wd, ld, hd, od, c_aliveA, aliveA, c_Bounds, P2, xd, yd, xn, yn, b1, c_Enc, P1, Q1, c_rKey, P3, e1, e1', c_rBounds, P4, x4d, y4d, x4n, y4n]
      · have Q1 : cputV Ec (.fresh 1 true) A = .tup [.nils, .int .i64 Ec] := if_neg e3
        simp -implicitDefEqProofs (maxSteps := 1000000) (disch := omega) [vd, wd, ld, hd, od, c_aliveA, aliveA, c_Bounds, P2, xd, yd, xn, yn, b1, c_Enc, P1, Q1, c_rKey, P3, e1, e1', c_rBounds, P4, x4d, y4d, x4n, y4n]
  obtain ⟨e1, e2⟩ := hg
  obtain ⟨g1, K1, x1⟩ := key_enc (hEk.symm.trans e1)
  obtain ⟨-, z1, z2⟩ := bndE_zero (hE.symm.trans e2)
  have e3 : Ec = 0 := hEc.trans x1
  have Q1 : cputV Ec (.fresh 1 true) A = .tup [.lst (.fresh 1 true) (ints .u8 A) A.length, .int .i64 0] := by unfold cputV; rw [if_pos e3]
  have lA := (encZ_len x1).2
  rw [← hA] at lA
  have lL := encZ_lenB z1
  rw [← hL] at lL
  have lH := encZ_lenB z2
  rw [← hH] at lH
  obtain ⟨ox, oy⟩ := hXY e2 (by omega) (by omega)
  have A8 : b8 A = true := by rw [hA]; exact encZ_b8 rk1
  have L8 : b8 L = true := by rw [hL]; exact encZ_b8 rk2
  have H8 : b8 H = true := by rw [hH]; exact encZ_b8 rk3
  have hll : low.length ≤ key.length := by
    rcases z1 with rfl | q
    · exact Nat.zero_le _
    · have := (encE_zero q).2.2.1; omega
  have hhl : high.length ≤ key.length := by
    rcases z2 with rfl | q
    · exact Nat.zero_le _
    · have := (encE_zero q).2.2.1; omega
  have hHn : H = [] ↔ high = [] := by
    constructor
    · intro q
      refine Classical.byContradiction fun q2 => ?_
      have := (encZ_len (z2.resolve_left q2)).1
      rw [← hH, q] at this
      cases this
    · intro q; rw [hH, q]; rfl
  obtain ⟨R1, hR1⟩ : ∃ R, R = rankR [] key low low.length := ⟨_, rfl⟩
  obtain ⟨R2, hR2⟩ : ∃ R, R = rankR [] key high high.length := ⟨_, rfl⟩
  have c1 := (enc_low x1 z1 rk1 rk2 hll).1
  have c2 := (enc_low x1 z2 rk1 rk3 hhl).2
  rw [← hA, ← hL, ← hR1] at c1
  rw [← hA, ← hH, ← hR2] at c2
  have k1 : ∀ O, k_RankR [w, l, .int .i64 low.length] O = some (.int .i64 R1, none) := fun O => by
    have ho := old_nil O
    simp (disch := omega) [k_RankR, rowR_old hr1 ho, rowR_old hr2 ho, rankR_old rk1 rk2 ho, ← hR1]
  have k2 : ∀ O, k_RankR [w, h, .int .i64 high.length] O = some (.int .i64 R2, none) := fun O => by
    have ho := old_nil O
    simp (disch := omega) [k_RankR, rowR_old hr1 ho, rowR_old hr3 ho, rankR_old rk1 rk3 ho, ← hR2]
  have f1 : ∀ (O : List AO) (x : List Int), ofIntsR .u8 O (.lst .frozen (ints .u8 x) x.length) = some x := fun O x => ofIntsR_of (ofInts_lst rfl)
  obtain ⟨W, hW⟩ : ∃ W, W = withinZ A L H := ⟨_, rfl⟩
  obtain ⟨N, hN⟩ : ∃ N, N = A ++ [0] := ⟨_, rfl⟩
  have lN : N.length ≤ 1207 := by rw [hN]; simp; omega
  have n1 := next_self A
  rw [← hN] at n1
  have n2 := next_above (o := oth) (a := A) fun c hc => (b8_iff.1 ho8 c hc).1
  rw [← hN] at n2
  obtain ⟨C1, hC1⟩ : ∃ C, C = cmpZ oth A := ⟨_, rfl⟩
  obtain ⟨C2, hC2⟩ : ∃ C, C = cmpZ oth N := ⟨_, rfl⟩
  rw [← hC1, ← hC2] at n2
  have kN : ∀ O, k_Next [.lst .frozen (ints .u8 A) A.length] O = some (.lst (.fresh 1 true) (ints .u8 N) N.length, none) := fun O => by
    simp (disch := omega) [k_Next, f1, hN]
  have kW : k_Within [.lst .frozen (ints .u8 A) A.length, X, Y] O1 = some (.bool W, none) := by
    simp (disch := omega) [k_Within, f1, ox, oy, A8, L8, H8, ← hW]
  have kO1 : ∀ O, k_Order [o, .lst .frozen (ints .u8 A) A.length] O = some (.int .i64 C1, none) := fun O => by
    simp (disch := omega) [k_Order, f1, oO, ← hC1]
  have kO2 : ∀ O, k_Order [.lst .frozen (ints .u8 N) N.length, .lst .frozen (ints .u8 A) A.length] O = some (.int .i64 1, none) := fun O => by
    simp (disch := omega) [k_Order, f1, n1]
  have kO3 : ∀ O, k_Order [o, .lst .frozen (ints .u8 N) N.length] O = some (.int .i64 C2, none) := fun O => by
    simp (disch := omega) [k_Order, f1, oO, ← hC2]
  have hWv : W = (decide (0 ≤ R1) && (decide (high = []) || decide (R2 < 0))) := by
    rw [hW]; unfold withinZ
    rw [decide_eq_decide.2 c1, decide_eq_decide.2 hHn, decide_eq_decide.2 c2]
  have fin : ∀ b : Bool, decide (0 < C1) = b → decide (0 ≤ C2) = b := fun b hb => by rw [← hb]; exact decide_eq_decide.2 n2.symm
  by_cases q1 : 0 ≤ R1
  · by_cases q2 : high = []
    · have hn0 : ((high.length : Int) == 0) = true := by rw [q2]; rfl
      have hWt : W = true := by rw [hWv]; simp [q1, q2]
      rw [hWt] at kW
      by_cases q4 : 0 < C1
      · have q5 := n2.1 q4
        simp -implicitDefEqProofs (maxSteps := 1000000) (disch := omega) [vd, wd, ld, hd, od, wn, ln, hn, c_aliveA, aliveA, c_Bounds, P2, xd, yd, xn, yn, b1, c_Enc, P1, Q1, c_rKey, P3, e1, e2, c_RankR, k1, q1, hn0, c_Within, kW, c_Next, kN, c_Order, kO1, kO2, kO3, q4, q5]
      · have q5 : ¬ 0 ≤ C2 := fun q => q4 (n2.2 q)
        simp -implicitDefEqProofs (maxSteps := 1000000) (disch := omega) [vd, wd, ld, hd, od, wn, ln, hn, c_aliveA, aliveA, c_Bounds, P2, xd, yd, xn, yn, b1, c_Enc, P1, Q1, c_rKey, P3, e1, e2, c_RankR, k1, q1, hn0, c_Within, kW, c_Next, kN, c_Order, kO1, kO2, kO3, q4, q5]
    · have hn0 : ((high.length : Int) == 0) = false := by cases high <;> simp_all <;> omega
      by_cases q3 : R2 < 0
      · have hWt : W = true := by rw [hWv]; simp [q1, q3]
        rw [hWt] at kW
        by_cases q4 : 0 < C1
        · have q5 := n2.1 q4
          simp -implicitDefEqProofs (maxSteps := 1000000) (disch := omega) [vd, wd, ld, hd, od, wn, ln, hn, c_aliveA, aliveA, c_Bounds, P2, xd, yd, xn, yn, b1, c_Enc, P1, Q1, c_rKey, P3, e1, e2, c_RankR, k1, k2, q1, q3, hn0, c_Within, kW, c_Next, kN, c_Order, kO1, kO2, kO3, q4, q5]
        · have q5 : ¬ 0 ≤ C2 := fun q => q4 (n2.2 q)
          simp -implicitDefEqProofs (maxSteps := 1000000) (disch := omega) [vd, wd, ld, hd, od, wn, ln, hn, c_aliveA, aliveA, c_Bounds, P2, xd, yd, xn, yn, b1, c_Enc, P1, Q1, c_rKey, P3, e1, e2, c_RankR, k1, k2, q1, q3, hn0, c_Within, kW, c_Next, kN, c_Order, kO1, kO2, kO3, q4, q5]
      · have hWt : W = false := by rw [hWv]; simp [q2, q3]
        rw [hWt] at kW
        by_cases q4 : 0 < C1
        · have q5 := n2.1 q4
          simp -implicitDefEqProofs (maxSteps := 1000000) (disch := omega) [vd, wd, ld, hd, od, wn, ln, hn, c_aliveA, aliveA, c_Bounds, P2, xd, yd, xn, yn, b1, c_Enc, P1, Q1, c_rKey, P3, e1, e2, c_RankR, k1, k2, q1, q3, hn0, c_Within, kW, c_Next, kN, c_Order, kO1, kO2, kO3, q4, q5]
        · have q5 : ¬ 0 ≤ C2 := fun q => q4 (n2.2 q)
          simp -implicitDefEqProofs (maxSteps := 1000000) (disch := omega) [vd, wd, ld, hd, od, wn, ln, hn, c_aliveA, aliveA, c_Bounds, P2, xd, yd, xn, yn, b1, c_Enc, P1, Q1, c_rKey, P3, e1, e2, c_RankR, k1, k2, q1, q3, hn0, c_Within, kW, c_Next, kN, c_Order, kO1, kO2, kO3, q4, q5]
  · have hWt : W = false := by rw [hWv]; simp [q1]
    rw [hWt] at kW
    by_cases q4 : 0 < C1
    · have q5 := n2.1 q4
      simp -implicitDefEqProofs (maxSteps := 1000000) (disch := omega) [vd, wd, ld, hd, od, wn, ln, hn, c_aliveA, aliveA, c_Bounds, P2, xd, yd, xn, yn, b1, c_Enc, P1, Q1, c_rKey, P3, e1, e2, c_RankR, k1, q1, c_Within, kW, c_Next, kN, c_Order, kO1, kO2, kO3, q4, q5]
    · have q5 : ¬ 0 ≤ C2 := fun q => q4 (n2.2 q)
      simp -implicitDefEqProofs (maxSteps := 1000000) (disch := omega) [vd, wd, ld, hd, od, wn, ln, hn, c_aliveA, aliveA, c_Bounds, P2, xd, yd, xn, yn, b1, c_Enc, P1, Q1, c_rKey, P3, e1, e2, c_RankR, k1, q1, c_Within, kW, c_Next, kN, c_Order, kO1, kO2, kO3, q4, q5])
theorem walk_KeysRange {D M n : Nat} {vs : List V} {args : Array Value} {W : World} (hS : ShpAll Tryd.prog (D + 64) M n [24, 25, 25, 25, 28] vs) (hA : AR (top W) W vs args.toList) : Calls Tryd.prog 8 args W fun e W' => e = .returned (.bool true) ∧ Go.RowKit.Below W.heap.size W W' := by
  match vs, hS with
  | [v0, v1, v2, v3, v4], ⟨s0, s1, s2, s3, s4, _⟩ =>
    obtain ⟨cols, K, c1, c2, -⟩ := in_schema s0
    obtain ⟨row, r1, r2, -⟩ := in_row s1
    obtain ⟨row2, q1, q2, -⟩ := in_row s2
    obtain ⟨row3, m1, m2, -⟩ := in_row s3
    obtain ⟨oth, o1, o2, o3⟩ := in_b8 s4
    refine whole fit T_KeysRange_ok (fn := Tryd.f8) (by kernel_rfl) (by kernel_rfl) ?_ hA
    show k_KeysRange [v0, v1, v2, v3, v4] [] = _
    simp (disch := omega) [k_KeysRange, c1, r1, q1, m1, o1, o2]

end Go.Proofs.YtiaihiccaoibgaaDoor.B
