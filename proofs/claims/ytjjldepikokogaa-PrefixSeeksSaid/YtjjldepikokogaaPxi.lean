import Derived.Test.YtjjldepikokogaaPxh
set_option linter.unusedSimpArgs false
set_option linter.unusedVariables false
set_option linter.unusedSectionVars false
set_option maxRecDepth 20000
set_option maxHeartbeats 1000000
namespace Go.Proofs.Ytjjldepikokogaa.B
open Go Go.Ab
theorem encP_bytes {ss : List (List Int)} (h : ∀ s ∈ ss, b8 s = true) : b8 (encP ss) = true := by
  refine b8_of ?_
  unfold encP encT
  refine M.Bytes.app (M.putL_bytes _ _ (Nat.lt_succ_self _)) fun x hx => ?_
  obtain ⟨i, hi, hx⟩ := List.mem_flatMap.1 hx
  have hi := List.mem_range.1 hi
  have hs : M.Bytes (nth ss i) := b8_bytes (h _ (nth_mem hi))
  exact (M.Bytes.app (M.putL_bytes _ _ (Nat.lt_succ_self _)) (M.Bytes.app (M.putL_bytes _ _ (Nat.lt_succ_self _)) (hs.drop _))) x hx
theorem decTs_short {b : List Int} (hb : M.Bytes b) (h : decErr b = 0) : shortT (decTs b) = true := by
  obtain ⟨h1, h2⟩ := not_bad (enc_dec hb h).1
  refine shortT_iff.2 fun s hs => ?_
  obtain ⟨j, hj, rfl⟩ := nth_of_mem hs
  have := h2 j hj; omega
theorem decV_of (ts : List (List Int)) : ofList (ofInts .u8) (demote (decV ts)) = some ts := by
  unfold decV
  split
  · rename_i h; rw [h]; rfl
  · show ofList (ofInts .u8) (.lst .frozen (cellsN [] ts) ts.length) = some ts
    exact ofList_lst (cellsN_of [] ts) (cellsN_len [] ts).symm
def b8T (ss : List (List Int)) : Bool := ss.all b8
theorem b8T_iff {ss : List (List Int)} : b8T ss = true ↔ ∀ s ∈ ss, b8 s = true := by simp [b8T]
/-- The texts that come out, as the caller holds them. -/
theorem dec_hold (ts : List (List Int)) : ∃ d, demote (decV ts) = d ∧ demote d = d ∧ ofList (ofInts .u8) d = some ts ∧ lenV Try.prog 22 d = some (.int .i64 ts.length) ∧ ntup d = some d := by
  have h := decV_of ts
  obtain ⟨vd, vn, -⟩ := tx h
  refine ⟨_, rfl, vd, h, vn, ?_⟩
  unfold decV; split <;> rfl
noncomputable def k_PrefixBack : Ab.Spec := con2 (ofList (ofInts .u8)) (ofInts .u8) fun ss b objs => match objs with | [] => bnd (ss.length * 24 + b.length) 281474976706000 (if shortT ss = true ∧ b8T ss = true ∧ b8 b = true ∧ b.length < 140737488352000 ∧ ss.length * 24 < 140737488355328 then some (.bool true, none) else none) | _ => none
noncomputable def T_PrefixBack : CallF := withF T_pDecode 5 k_PrefixBack
theorem T_PrefixBack_ok : CallOk Try.prog T_PrefixBack := con_of (A := annOf [] [] [] false []) fit T_pDecode_ok (fn := Try.f5) (by kernel_rfl) (by kernel_rfl) (by
  intro args objs r h0
  have c_alive : ∀ a o, T_pDecode 7 a o = k_alive a o := fun _ _ => rfl
  have c_pEncode : ∀ a o, T_pDecode 9 a o = k_pEncode a o := fun _ _ => rfl
  have c_rpEncode : ∀ a o, T_pDecode 10 a o = k_rpEncode a o := fun _ _ => rfl
  have c_pDecode : ∀ a o, T_pDecode 14 a o = k_pDecode a o := fun _ _ => rfl
  have c_Cat : ∀ a o, T_pDecode 20 a o = k_Cat a o := fun _ _ => rfl
  have c_Same10 : ∀ a o, T_pDecode 12 a o = k_Same10 a o := fun _ _ => rfl
  have c_Copy : ∀ a o, T_pDecode 21 a o = k_Copy a o := fun _ _ => rfl
  have c_SameR : ∀ a o, T_pDecode 22 a o = k_SameR a o := fun _ _ => rfl
  obtain ⟨v, w, ss, b, rfl, ha, hb, hR⟩ := con2_inv h0
  split at hR
  case h_2 => cases hR
  obtain ⟨hl, hR⟩ := bnd_inv hR
  split at hR
  case isFalse => cases hR
  rename_i hc
  obtain ⟨hall, h8s, h8b, hbl, hsl⟩ := hc
  cases hR
  obtain ⟨vd, vn, -⟩ := tx ha
  obtain ⟨wd, wn, -⟩ := bs hb
  have hB := b8_bytes h8b
  refine .go _ rfl rfl ?_
  by_cases hbad : encBad ss = true
  · simp -implicitDefEqProofs (disch := omega) [c_alive, k_alive, c_pEncode, k_pEncode, c_rpEncode, k_rpEncode, vd, ha, hall, hbad]
  have hbad : encBad ss = false := by simpa using hbad
  obtain ⟨n1, n2⟩ := not_bad hbad
  have hl2 := encT_len n1 ss.length n2
  have hl3 : (encP ss).length ≤ 10 + 220 * ss.length := hl2
  obtain ⟨d1, d2, d3⟩ := dec_enc n1 n2
  have hts3 := decTs_bad (b := encP ss ++ [0]) (by rw [d3]; decide)
  have p8 := encP_bytes (b8T_iff.1 h8s)
  have p80 : b8 (encP ss ++ [0]) = true := b8_of (M.Bytes.app (b8_bytes p8) (fun x hx => by simp at hx; omega))
  have e1 : ofInts .u8 (.lst .frozen (ints .u8 (encP ss)) (encP ss).length) = some (encP ss) := ofInts_lst rfl
  have e2 : ofInts .u8 (.lst .frozen (ints .u8 (encP ss ++ [0])) ((encP ss).length + 1)) = some (encP ss ++ [0]) := ofInts_lst (by simp)
  have e3 : ofInts .u8 (.lst .frozen [.int .u8 0] 1) = some [0] := rfl
  have e4 : ofInts .u8 (.lst .frozen (ints .u8 b) b.length) = some b := ofInts_lst rfl
  have hdv : decV [] = .nils := rfl
  obtain ⟨x, x1, x2, x3, x4, x5⟩ := dec_hold ss
  by_cases he : decErr b = 0
  · obtain ⟨q1, q2⟩ := enc_dec hB he
    have q3 := decTs_short hB he
    obtain ⟨y, y1, y2, y3, y4, y5⟩ := dec_hold (decTs b)
    obtain ⟨Y, hY⟩ : ∃ Y, Y = decTs b := ⟨_, rfl⟩
    rw [← hY] at q1 q2 q3 y1 y3 y4
    have yl : Y.length ≤ 4096 := (not_bad q1).1
    have f1 : ∀ O, ofIntsR .u8 O (.lst .frozen (ints .u8 b) b.length) = some b := fun O => ofIntsR_of e4
    have f2 : ∀ O, ofIntsR .u8 O w = some b := fun O => ofIntsR_of hb
    simp -implicitDefEqProofs (disch := omega) [c_alive, k_alive, c_pEncode, k_pEncode, c_pDecode, k_pDecode, c_Cat, k_Cat, c_Same10, k_Same10, c_Copy, k_Copy, c_SameR, k_SameR, vd, wd, ha, hb, hall, hbad, e1, e2, e3, e4, d1, d2, d3, hts3, hdv, p8, p80, x1, x2, x3, x4, x5, blit1, he, ← hY, y1, y2, y3, y4, y5, q1, q2, q3, h8b, f1, f2]
  · have hts := decTs_bad he
    have he' : (decErr b != 0) = true := by simpa using he
    simp -implicitDefEqProofs (disch := omega) [c_alive, k_alive, c_pEncode, k_pEncode, c_pDecode, k_pDecode, c_Cat, k_Cat, c_Same10, k_Same10, c_Copy, k_Copy, vd, wd, ha, hb, hall, hbad, e1, e2, e3, e4, d1, d2, d3, hts3, hdv, p8, p80, x1, x2, x3, x4, x5, blit1, he, he', hts, h8b])
theorem in_bytes {D M n : Nat} {v : V} (h : ShpV Try.prog D M n 25 v) : ∃ l, ofInts .u8 v = some l ∧ b8 l = true ∧ l.length ≤ 140737488351232 ∧ (M = 0 ∨ l.length ≤ M) := by
  have hg : Ab.isAgg Try.prog 25 = false := by kernel_rfl
  have h2 : Shp Try.prog D M n 25 v := by unfold ShpV at h; rwa [if_neg (by rw [hg]; simp)] at h
  obtain ⟨l, l1, l2, l3, l4⟩ := shp_ints u25 u5 h2
  have hb : Try.prog.bytesOf 5 = 1 := by kernel_rfl
  rw [hb] at l3
  exact ⟨l, l1, wf_u8 l2, by omega, l4⟩
theorem walk_PrefixBack {D M n : Nat} {vs : List V} {args : Array Value} {W : World} (hS : ShpAll Try.prog D M n [22, 25] vs) (hA : AR (top W) W vs args.toList) : Calls Try.prog 5 args W fun e W' => e = .returned (.bool true) ∧ Go.RowKit.Below W.heap.size W W' := by
  match vs, hS with
  | [v0, v1], ⟨s0, s1, _⟩ =>
    obtain ⟨ss, d0, b0, n0, -⟩ := in_texts s0
    obtain ⟨b, d1, b1, n1, -⟩ := in_bytes s1
    have hall : shortT ss = true := shortT_iff.2 fun s hs => (by have := (b0 s hs).2.1; omega)
    have h8 : b8T ss = true := b8T_iff.2 fun s hs => (b0 s hs).1
    refine whole fit T_PrefixBack_ok (fn := Try.f5) (by kernel_rfl) (by kernel_rfl) ?_ hA
    show k_PrefixBack [v0, v1] [] = _
    simp (disch := omega) [k_PrefixBack, d0, d1, b1, hall, h8]
    omega

end Go.Proofs.Ytjjldepikokogaa.B
