import Derived.Test.YtjjldepikokogaaPxD
set_option linter.unusedSimpArgs false
set_option linter.unusedVariables false
set_option linter.unusedSectionVars false
set_option maxRecDepth 20000
set_option maxHeartbeats 1000000
namespace Go.Proofs.Ytjjldepikokogaa.B
open Go Go.Ab
theorem textZ_b8 {b last : List Int} {p : Int} {whole : Bool} (hb : M.Bytes b) (hl : M.Bytes last) : M.Bytes (textZ b last p whole).s := by
  by_cases h0 : (textZ b last p whole).err = 0
  · obtain ⟨k, n1, m, to, -, -, h3, h4⟩ := textZ_cases h0
    obtain ⟨-, -, -, -, -, c6⟩ := textW_cases _ _ _ _ _ _ h4
    rw [h3, c6]
    exact M.Bytes.app (hl.take _) ((hb.drop _).take _)
  · have : (textZ b last p whole).s = [] := by
      unfold textZ at h0 ⊢
      obtain ⟨k, n1, e1, hg1⟩ : ∃ k n1 e1, M.getR b p = (k, n1, e1) := ⟨_, _, _, rfl⟩
      rw [hg1] at h0 ⊢
      simp only at h0 ⊢
      split
      · rfl
      rename_i q1
      rw [if_neg q1] at h0
      split
      · rfl
      rename_i q2
      rw [if_neg q2] at h0
      unfold textW at h0 ⊢
      split
      · rfl
      rename_i c1; rw [if_neg c1] at h0
      split
      · rfl
      rename_i c2; rw [if_neg c2] at h0
      split
      · rfl
      rename_i c3; rw [if_neg c3] at h0
      split
      · rfl
      rename_i c4; rw [if_neg c4] at h0
      exact absurd rfl h0
    rw [this]; intro x hx; cases hx
theorem decI_b8 {b : List Int} {p0 : Int} (hb : M.Bytes b) : ∀ i, (∀ t ∈ (decI b p0 i).ts, M.Bytes t) ∧ M.Bytes (decI b p0 i).last
  | 0 => ⟨by simp [decI], by intro x hx; simp [decI] at hx⟩
  | i + 1 => by
    obtain ⟨h1, h2⟩ := decI_b8 (p0 := p0) hb i
    rw [decI]
    split
    · exact ⟨h1, h2⟩
    split
    · exact ⟨h1, h2⟩
    · have ht := textZ_b8 (last := (decI b p0 i).last) (p := (decI b p0 i).p) (whole := decide (i % 16 = 0)) hb h2
      refine ⟨fun t q => ?_, ht⟩
      rcases List.mem_append.1 q with q | q
      · exact h1 t q
      · simp only [List.mem_singleton] at q; rw [q]; exact ht
theorem decTs_b8 {b : List Int} (hb : M.Bytes b) : ∀ t ∈ decTs b, M.Bytes t := by
  intro t ht
  unfold decTs at ht
  split at ht
  split at ht
  · cases ht
  · exact (decI_b8 hb _).1 t ht
noncomputable def k_pSeek : Ab.Spec := con2 (ofInts .u8) (ofInts .u8) fun b s _ => bnd b.length 140737488352000 (if b8 b = true ∧ b8 s = true then some (.tup [.int .i64 (aheadN (decTs b) s), .int .i64 (decErr b)], none) else none)
noncomputable def T_pSeek : CallF := withF T_Index10 16 k_pSeek
theorem T_pSeek_ok : CallOk Try.prog T_pSeek := con_of (A := annOf [] [] [] false []) fit T_Index10_ok (fn := Try.f16) (by kernel_rfl) (by kernel_rfl) (by
  intro args objs r h0
  have c_pDecode : ∀ a o, T_Index10 14 a o = k_pDecode a o := fun _ _ => rfl
  have c_Compare : ∀ a o, T_Index10 37 a o = k_Compare a o := fun _ _ => rfl
  obtain ⟨v, w, b, s, rfl, ha, hb, hR⟩ := con2_inv h0
  obtain ⟨hl, hR⟩ := bnd_inv hR
  split at hR
  case isFalse => cases hR
  rename_i hc
  obtain ⟨h8, h8s⟩ := hc
  cases hR
  have hB := b8_bytes h8
  obtain ⟨vd, -⟩ := bs ha
  obtain ⟨wd, -⟩ := bs hb
  obtain ⟨d, d1, d2, d3, d4, d5⟩ := dec_hold (decTs b)
  obtain ⟨-, -, cs, vi, vc⟩ := tx d3
  have hT := decTs_b8 hB
  obtain ⟨ts, hts⟩ : ∃ ts, ts = decTs b := ⟨_, rfl⟩
  rw [← hts] at d1 d3 d4 vi vc hT ⊢
  have hlen : ts.length < 1000000 := by
    by_cases he : decErr b = 0
    · have := (not_bad (enc_dec hB he).1).1; rw [hts]; omega
    · rw [hts, decTs_bad he]; decide
  have r2 : ∀ O, ofIntsR .u8 O w = some s := fun O => ofIntsR_of hb
  refine .go _ rfl rfl ?_
  simp -implicitDefEqProofs (disch := omega) [vd, ha, c_pDecode, k_pDecode, h8, ← hts, d1, d2, d4, d5]
  obtain ⟨I, hI⟩ : ∃ I : Nat → St → Prop, I = (fun (i : Nat) (s' : St) => (∀ j, j < i → cmpZ (nth ts j) s < 0) ∧ s'.env 1 = w ∧ s'.env 6 = d ∧ s'.env 7 = .int .i64 (decErr b) ∧ s'.env 15 = d ∧ s'.env 16 = .int .i64 ts.length ∧ s'.env 17 = .int .i64 i ∧ s'.toks = [] ∧ s'.objs = objs ∧ s'.low = objs.length) := ⟨_, rfl⟩
  refine .up ts.length I (by rw [hI]; exact ⟨by omega, by simp, by simp, by simp, by simp, by simp, by simp, by simp, by simp, by simp⟩) ?_
  intro i s' hi hs
  rw [hI] at hs
  obtain ⟨hj, g1, g6, g7, g15, g16, g17, ht, ho, hlo⟩ := hs
  rcases Nat.lt_or_ge i ts.length with h | h
  · obtain ⟨c, c1, c1', c2⟩ := vc i h
    obtain ⟨cd, -⟩ := bs c2
    have e1 := vi .i64 i (by omega) (by omega)
    rw [Int.toNat_natCast] at e1
    have r1 : ∀ O, ofIntsR .u8 O c = some (nth ts i) := fun O => ofIntsR_of c2
    have hcz : cmpB (nth ts i) s = cmpZ (nth ts i) s := cmpB_eq (hT _ (nth_mem h)) (b8_iff.1 h8s)
    by_cases hc : cmpZ (nth ts i) s < 0
    · have hc' : ¬ 0 ≤ cmpZ (nth ts i) s := by omega
      simp -implicitDefEqProofs (disch := omega) [g1, g6, g7, g15, g16, g17, ht, ho, hlo, h, e1, c1, c1', cd, wd, c_Compare, k_Compare, r1, r2, hcz, hc, hc', wrap_small]
      rw [hI]
      refine ⟨fun j hj2 => ?_, by simp [g1], by simp [g6], by simp [g7], by simp [g15], by simp [g16], by simp, by simp, by simp, by simp⟩
      rcases Nat.lt_or_ge j i with q | q
      · exact hj j q
      · obtain rfl : j = i := by omega
        exact hc
    · have hc' : 0 ≤ cmpZ (nth ts i) s := by omega
      have hst := ahead_stop (s := s) (ts := ts) (i := i) hi hj (.inr hc)
      simp -implicitDefEqProofs (disch := omega) [g1, g6, g7, g15, g16, g17, ht, ho, hlo, h, e1, c1, c1', cd, wd, c_Compare, k_Compare, r1, r2, hcz, hc', hst]
  · obtain rfl : i = ts.length := by omega
    have hst := ahead_stop (s := s) (ts := ts) (i := ts.length) hi hj (.inl rfl)
    simp -implicitDefEqProofs (disch := omega) [g1, g6, g7, g15, g16, g17, ht, ho, hlo, d4, hst])

end Go.Proofs.Ytjjldepikokogaa.B
set_option maxRecDepth 20000
set_option maxHeartbeats 1000000
namespace Go.Proofs.Ytjjldepikokogaa.B
open Go Go.Ab
noncomputable def k_PrefixSeeks : Ab.Spec := con2 (ofList (ofInts .u8)) (ofInts .u8) fun ss s objs => match objs with | [] => bnd ss.length 140737488355328 (if shortT ss = true ∧ b8T ss = true ∧ b8 s = true then some (.bool true, none) else none) | _ => none
noncomputable def T_PrefixSeeks : CallF := withF T_pSeek 6 k_PrefixSeeks
theorem T_PrefixSeeks_ok : CallOk Try.prog T_PrefixSeeks := con_of (A := annOf [] [] [] false []) fit T_pSeek_ok (fn := Try.f6) (by kernel_rfl) (by kernel_rfl) (by
  intro args objs r h0
  have c_alive : ∀ a o, T_pSeek 7 a o = k_alive a o := fun _ _ => rfl
  have c_Index10 : ∀ a o, T_pSeek 23 a o = k_Index10 a o := fun _ _ => rfl
  have c_pEncode : ∀ a o, T_pSeek 9 a o = k_pEncode a o := fun _ _ => rfl
  have c_pSeek : ∀ a o, T_pSeek 16 a o = k_pSeek a o := fun _ _ => rfl
  have c_Order : ∀ a o, T_pSeek 24 a o = k_Order a o := fun _ _ => rfl
  obtain ⟨v, w, ss, s, rfl, ha, hb, hR⟩ := con2_inv h0
  split at hR
  case h_2 => cases hR
  obtain ⟨hl, hR⟩ := bnd_inv hR
  split at hR
  case isFalse => cases hR
  rename_i hc
  obtain ⟨hall, h8s, h8⟩ := hc
  cases hR
  obtain ⟨vd, vn, -⟩ := tx ha
  obtain ⟨wd, -⟩ := bs hb
  refine .go _ rfl rfl ?_
  by_cases hbad : encBad ss = true
  · have n1 : ofList (ofInts .u8) V.nils = some [] := rfl
    have n2 : encBad [] = false := rfl
    have n3 : shortT [] = true := rfl
    simp -implicitDefEqProofs (disch := omega) [c_alive, k_alive, c_Index10, k_Index10, c_pEncode, k_pEncode, vd, ha, hall, hbad, n1, n2, n3]
  have hbad : encBad ss = false := by simpa using hbad
  obtain ⟨n1, n2⟩ := not_bad hbad
  obtain ⟨i1, i2, i3⟩ := idx_facts ss ss.length (Nat.le_refl _)
  obtain ⟨E, hE⟩ : ∃ E, E = idxX ss := ⟨_, rfl⟩
  have hE' : idx ss ss.length = E := hE.symm
  rw [hE'] at i1 i2 i3
  have hE200 : ∀ i, i < E.length → (nth E i).length ≤ 200 := fun i hi => by
    obtain ⟨j, hj, e⟩ := nth_of_mem (i3 _ (nth_mem hi))
    rw [← e]; exact n2 j hj
  have hEbad : encBad E = false := by
    unfold encBad
    simp only [Bool.or_eq_false_iff, decide_eq_false_iff_not, List.any_eq_false, decide_eq_true_eq]
    refine ⟨by omega, fun t ht => ?_⟩
    obtain ⟨j, hj, rfl⟩ := nth_of_mem ht
    have := hE200 j hj; omega
  have hEs : shortT E = true := shortT_iff.2 fun t ht => by
    obtain ⟨j, hj, rfl⟩ := nth_of_mem ht
    have := hE200 j hj; omega
  obtain ⟨q1, q2⟩ := not_bad hEbad
  have hl2 := encT_len q1 E.length q2
  have hl3 : (encP E).length ≤ 10 + 220 * E.length := hl2
  obtain ⟨d1, d2, -⟩ := dec_enc q1 q2
  have p8 : b8 (encP E) = true := encP_bytes fun t ht => b8T_iff.1 h8s t (i3 t ht)
  have e1 : ofInts .u8 (.lst .frozen (ints .u8 (encP E)) (encP E).length) = some (encP E) := ofInts_lst rfl
  have e2 := txV_of (ss := E) rfl
  have hr := txV_refs E 0
  have ha1 := ahead_le E s
  have ha2 : ¬ E.length < aheadN E s := by omega
  obtain ⟨ud, un, ui, uc⟩ := txx E
  have r2 : ∀ O, ofIntsR .u8 O w = some s := fun O => ofIntsR_of hb
  obtain ⟨n, hn⟩ : ∃ n, n = aheadN E s := ⟨_, rfl⟩
  have hsr := fun i (hi : i < E.length) => ahead_srt (s := s) i1 hi
  rw [← hn] at ha1 ha2 hsr
  simp -implicitDefEqProofs (disch := omega) [c_alive, k_alive, c_Index10, k_Index10, c_pEncode, k_pEncode, c_pSeek, k_pSeek, vd, wd, ha, hb, hall, hbad, ← hE, e1, e2, hEbad, hEs, d1, d2, p8, h8, un, ← hn, ha2]
  obtain ⟨u, hu⟩ : ∃ u, u = V.lst .frozen (txV E) E.length := ⟨_, rfl⟩
  obtain ⟨I, hI⟩ : ∃ I : Nat → St → Prop, I = (fun (i : Nat) (s' : St) => s'.env 1 = w ∧ s'.env 10 = .int .i64 n ∧ s'.env 51 = .lst .frozen (txV E) E.length ∧ s'.env 52 = .int .i64 E.length ∧ s'.env 53 = .int .i64 i ∧ s'.toks = [] ∧ s'.objs = [] ∧ s'.low = 0) := ⟨_, rfl⟩
  refine .up E.length I (by rw [hI]; exact ⟨by simp, by simp, by simp, by simp, by simp, by simp, by simp, by simp⟩) ?_
  intro i s' hi hs
  rw [hI] at hs
  obtain ⟨g1, g10, g51, g52, g53, ht, ho, hlo⟩ := hs
  rcases Nat.lt_or_ge i E.length with h | h
  · obtain ⟨c1, c1'⟩ := uc i h
    have i1 := ui .i64 i (by omega) (by omega)
    rw [Int.toNat_natCast] at i1
    have r1 : ∀ O, ofIntsR .u8 O (.lst .frozen (ints .u8 (nth E i)) (nth E i).length) = some (nth E i) := fun O => ofIntsR_of (ofInts_lst rfl)
    have hL := hE200 i h
    by_cases hc : i < n
    · have hc2 := (hsr i h).2 hc
      simp -implicitDefEqProofs (disch := omega) [g1, g10, g51, g52, g53, ht, ho, hlo, h, i1, c1, c1', wd, c_Order, k_Order, r1, r2, hL, hc, hc2, wrap_small]
      rw [hI]
      exact ⟨by simp [g1], by simp [g10], by simp [g51], by simp [g52], by simp, by simp, by simp, by simp⟩
    · have hc2 : ¬ cmpZ (nth E i) s < 0 := fun q => hc ((hsr i h).1 q)
      simp -implicitDefEqProofs (disch := omega) [g1, g10, g51, g52, g53, ht, ho, hlo, h, i1, c1, c1', wd, c_Order, k_Order, r1, r2, hL, hc, hc2, wrap_small]
      rw [hI]
      exact ⟨by simp [g1], by simp [g10], by simp [g51], by simp [g52], by simp, by simp, by simp, by simp⟩
  · obtain rfl : i = E.length := by omega
    simp -implicitDefEqProofs (disch := omega) [g1, g10, g51, g52, g53, ht, ho, hlo])
theorem walk_PrefixSeeks {D M n : Nat} {vs : List V} {args : Array Value} {W : World} (hS : ShpAll Try.prog D M n [22, 25] vs) (hA : AR (top W) W vs args.toList) : Calls Try.prog 6 args W fun e W' => e = .returned (.bool true) ∧ Go.RowKit.Below W.heap.size W W' := by
  match vs, hS with
  | [v0, v1], ⟨s0, s1, _⟩ =>
    obtain ⟨ss, d0, b0, n0, -⟩ := in_texts s0
    obtain ⟨b, d1, b1, n1, -⟩ := in_bytes s1
    have hall : shortT ss = true := shortT_iff.2 fun s hs => (by have := (b0 s hs).2.1; omega)
    have h8 : b8T ss = true := b8T_iff.2 fun s hs => (b0 s hs).1
    refine whole fit T_PrefixSeeks_ok (fn := Try.f6) (by kernel_rfl) (by kernel_rfl) ?_ hA
    show k_PrefixSeeks [v0, v1] [] = _
    simp (disch := omega) [k_PrefixSeeks, d0, d1, b1, hall, h8]

end Go.Proofs.Ytjjldepikokogaa.B
set_option maxRecDepth 20000
set_option maxHeartbeats 1000000
namespace Go.Proofs.Ytjjldepikokogaa.B
open Go Go.Ab
def rtxV (t : Txt) : V := if t.err ≠ 0 then .nils else .lst .frozen (ints .u8 t.s) t.s.length
noncomputable def k_rtext : Ab.Spec := con4 (ofInts .u8) (ofInt .i64) (ofInts .u8) ofBool fun b p last whole _ => bnd b.length 140737488352000 (if b8 b = true ∧ last.length ≤ 200 then some (.tup [rtxV (textZ b last p whole), .int .i64 (textZ b last p whole).next, .int .i64 (textZ b last p whole).err], none) else none)
noncomputable def T_rtext : CallF := withF T_PrefixSeeks 36 k_rtext
theorem T_rtext_ok : CallOk Try.prog T_rtext := con_of (A := annOf [] [] [] false []) fit T_PrefixSeeks_ok (fn := Try.f36) (by kernel_rfl) (by kernel_rfl) (by
  intro args objs r h0
  have c_RGet : ∀ a o, T_PrefixSeeks 35 a o = k_RGet a o := fun _ _ => rfl
  have c_Piece : ∀ a o, T_PrefixSeeks 41 a o = k_Piece a o := fun _ _ => rfl
  have c_Cat : ∀ a o, T_PrefixSeeks 20 a o = k_Cat a o := fun _ _ => rfl
  have c_rsame : ∀ a o, T_PrefixSeeks 29 a o = k_rsame a o := fun _ _ => rfl
  obtain ⟨v, _, lv, _, b, p, last, whole, rfl, ha, hp, hla, hw, hR⟩ := con4_inv h0
  obtain rfl := ofInt_inv hp
  obtain rfl := ofBool_inv hw
  obtain ⟨hl, hR⟩ := bnd_inv hR
  split at hR
  case isFalse => cases hR
  rename_i hc
  obtain ⟨h8, h200⟩ := hc
  cases hR
  have hBy := b8_bytes h8
  obtain ⟨vd, vn, vi, -⟩ := bs ha
  obtain ⟨ld, ln, -⟩ := bs hla
  refine .go _ rfl rfl ?_
  obtain ⟨k, n1, e1, hg1⟩ : ∃ k n1 e1, M.getR b p = (k, n1, e1) := ⟨_, _, _, rfl⟩
  have gv1 : getVR b p = some (.tup [.int .u64 k, .int .i64 n1, .int .i64 e1], none) := by unfold getVR; rw [hg1]
  by_cases he1 : e1 = 0
  case neg =>
    have ht := textZ_e1 (last := last) (whole := whole) hg1 he1
    have he1' : (e1 != 0) = true := by simpa using he1
    simp -implicitDefEqProofs (disch := omega) [vd, ld, ha, c_RGet, k_RGet, h8, gv1, ht, Txt.bad, rtxV, he1, he1']
  subst he1
  obtain ⟨g1, g2, g3, g4, g5, g6, g7⟩ := M.getR_ok hBy hg1
  obtain ⟨m, to, e2, hg2⟩ : ∃ m to e2, M.getR b n1 = (m, to, e2) := ⟨_, _, _, rfl⟩
  have gv2 : getVR b n1 = some (.tup [.int .u64 m, .int .i64 to, .int .i64 e2], none) := by unfold getVR; rw [hg2]
  by_cases he2 : e2 = 0
  case neg =>
    have ht := textZ_e2 (last := last) (whole := whole) hg1 hg2 he2
    have he2' : (e2 != 0) = true := by simpa using he2
    simp -implicitDefEqProofs (disch := omega) [vd, ld, ha, c_RGet, k_RGet, h8, gv1, gv2, ht, Txt.bad, rtxV, he2, he2']
  subst he2
  obtain ⟨f1, f2, f3, f4, f5, f6, f7⟩ := M.getR_ok hBy hg2
  have ht := textZ_ok (last := last) (whole := whole) hg1 hg2
  obtain ⟨K, rfl⟩ := Int.eq_ofNat_of_zero_le g5
  obtain ⟨m', rfl⟩ := Int.eq_ofNat_of_zero_le f5
  obtain ⟨t', rfl⟩ := Int.eq_ofNat_of_zero_le (show 0 ≤ to by omega)
  simp only [Int.toNat_natCast] at ht
  have wl : IntKind.u64.wrap (last.length : Int) = last.length := wrap_u64 (by omega) (by omega)
  by_cases cA : last.length < K
  · have hW : textW b last whole K m' t' = .bad 5 := by unfold textW; rw [if_pos (.inl cA)]
    rw [hW] at ht
    simp -implicitDefEqProofs (disch := omega) [vd, ld, ln, ha, c_RGet, k_RGet, h8, gv1, gv2, ht, Txt.bad, rtxV, convV, wl, cA]
  by_cases cB : whole = true ∧ 0 < K
  · obtain ⟨rfl, cB⟩ := cB
    have hW : textW b last true K m' t' = .bad 5 := by unfold textW; rw [if_pos (.inr ⟨rfl, cB⟩)]
    rw [hW] at ht
    simp -implicitDefEqProofs (disch := omega) [vd, ld, ln, ha, c_RGet, k_RGet, h8, gv1, gv2, ht, Txt.bad, rtxV, convV, wl, cA, cB]
  have hnc : ¬ (last.length < K ∨ whole = true ∧ 0 < K) := fun q => q.elim cA cB
  by_cases cC : 200 < m' + K
  · have hW : textW b last whole K m' t' = .bad 4 := by unfold textW; rw [if_neg hnc, if_pos cC]
    rw [hW] at ht
    by_cases cM : 200 < m'
    · cases whole with
      | true =>
        have cK : ¬ 0 < K := fun q => cB ⟨rfl, q⟩
        simp -implicitDefEqProofs (disch := omega) [vd, ld, ln, ha, c_RGet, k_RGet, h8, gv1, gv2, ht, Txt.bad, rtxV, convV, wl, cA, cK, cM]
      | false => simp -implicitDefEqProofs (disch := omega) [vd, ld, ln, ha, c_RGet, k_RGet, h8, gv1, gv2, ht, Txt.bad, rtxV, convV, wl, cA, cM]
    · have w2 : IntKind.u64.wrap ((K : Int) + m') = (K : Int) + m' := wrap_u64 (by omega) (by omega)
      have cC' : (200 : Int) < (K : Int) + m' := by omega
      have cC2 : 200 < K + m' := by omega
      cases whole with
      | true =>
        have cK : ¬ 0 < K := fun q => cB ⟨rfl, q⟩
        omega
      | false => simp -implicitDefEqProofs (disch := omega) [vd, ld, ln, ha, c_RGet, k_RGet, h8, gv1, gv2, ht, Txt.bad, rtxV, convV, wl, cA, cM, w2, cC', cC2]
  have cM : ¬ 200 < m' := by omega
  have w2 : IntKind.u64.wrap ((K : Int) + m') = (K : Int) + m' := wrap_u64 (by omega) (by omega)
  have cC' : ¬ (200 : Int) < (K : Int) + m' := by omega
  have wbl : IntKind.i64.wrap ((b.length : Int) - t') = ((b.length - t' : Nat) : Int) := by rw [wrap_small (by omega) (by omega)]; omega
  have wbu : IntKind.u64.wrap ((b.length - t' : Nat) : Int) = ((b.length - t' : Nat) : Int) := wrap_u64 (by omega) (by omega)
  by_cases cD : b.length < t' + m'
  · have hW : textW b last whole K m' t' = .bad 2 := by unfold textW; rw [if_neg hnc, if_neg cC, if_pos cD]
    rw [hW] at ht
    have cD2 : b.length - t' < m' := by omega
    cases whole with
    | true =>
      have cK : ¬ 0 < K := fun q => cB ⟨rfl, q⟩
      simp -implicitDefEqProofs (disch := omega) [vd, ld, ln, ha, c_RGet, k_RGet, h8, gv1, gv2, ht, Txt.bad, rtxV, convV, wl, cA, cK, cM, w2, cC', vn, wbl, wbu, cD2]
    | false => simp -implicitDefEqProofs (disch := omega) [vd, ld, ln, ha, c_RGet, k_RGet, h8, gv1, gv2, ht, Txt.bad, rtxV, convV, wl, cA, cM, w2, cC', vn, wbl, wbu, cD2]
  have cD2 : ¬ b.length - t' < m' := by omega
  have wm : IntKind.i64.wrap (m' : Int) = m' := wrap_small (by omega) (by omega)
  have wk : IntKind.i64.wrap (K : Int) = K := wrap_small (by omega) (by omega)
  have wtm : IntKind.i64.wrap ((t' : Int) + m') = (t' : Int) + m' := wrap_small (by omega) (by omega)
  have lt1 : (t' : Int) < 9223372036854775807 := by omega
  have p1 : pieceZ last 0 (K : Int) = last.take K := by
    have := piece_eq last 0 K K (by omega)
    simpa using this
  have p2 : pieceZ b (t' : Int) ((t' : Int) + m') = (b.drop t').take m' := by
    have := piece_eq b t' m' (t' + m') rfl
    rwa [Int.natCast_add] at this
  have hSl := textS_len (b := b) (last := last) (k := K) (m := m') (to := t') (by omega) (by omega)
  obtain ⟨X, hX⟩ : ∃ X, X = (b.drop t').take m' := ⟨_, rfl⟩
  have hXl : X.length = m' := by rw [hX]; simp; omega
  rw [← hX] at p2
  obtain ⟨Y, hY⟩ : ∃ Y, Y = last.take K := ⟨_, rfl⟩
  have hYl : Y.length = K := by rw [hY]; simp; omega
  rw [← hY] at p1
  have hSX : textS b last K m' t' = Y ++ X := by rw [hX, hY]; rfl
  obtain ⟨S, hS⟩ : ∃ S, S = Y ++ X := ⟨_, rfl⟩
  rw [← hS] at hSX
  have hSl2 : S.length = K + m' := by rw [← hSX]; exact hSl
  have eX : ofInts .u8 (.lst .frozen (ints .u8 X) m') = some X := ofInts_lst (by rw [hXl])
  have eY : ofInts .u8 (.lst .frozen (ints .u8 Y) K) = some Y := ofInts_lst (by rw [hYl])
  have eS : ∀ O : List AO, ofIntsR .u8 O (.lst .frozen (ints .u8 S) (K + m')) = some S := fun O => ofIntsR_of (ofInts_lst (by rw [hSl2]))
  have eL : ∀ O : List AO, ofIntsR .u8 O lv = some last := fun O => ofIntsR_of hla
  have hge := shared_ge (last := last) (x := X) (k := K) (by omega)
  rw [← hY, ← hS] at hge
  cases whole with
  | true =>
    have cK : ¬ 0 < K := fun q => cB ⟨rfl, q⟩
    have hW : textW b last true K m' t' = ⟨S, ((t' + m' : Nat) : Int), 0⟩ := by
      unfold textW
      rw [if_neg hnc, if_neg cC, if_neg cD, hSX, if_neg (fun q => by cases q.1)]
    rw [hW] at ht
    simp -implicitDefEqProofs (disch := omega) [vd, ld, ln, ha, hla, c_RGet, k_RGet, h8, gv1, gv2, ht, rtxV, convV, wl, cA, cK, cM, w2, cC', vn, wbl, wbu, cD2, wm, wk, wtm, c_Piece, k_Piece, lt1, p1, p2, c_Cat, k_Cat, eX, eY, hXl, hYl, ← hS, hSl2]
  | false =>
    by_cases hsh : sharedN last S = K
    · have hW : textW b last false K m' t' = ⟨S, ((t' + m' : Nat) : Int), 0⟩ := by
        unfold textW
        rw [if_neg hnc, if_neg cC, if_neg cD, hSX, if_neg (fun q => q.2 hsh)]
      rw [hW] at ht
      simp -implicitDefEqProofs (disch := omega) [vd, ld, ln, ha, hla, c_RGet, k_RGet, h8, gv1, gv2, ht, rtxV, convV, wl, cA, cM, w2, cC', vn, wbl, wbu, cD2, wm, wk, wtm, c_Piece, k_Piece, lt1, p1, p2, c_Cat, k_Cat, eX, eY, hXl, hYl, ← hS, hSl2, c_rsame, k_rsame, eS, eL, hsh]
    · have hW : textW b last false K m' t' = .bad 5 := by
        unfold textW
        rw [if_neg hnc, if_neg cC, if_neg cD, hSX, if_pos ⟨rfl, hsh⟩]
      rw [hW] at ht
      have hgt : K < sharedN last S := by omega
      simp -implicitDefEqProofs (disch := omega) [vd, ld, ln, ha, hla, c_RGet, k_RGet, h8, gv1, gv2, ht, Txt.bad, rtxV, convV, wl, cA, cM, w2, cC', vn, wbl, wbu, cD2, wm, wk, wtm, c_Piece, k_Piece, lt1, p1, p2, c_Cat, k_Cat, eX, eY, hXl, hYl, ← hS, hSl2, c_rsame, k_rsame, eS, eL, hgt])

end Go.Proofs.Ytjjldepikokogaa.B
set_option maxRecDepth 20000
set_option maxHeartbeats 1000000
namespace Go.Proofs.Ytjjldepikokogaa.B
open Go Go.Ab
def rdecV (b : List Int) : V := if decErr b = 0 then .lst (.fresh 1 false) (txV (decTs b)) (decTs b).length else .nils
noncomputable def k_rDecode : Ab.Spec := con1 (ofInts .u8) fun b _ => bnd b.length 140737488352000 (if b8 b = true then some (.tup [rdecV b, .int .i64 (decErr b)], none) else none)
noncomputable def T_rDecode : CallF := withF T_rtext 15 k_rDecode
theorem T_rDecode_ok : CallOk Try.prog T_rDecode := con_of (A := annOf [24] [] [] false []) fit T_rtext_ok (fn := Try.f15) (by kernel_rfl) (by kernel_rfl) (by
  intro args objs r h0
  have c_RGet : ∀ a o, T_rtext 35 a o = k_RGet a o := fun _ _ => rfl
  have c_rtext : ∀ a o, T_rtext 36 a o = k_rtext a o := fun _ _ => rfl
  obtain ⟨v, b, rfl, ha, hR⟩ := con1_inv h0
  obtain ⟨hl, hR⟩ := bnd_inv hR
  split at hR
  case isFalse => cases hR
  rename_i h8
  cases hR
  have hBy := b8_bytes h8
  obtain ⟨vd, vn, vi, -⟩ := bs ha
  refine .go _ rfl rfl ?_
  obtain ⟨n, p0, e, hg⟩ : ∃ n p0 e, M.getR b 0 = (n, p0, e) := ⟨_, _, _, rfl⟩
  have gv : getVR b 0 = some (.tup [.int .u64 n, .int .i64 p0, .int .i64 e], none) := by unfold getVR; rw [hg]
  by_cases he : e = 0
  case neg =>
    have he' : (e != 0) = true := by simpa using he
    have hd := decErr_e hg he
    have hrv : rdecV b = .nils := by unfold rdecV; rw [hd, if_neg he]
    simp -implicitDefEqProofs (disch := omega) [vd, ha, c_RGet, k_RGet, h8, gv, hd, hrv, he, he']
  subst he
  obtain ⟨g1, g2, g3, g4, g5, g6, -⟩ := M.getR_ok hBy hg
  have hde := decErr_of hg
  by_cases hbig : 4096 < n
  · rw [if_pos hbig] at hde
    have hrv : rdecV b = .nils := by unfold rdecV; rw [hde]; rfl
    simp -implicitDefEqProofs (disch := omega) [vd, ha, c_RGet, k_RGet, h8, gv, hde, hrv, hbig]
  rw [if_neg hbig] at hde
  obtain ⟨N, rfl⟩ := Int.eq_ofNat_of_zero_le g5
  rw [Int.toNat_natCast] at hde
  have hbig' : ¬ 4096 < N := by omega
  have e0 := llit0
  have b0 : listV Try.prog 25 0 [] = some ([], 1) := by simp [listV, fillV, zeros]
  simp -implicitDefEqProofs (disch := omega) [vd, ha, c_RGet, k_RGet, h8, gv, hbig', e0, b0]
  obtain ⟨I, hI⟩ : ∃ I : Nat → St → Prop, I = (fun (i : Nat) (s : St) => (decI b p0 i).err = 0 ∧ s.env 0 = v ∧ s.env 4 = .int .u64 N ∧ s.env 9 = .int .u64 i ∧ s.env 5 = .int .i64 (decI b p0 i).p ∧ (∃ K, s.env 8 = .lst K (ints .u8 (decI b p0 i).last) (decI b p0 i).last.length) ∧ s.objs = objs ∧ s.low = objs.length ∧ s.env 7 = .lst (.tok 0 1) (txV (decI b p0 i).ts) i ∧ s.toks = [i]) := ⟨_, rfl⟩
  refine .up N I (by rw [hI]; exact ⟨rfl, by simp, by simp, by simp, by simp [decI], ⟨_, by simp [decI, ints]; rfl⟩, by simp, by simp, by simp [decI, txV], by simp⟩) ?_
  intro i s hi hs
  rw [hI] at hs
  obtain ⟨he, g0, g23, g24, g5', ⟨K, g8⟩, ho, hlo, g7, ht0⟩ := hs
  obtain ⟨f1, f2, f3, f4, f5, f6⟩ := decI_facts (b := b) (p0 := p0) ⟨by omega, by omega⟩ i he
  obtain ⟨D, hD⟩ : ∃ D, D = decI b p0 i := ⟨_, rfl⟩
  rcases Nat.lt_or_ge i N with h | h
  · have hmod : (((i : Int).tmod 16) == 0) = decide (i % 16 = 0) := by
      rw [Int.tmod_eq_emod_of_nonneg (by omega)]
      by_cases q : i % 16 = 0
      · rw [decide_eq_true q]; simp; omega
      · rw [decide_eq_false q]; simp; omega
    have hmod2 : decide ((i : Int) % 16 = 0) = decide (i % 16 = 0) := decide_eq_decide.2 (by omega)
    have hmod3 : (((i : Int) % 16) == 0) = decide (i % 16 = 0) := by
      by_cases q : i % 16 = 0
      · rw [decide_eq_true q]; simp; omega
      · rw [decide_eq_false q]; simp; omega
    have hmod4 : ((i : Int) % 16 = 0) = (i % 16 = 0) := propext (by omega)
    by_cases ht : (textZ b (decI b p0 i).last (decI b p0 i).p (decide (i % 16 = 0))).err = 0
    · have hok := decI_ok he ht
      obtain ⟨t1, t2, t3⟩ := textZ_len ht
      rw [← hD] at ht hok t1 t2 t3 g5' g8 g7 f1 f2 f3 f4
      obtain ⟨Z, hZ⟩ : ∃ Z, Z = textZ b D.last D.p (decide (i % 16 = 0)) := ⟨_, rfl⟩
      rw [← hZ] at ht hok t1 t2 t3
      have eL : ofInts .u8 (.lst .frozen (ints .u8 D.last) D.last.length) = some D.last := ofInts_lst rfl
      have htx : rtxV Z = .lst .frozen (ints .u8 Z.s) Z.s.length := by unfold rtxV; rw [if_neg (by simp [ht])]
      have l1 := llit1 (txc Z.s).1 (txc Z.s).2
      have cs := txV_snoc D.ts Z.s
      have clen := txV_len D.ts
      have wi1 : IntKind.u64.wrap ((i : Int) + 1) = (i : Int) + 1 := wrap_u64 (by omega) (by omega)
      simp -implicitDefEqProofs (disch := omega) [g0, g23, g24, g5', g8, g7, ht0, ho, hlo, vd, ha, h, c_rtext, k_rtext, eL, h8, f2, hmod, hmod2, hmod3, hmod4, ← hZ, ht, htx, l1, cs, clen, f1, wi1, Nat.mod_one]
      rw [hI]
      exact ⟨by rw [hok], by simp [g0], by simp [g23], by simp, by simp [hok], ⟨_, by simp [hok]; rfl⟩, by simp, by simp, by simp [hok], by simp⟩
    · have hbad := decI_bad he ht h
      have hn0 := textZ_bad ht
      rw [← hD] at ht hbad g5' g8 g7 f2 hn0
      obtain ⟨Z, hZ⟩ : ∃ Z, Z = textZ b D.last D.p (decide (i % 16 = 0)) := ⟨_, rfl⟩
      rw [← hZ] at ht hbad hn0
      have hde2 : decErr b = Z.err := by rw [hde, if_pos (by rw [hbad]; exact ht), hbad]
      have hrv : rdecV b = .nils := by unfold rdecV; rw [hde2, if_neg ht]
      have ht' : (Z.err != 0) = true := by simpa using ht
      have htx : rtxV Z = .nils := by unfold rtxV; rw [if_pos ht]
      have eL : ofInts .u8 (.lst .frozen (ints .u8 D.last) D.last.length) = some D.last := ofInts_lst rfl
      simp -implicitDefEqProofs (disch := omega) [g0, g23, g24, g5', g8, g7, ht0, ho, hlo, vd, ha, h, c_rtext, k_rtext, eL, h8, f2, hmod, hmod2, hmod3, hmod4, ← hZ, ht, ht', htx, hn0, hde2, hrv]
  · obtain rfl : i = N := by omega
    rw [if_neg (by simp [he])] at hde
    by_cases hlt : (decI b p0 i).p < b.length
    · rw [if_pos hlt] at hde
      have hrv : rdecV b = .nils := by unfold rdecV; rw [hde]; rfl
      simp -implicitDefEqProofs (disch := omega) [g0, g23, g24, g5', g8, g7, ht0, ho, hlo, vn, hlt, hde, hrv]
    · rw [if_neg hlt] at hde
      have hts := decTs_of hg hde
      rw [Int.toNat_natCast] at hts
      have hrv : rdecV b = .lst (.fresh 1 false) (txV (decI b p0 i).ts) i := by unfold rdecV; rw [hde, if_pos rfl, hts, f1]
      have hr := txV_refs (decI b p0 i).ts objs.length
      have clen := txV_len (decI b p0 i).ts
      simp -implicitDefEqProofs (disch := omega) [g0, g23, g24, g5', g8, g7, ht0, ho, hlo, vn, hlt, hde, hrv, hr, clen, f1])
theorem rdecV_dem (b : List Int) : demote (rdecV b) = if decErr b = 0 then .lst .frozen (txV (decTs b)) (decTs b).length else .nils := by unfold rdecV; split <;> rfl
def seekN (b s : List Int) : Int := if decErr b = 0 then (aheadN (decTs b) s : Int) else 0
theorem seekN_eq (b s : List Int) : seekN b s = aheadN (decTs b) s := by
  unfold seekN
  split
  · rfl
  · rename_i h; rw [decTs_bad h]; rfl
noncomputable def k_rSeek : Ab.Spec := con2 (ofInts .u8) (ofInts .u8) fun b s _ => bnd b.length 140737488352000 (if b8 b = true ∧ b8 s = true then some (.tup [.int .i64 (aheadN (decTs b) s), .int .i64 (decErr b)], none) else none)
noncomputable def T_rSeek : CallF := withF T_rDecode 17 k_rSeek
theorem T_rSeek_ok : CallOk Try.prog T_rSeek := con_of (A := annOf [] [] [] false []) fit T_rDecode_ok (fn := Try.f17) (by kernel_rfl) (by kernel_rfl) (by
  intro args objs r h0
  have c_rDecode : ∀ a o, T_rDecode 15 a o = k_rDecode a o := fun _ _ => rfl
  have c_Order : ∀ a o, T_rDecode 24 a o = k_Order a o := fun _ _ => rfl
  obtain ⟨v, w, b, s, rfl, ha, hb, hR⟩ := con2_inv h0
  obtain ⟨hl, hR⟩ := bnd_inv hR
  split at hR
  case isFalse => cases hR
  rename_i hc
  obtain ⟨h8, h8s⟩ := hc
  cases hR
  have hB := b8_bytes h8
  obtain ⟨vd, -⟩ := bs ha
  obtain ⟨wd, -⟩ := bs hb
  refine .go _ rfl rfl ?_
  by_cases he : decErr b = 0
  case neg =>
    have hrv : rdecV b = .nils := by unfold rdecV; rw [if_neg he]
    have he' : (decErr b != 0) = true := by simpa using he
    have hz : aheadN (decTs b) s = 0 := by rw [decTs_bad he]; rfl
    simp -implicitDefEqProofs (disch := omega) [vd, ha, c_rDecode, k_rDecode, h8, hrv, he, he', hz]
  have hrv : rdecV b = .lst (.fresh 1 false) (txV (decTs b)) (decTs b).length := by unfold rdecV; rw [if_pos he]
  have hlen : (decTs b).length < 1000000 := by have := (not_bad (enc_dec hB he).1).1; omega
  have h200 := (not_bad (enc_dec hB he).1).2
  obtain ⟨ts, hts⟩ : ∃ ts, ts = decTs b := ⟨_, rfl⟩
  rw [← hts] at hrv hlen h200 ⊢
  obtain ⟨-, un, ui, uc⟩ := txx ts
  have r2 : ∀ O, ofIntsR .u8 O w = some s := fun O => ofIntsR_of hb
  simp -implicitDefEqProofs (disch := omega) [vd, ha, c_rDecode, k_rDecode, h8, hrv, he]
  obtain ⟨I, hI⟩ : ∃ I : Nat → St → Prop, I = (fun (i : Nat) (s' : St) => (∀ j, j < i → cmpZ (nth ts j) s < 0) ∧ s'.env 1 = w ∧ s'.env 6 = .lst .frozen (txV ts) ts.length ∧ s'.env 8 = .int .i64 i ∧ s'.toks = [] ∧ s'.objs = objs ∧ s'.low = objs.length) := ⟨_, rfl⟩
  refine .up ts.length I (by rw [hI]; exact ⟨by omega, by simp, by simp, by simp, by simp, by simp, by simp⟩) ?_
  intro i s' hi hs
  rw [hI] at hs
  obtain ⟨hj, g1, g6, g8, ht, ho, hlo⟩ := hs
  rcases Nat.lt_or_ge i ts.length with h | h
  · obtain ⟨c1, c1'⟩ := uc i h
    have i1 := ui .i64 i (by omega) (by omega)
    rw [Int.toNat_natCast] at i1
    have r1 : ∀ O, ofIntsR .u8 O (.lst .frozen (ints .u8 (nth ts i)) (nth ts i).length) = some (nth ts i) := fun O => ofIntsR_of (ofInts_lst rfl)
    have hL := h200 i h
    by_cases hc : cmpZ (nth ts i) s < 0
    · simp -implicitDefEqProofs (disch := omega) [g1, g6, g8, ht, ho, hlo, h, un, i1, c1, c1', wd, c_Order, k_Order, r1, r2, hL, hc, wrap_small]
      rw [hI]
      refine ⟨fun j hj2 => ?_, by simp [g1], by simp [g6], by simp, by simp, by simp, by simp⟩
      rcases Nat.lt_or_ge j i with q | q
      · exact hj j q
      · obtain rfl : j = i := by omega
        exact hc
    · have hst := ahead_stop (s := s) (ts := ts) (i := i) hi hj (.inr hc)
      simp -implicitDefEqProofs (disch := omega) [g1, g6, g8, ht, ho, hlo, h, un, i1, c1, c1', wd, c_Order, k_Order, r1, r2, hL, hc, hst]
  · obtain rfl : i = ts.length := by omega
    have hst := ahead_stop (s := s) (ts := ts) (i := ts.length) hi hj (.inl rfl)
    simp -implicitDefEqProofs (disch := omega) [g1, g6, g8, ht, ho, hlo, un, hst])

end Go.Proofs.Ytjjldepikokogaa.B
set_option maxRecDepth 20000
set_option maxHeartbeats 1000000
namespace Go.Proofs.Ytjjldepikokogaa.B
open Go Go.Ab
def lstW (us : List V) : V := if us = [] then .nils else .lst .frozen us us.length
def p_DecodeK : List V → List AO → Rs → Prop := fun args objs r => match args with | [v] => ∃ b us o2 low, ofInts .u8 v = some b ∧ r = (.tup [lstW us, .int .i64 (decErr b)], some (objs ++ o2, low)) ∧ Held (objs ++ o2) us (decTs b) ∧ ∀ u, u ∈ us → ∀ id, idOf u = some id → objs.length ≤ id | _ => False
noncomputable def k_DecodeK : Ab.Spec := relF (fun a o r => p_DecodeK a o r ∧ EndsW Try.prog (annOf [] [] [(34, [.ref])] true []) T_rSeek 14 Try.f14 a o r)
noncomputable def T_DecodeK : CallF := withF T_rSeek 14 k_DecodeK
theorem T_DecodeK_ok : CallOk Try.prog T_DecodeK := con_ofW (A := annOf [] [] [(34, [.ref])] true []) fit T_rSeek_ok (fn := Try.f14) (by kernel_rfl) (by kernel_rfl) (fun args objs r h0 => (relF_inv h0).2)
theorem s_DecodeK  {objs : List AO} {v : V} {b : List Int} (ha : ofInts .u8 v = some b) (hl : b.length < 140737488352000) (h8 : b8 b = true) : ∃ r, k_DecodeK [v] objs = some r ∧ p_DecodeK [v] objs r := by
  have c_VGet : ∀ a o, T_rSeek 33 a o = k_VGet a o := fun _ _ => rfl
  have c_ptext : ∀ a o, T_rSeek 34 a o = k_ptext a o := fun _ _ => rfl
  have hBy := b8_bytes h8
  obtain ⟨vd, vn, vi, -⟩ := bs ha
  refine rel_goT _ rfl rfl ?_
  obtain ⟨n, p0, e, hg⟩ : ∃ n p0 e, M.getR b 0 = (n, p0, e) := ⟨_, _, _, rfl⟩
  have gv : getVR b 0 = some (.tup [.int .u64 n, .int .i64 p0, .int .i64 e], none) := by unfold getVR; rw [hg]
  have bad : ∀ O r low, r = (V.tup [.nils, .int .i64 (decErr b)], some (objs ++ O, low)) → decErr b ≠ 0 → p_DecodeK [v] objs r := by
    rintro O r low rfl hd
    exact ⟨b, [], O, low, ha, rfl, by rw [decTs_bad hd]; exact Held.nil, by simp⟩
  by_cases he : e = 0
  case neg =>
    have he' : (e != 0) = true := by simpa using he
    have hd := decErr_e hg he
    simp -implicitDefEqProofs (disch := omega) [vd, ha, c_VGet, k_VGet, h8, gv, he, he']
    exact bad [] _ _ (by rw [hd, List.append_nil]) (by rw [hd]; exact he)
  subst he
  obtain ⟨g1, g2, g3, g4, g5, g6, -⟩ := M.getR_ok hBy hg
  have hde := decErr_of hg
  by_cases hbig : 4096 < n
  · rw [if_pos hbig] at hde
    simp -implicitDefEqProofs (disch := omega) [vd, ha, c_VGet, k_VGet, h8, gv, hbig]
    exact bad [] _ _ (by rw [hde, List.append_nil]) (by rw [hde]; decide)
  rw [if_neg hbig] at hde
  obtain ⟨N, rfl⟩ := Int.eq_ofNat_of_zero_le g5
  rw [Int.toNat_natCast] at hde
  have hbig' : ¬ 4096 < N := by omega
  simp -implicitDefEqProofs (disch := omega) [vd, ha, c_VGet, k_VGet, h8, gv, hbig']
  obtain ⟨I, hI⟩ : ∃ I : Nat → St → Prop, I = (fun (i : Nat) (s : St) => (decI b p0 i).err = 0 ∧ s.env 0 = v ∧ s.env 23 = .int .u64 N ∧ s.env 24 = .int .u64 i ∧ s.env 5 = .int .i64 (decI b p0 i).p ∧ ∃ (us : List V) (o2 : List AO) (lv : V), s.env 8 = lv ∧ ofIntsR .u8 s.objs lv = some (decI b p0 i).last ∧ demote lv = lv ∧ isNils lv = emp (decI b p0 i).ts ∧ s.objs = objs ++ o2 ∧ Held s.objs us (decI b p0 i).ts ∧ (∀ u, u ∈ us → ∀ id, idOf u = some id → objs.length ≤ id ∧ id < s.objs.length) ∧ (us = [] ∧ s.env 7 = .nils ∧ s.toks = [] ∨ us ≠ [] ∧ s.env 7 = .lst (.tok 0 1) us us.length ∧ s.toks = [us.length])) := ⟨_, rfl⟩
  refine .up N I (by rw [hI]; exact ⟨rfl, by simp, by simp, by simp, by simp [decI], [], [], .nils, by simp, rfl, rfl, rfl, by simp, Held.nil, by simp, .inl ⟨rfl, by simp, by simp⟩⟩) ?_
  intro i s hi hs
  rw [hI] at hs
  obtain ⟨he, g0, g23, g24, g5', us, o2, lv, g8, hla, ld, lnil, ho, hH, hid, h7⟩ := hs
  obtain ⟨f1, f2, f3, f4, f5, f6⟩ := decI_facts (b := b) (p0 := p0) ⟨by omega, by omega⟩ i he
  obtain ⟨O, hO⟩ : ∃ O, O = s.objs := ⟨_, rfl⟩
  have ho' := hO.symm
  rw [← hO] at hla ho hH hid
  obtain ⟨D, hD⟩ : ∃ D, D = decI b p0 i := ⟨_, rfl⟩
  rcases Nat.lt_or_ge i N with h | h
  · have hmod : (((i : Int).tmod 16) == 0) = decide (i % 16 = 0) := by
      rw [Int.tmod_eq_emod_of_nonneg (by omega)]
      by_cases q : i % 16 = 0
      · rw [decide_eq_true q]; simp; omega
      · rw [decide_eq_false q]; simp; omega
    have hmod2 : decide ((i : Int) % 16 = 0) = decide (i % 16 = 0) := decide_eq_decide.2 (by omega)
    have hmod3 : (((i : Int) % 16) == 0) = decide (i % 16 = 0) := by
      by_cases q : i % 16 = 0
      · rw [decide_eq_true q]; simp; omega
      · rw [decide_eq_false q]; simp; omega
    have hmod4 : ((i : Int) % 16 = 0) = (i % 16 = 0) := propext (by omega)
    by_cases ht : (textZ b (decI b p0 i).last (decI b p0 i).p (decide (i % 16 = 0))).err = 0
    · have hok := decI_ok he ht
      obtain ⟨t1, t2, t3⟩ := textZ_len ht
      rw [← hD] at ht hok t1 t2 t3 hla g5' f1 f2 f3 f4 lnil hH
      obtain ⟨Z, hZ⟩ : ∃ Z, Z = textZ b D.last D.p (decide (i % 16 = 0)) := ⟨_, rfl⟩
      rw [← hZ] at ht hok t1 t2 t3
      have hul : us.length = i := by have := hH.len; omega
      have hem : emp (D.ts ++ [Z.s]) = (emp D.ts && Z.s.isEmpty) := by simp [emp]
      have wi1 : IntKind.u64.wrap ((i : Int) + 1) = (i : Int) + 1 := wrap_u64 (by omega) (by omega)
      have fin : ∀ (u : V) (m3 : List AO) (s' : St), rowH (O ++ m3) u Z.s → (∀ id, idOf u = some id → O.length ≤ id ∧ id < (O ++ m3).length) → isNils u = emp (D.ts ++ [Z.s]) → s'.env 0 = v → s'.env 23 = .int .u64 N → s'.env 24 = .int .u64 ((i : Int) + 1) → s'.env 5 = .int .i64 Z.next → s'.env 8 = u → s'.objs = O ++ m3 → s'.env 7 = .lst (.tok 0 1) (us ++ [u]) (us.length + 1) → s'.toks = [us.length + 1] → I (i + 1) s' := by
        intro u m3 s' hr hfr hnl z1 z2 z3 z4 z5 z6 z7 z8
        rw [hI]
        have hOl : objs.length ≤ O.length := by rw [ho]; simp
        refine ⟨by rw [hok], z1, z2, z3, by rw [hok]; exact z4, us ++ [u], o2 ++ m3, u, z5, by rw [hok, z6]; exact hr.bytes, hr.one.1, by rw [hok]; exact hnl, by rw [z6, ho, List.append_assoc], ?_, ?_, .inr ⟨by simp, by simpa using z7, by simpa using z8⟩⟩
        · rw [hok, z6]
          refine hH.app.snoc hr fun w id hw hq hq2 => ?_
          have := hid w hw id hq
          have := hfr id hq2
          omega
        · intro w hw id hq
          rw [z6]
          rcases List.mem_append.1 hw with q | q
          · have := hid w q id hq; rw [List.length_append]; omega
          · simp only [List.mem_singleton] at q; subst q
            have := hfr id hq; exact ⟨by omega, this.2⟩
      by_cases hnn : emp D.ts = true ∧ Z.s = []
      · obtain ⟨q1, q2⟩ := hnn
        have htx : txtV (emp D.ts) Z = .nils := by unfold txtV; rw [if_neg (by simp [ht]), if_pos ⟨q1, q2⟩]
        have l1 := llit1 (v := .nils) rfl rfl
        have fin' := fun s' => fin .nils [] s' (.inl ⟨rfl, q2⟩) (fun id q => by cases q) (by rw [hem, q1, q2]; rfl)
        simp only [List.append_nil] at fin'
        rw [q1] at htx lnil
        rcases h7 with ⟨rfl, g7, ht0⟩ | ⟨hne, g7, ht0⟩
        · simp -implicitDefEqProofs (disch := omega) [g0, g23, g24, g5', g8, g7, ht0, ho', vd, ld, ha, h, c_ptext, k_ptext, hla, h8, f2, lnil, hmod, hmod2, hmod3, hmod4, ← hZ, ht, htx, l1, wi1]
          exact fin' _ (by simp [g0]) (by simp [g23]) (by simp) (by simp) (by simp) (by simp) (by simp) (by simp)
        · simp -implicitDefEqProofs (disch := omega) [g0, g23, g24, g5', g8, g7, ht0, ho', vd, ld, ha, h, c_ptext, k_ptext, hla, h8, f2, lnil, hmod, hmod2, hmod3, hmod4, ← hZ, ht, htx, l1, wi1, Nat.mod_one]
          exact fin' _ (by simp [g0]) (by simp [g23]) (by simp) (by simp) (by simp) (by simp) (by simp) (by simp)
      · have htx : txtV (emp D.ts) Z = .lst (.fresh 1 true) (ints .u8 Z.s) Z.s.length := by unfold txtV; rw [if_neg (by simp [ht]), if_neg hnn]
        have l1 := llit1 (v := .ref O.length 0 0 Z.s.length 1) rfl rfl
        have fin' := fun s' => fin (.ref O.length 0 0 Z.s.length 1) [.cells (ints .u8 Z.s) 0] s' (.inr ⟨O.length, 0, rfl, by simp⟩) (fun id q => by simp [idOf] at q; subst q; simp) (by
          rw [hem]
          by_cases q1 : emp D.ts = true
          · have q2 : Z.s ≠ [] := fun q => hnn ⟨q1, q⟩
            have : Z.s.isEmpty = false := by simpa using q2
            rw [q1, this]; rfl
          · have q1 : emp D.ts = false := by simpa using q1
            rw [q1]; rfl)
        rcases h7 with ⟨rfl, g7, ht0⟩ | ⟨hne, g7, ht0⟩
        · simp -implicitDefEqProofs (disch := omega) [g0, g23, g24, g5', g8, g7, ht0, ho', vd, ld, ha, h, c_ptext, k_ptext, hla, h8, f2, lnil, hmod, hmod2, hmod3, hmod4, ← hZ, ht, htx, l1, wi1]
          exact fin' _ (by simp [g0]) (by simp [g23]) (by simp) (by simp) (by simp) (by simp) (by simp) (by simp)
        · simp -implicitDefEqProofs (disch := omega) [g0, g23, g24, g5', g8, g7, ht0, ho', vd, ld, ha, h, c_ptext, k_ptext, hla, h8, f2, lnil, hmod, hmod2, hmod3, hmod4, ← hZ, ht, htx, l1, wi1, Nat.mod_one]
          exact fin' _ (by simp [g0]) (by simp [g23]) (by simp) (by simp) (by simp) (by simp) (by simp) (by simp)
    · have hbad := decI_bad he ht h
      have hn0 := textZ_bad ht
      rw [← hD] at ht hbad hla g5' f2 lnil hn0
      obtain ⟨Z, hZ⟩ : ∃ Z, Z = textZ b D.last D.p (decide (i % 16 = 0)) := ⟨_, rfl⟩
      rw [← hZ] at ht hbad hn0
      have hde2 : decErr b = Z.err := by rw [hde, if_pos (by rw [hbad]; exact ht), hbad]
      have ht' : (Z.err != 0) = true := by simpa using ht
      have htx : txtV (emp D.ts) Z = .nils := by unfold txtV; rw [if_pos ht]
      simp -implicitDefEqProofs (disch := omega) [g0, g23, g24, g5', g8, ho', vd, ld, ha, h, c_ptext, k_ptext, hla, h8, f2, lnil, hmod, hmod2, hmod3, hmod4, ← hZ, ht, ht', htx, hn0]
      exact bad o2 _ _ (by rw [hde2, ho]) (by rw [hde2]; exact ht)
  · obtain rfl : i = N := by omega
    rw [if_neg (by simp [he])] at hde
    by_cases hlt : (decI b p0 i).p < b.length
    · rw [if_pos hlt] at hde
      simp -implicitDefEqProofs (disch := omega) [g0, g23, g24, g5', g8, ho', vn, hlt]
      exact bad o2 _ _ (by rw [hde, ho]) (by rw [hde]; decide)
    · rw [if_neg hlt] at hde
      have hts := decTs_of hg hde
      rw [Int.toNat_natCast] at hts
      have fin : ∀ r low, r = (V.tup [lstW us, .int .i64 0], some (O, low)) → p_DecodeK [v] objs r := by
        rintro r low rfl
        exact ⟨b, us, o2, low, ha, by rw [hde, ho], by rw [hts, ← ho]; exact hH, fun u hu id q => (hid u hu id q).1⟩
      rcases h7 with ⟨rfl, g7, ht0⟩ | ⟨hne, g7, ht0⟩
      · simp -implicitDefEqProofs (disch := omega) [g0, g23, g24, g5', g8, g7, ht0, ho', vn, hlt]
        exact fin _ _ rfl
      · have hs : lstW us = .lst .frozen us us.length := if_neg hne
        rw [hs] at fin
        simp -implicitDefEqProofs (disch := omega) [g0, g23, g24, g5', g8, g7, ht0, ho', vn, hlt]
        exact fin _ _ rfl

end Go.Proofs.Ytjjldepikokogaa.B
set_option maxRecDepth 20000
set_option maxHeartbeats 1000000
namespace Go.Proofs.Ytjjldepikokogaa.B
open Go Go.Ab
theorem lens_200 : ∀ {ls : List (List Int)}, (∀ l ∈ ls, l.length ≤ 200) → lens ls ≤ 270 * ls.length
  | [], _ => by simp [lens]
  | a :: ls, h => by
    have h1 := h a (by simp)
    have ih := lens_200 (ls := ls) (fun l hl => h l (by simp [hl]))
    have : lens (a :: ls) = (a.length + 70) + lens ls := by simp [lens]
    rw [this, List.length_cons]; omega
theorem decTs_200 {b : List Int} (hB : M.Bytes b) : (decTs b).length ≤ 4096 ∧ ∀ l ∈ decTs b, l.length ≤ 200 := by
  by_cases he : decErr b = 0
  · obtain ⟨h1, h2⟩ := not_bad (enc_dec hB he).1
    refine ⟨h1, fun l hl => ?_⟩
    obtain ⟨j, hj, rfl⟩ := nth_of_mem hl
    exact h2 j hj
  · rw [decTs_bad he]; simp
theorem lstW_sl (us : List V) : Sl (lstW us) us us.length := by
  unfold lstW
  split
  · rename_i h; subst h; exact .inr ⟨rfl, rfl, rfl⟩
  · exact .inl rfl
theorem lstW_nt (us : List V) : ntup (lstW us) = some (lstW us) := by unfold lstW; split <;> rfl
theorem rdec_sl (b : List Int) : ∃ w, demote (rdecV b) = w ∧ demote w = w ∧ ntup w = some w ∧ Sl w (txV (decTs b)) (decTs b).length := by
  refine ⟨_, rfl, ?_⟩
  rw [rdecV_dem]
  split
  · exact ⟨rfl, rfl, .inl rfl⟩
  · rename_i h; rw [decTs_bad h]; exact ⟨rfl, rfl, .inr ⟨rfl, rfl, rfl⟩⟩
noncomputable def k_PrefixDecodes : Ab.Spec := con2 (ofInts .u8) (ofInts .u8) fun b s objs => match objs with | [] => bnd b.length 140737488352000 (if b8 b = true ∧ b8 s = true then some (.bool true, none) else none) | _ => none
noncomputable def T_PrefixDecodes : CallF := withF T_DecodeK 4 k_PrefixDecodes
theorem T_PrefixDecodes_ok : CallOk Try.prog T_PrefixDecodes := con_of (A := annOf [] [] [] false [18, 14]) fit T_DecodeK_ok (fn := Try.f4) (by kernel_rfl) (by kernel_rfl) (by
  intro args objs r h0
  have c_alive : ∀ a o, T_DecodeK 7 a o = k_alive a o := fun _ _ => rfl
  have c_Wide : ∀ a o, T_DecodeK 13 a o = k_Wide a o := fun _ _ => rfl
  have c_DecodeK : ∀ a o, T_DecodeK 14 a o = k_DecodeK a o := fun _ _ => rfl
  have c_rDecode : ∀ a o, T_DecodeK 15 a o = k_rDecode a o := fun _ _ => rfl
  have c_pSeek : ∀ a o, T_DecodeK 16 a o = k_pSeek a o := fun _ _ => rfl
  have c_rSeek : ∀ a o, T_DecodeK 17 a o = k_rSeek a o := fun _ _ => rfl
  have c_ApartAll : ∀ a o, T_DecodeK 18 a o = k_ApartAll a o := fun _ _ => rfl
  have c_Intact : ∀ a o, T_DecodeK 19 a o = k_Intact a o := fun _ _ => rfl
  obtain ⟨v, w, b, s, rfl, ha, hb, hR⟩ := con2_inv h0
  split at hR
  case h_2 => cases hR
  obtain ⟨hl, hR⟩ := bnd_inv hR
  split at hR
  case isFalse => cases hR
  rename_i hc
  obtain ⟨h8, h8s⟩ := hc
  cases hR
  have hB := b8_bytes h8
  obtain ⟨vd, vn, vi, -⟩ := bs ha
  obtain ⟨wd, -⟩ := bs hb
  have hwl := wide_len b
  have hwt : (wide b).take b.length = b := by simp [wide]
  have e0 : ofInts .u8 (.lst .frozen (ints .u8 (wide b)) (b.length + 64)) = some (wide b) := ofInts_lst (by rw [hwl])
  have e1 : ofInts .u8 (.lst .frozen (ints .u8 b) b.length) = some b := ofInts_lst rfl
  obtain ⟨r, k1, b', us, o2, low, q1, rfl, q3, q4⟩ := s_DecodeK (objs := []) e1 hl h8
  rw [e1] at q1; cases q1
  simp only [List.nil_append] at k1 q3
  obtain ⟨t1, t2⟩ := decTs_200 hB
  have ul : us.length = (decTs b).length := q3.len
  have hu := lstW_sl us
  obtain ⟨W, w1, w2, w3, w4⟩ := rdec_sl b
  obtain ⟨ts, hts⟩ : ∃ ts, ts = decTs b := ⟨_, rfl⟩
  rw [← hts] at q3 t1 t2 ul w4
  have hsum := lens_200 t2
  rw [ul] at hu
  obtain ⟨r, k2, O4, low4, rfl, k3⟩ := s_ApartAll (objs := o2) (v := lstW us) (w := W) (vs := us) (ws := txV ts) (ls := ts) hu w4 (fun i hi => ⟨_, ((txx ts).2.2.2 i hi).1, ofInts_lst rfl⟩) q3 (by omega)
  have ud := hu.dem
  have un := lstW_nt us
  refine .go _ rfl rfl ?_
  simp -implicitDefEqProofs (maxSteps := 1000000) (disch := omega) [c_alive, c_Wide, c_DecodeK, c_rDecode, c_pSeek, c_rSeek, c_ApartAll, c_Intact, k_alive, k_Wide, k1, k_rDecode, k_pSeek, k_rSeek, k2, k_Intact, vd, wd, vn, ha, hb, e0, e1, hwl, hwt, h8, h8s, clean, ud, un, w1, w2, w3])
theorem walk_PrefixDecodes {D M n : Nat} {vs : List V} {args : Array Value} {W : World} (hS : ShpAll Try.prog D M n [25, 25] vs) (hA : AR (top W) W vs args.toList) : Calls Try.prog 4 args W fun e W' => e = .returned (.bool true) ∧ Go.RowKit.Below W.heap.size W W' := by
  match vs, hS with
  | [v0, v1], ⟨s0, s1, _⟩ =>
    obtain ⟨b, d0, b0, n0, -⟩ := in_bytes s0
    obtain ⟨s, d1, b1, n1, -⟩ := in_bytes s1
    refine whole fit T_PrefixDecodes_ok (fn := Try.f4) (by kernel_rfl) (by kernel_rfl) ?_ hA
    show k_PrefixDecodes [v0, v1] [] = _
    simp (disch := omega) [k_PrefixDecodes, d0, d1, b0, b1]

end Go.Proofs.Ytjjldepikokogaa.B
