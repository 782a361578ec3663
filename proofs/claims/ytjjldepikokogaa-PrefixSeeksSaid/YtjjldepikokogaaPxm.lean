import Derived.Test.YtjjldepikokogaaPxl
set_option linter.unusedSimpArgs false
set_option linter.unusedVariables false
set_option linter.unusedSectionVars false
set_option maxRecDepth 20000
set_option maxHeartbeats 1000000
namespace Go.Proofs.Ytjjldepikokogaa.B
open Go Go.Ab
theorem textZ_b8 {b last : List Int} {p : Int} {whole : Bool} (hb : M.Bytes b) (hl : M.Bytes last) : M.Bytes (textZ b last p whole).s := by
  by_cases h0 : (textZ b last p whole).err = 0
  · obtain ⟨k, n1, m, to, -, -, h3, h4⟩ := textZ_cases h0
    obtain ⟨-, -, -, -, -, c6⟩ := textW_cases _ _ _ _ _ _ h4
    rw [h3, c6]
    exact M.Bytes.app (hl.take _) ((hb.drop _).take _)
  · have : (textZ b last p whole).s = [] := by
      unfold textZ at h0 ⊢
      obtain ⟨k, n1, e1, hg1⟩ : ∃ k n1 e1, M.getR b p = (k, n1, e1) := ⟨_, _, _, rfl⟩
      rw [hg1] at h0 ⊢
      simp only at h0 ⊢
      split
      · rfl
      rename_i q1
      rw [if_neg q1] at h0
      split
      · rfl
      rename_i q2
      rw [if_neg q2] at h0
      unfold textW at h0 ⊢
      split
      · rfl
      rename_i c1; rw [if_neg c1] at h0
      split
      · rfl
      rename_i c2; rw [if_neg c2] at h0
      split
      · rfl
      rename_i c3; rw [if_neg c3] at h0
      split
      · rfl
      rename_i c4; rw [if_neg c4] at h0
      exact absurd rfl h0
    rw [this]; intro x hx; cases hx
theorem decI_b8 {b : List Int} {p0 : Int} (hb : M.Bytes b) : ∀ i, (∀ t ∈ (decI b p0 i).ts, M.Bytes t) ∧ M.Bytes (decI b p0 i).last
  | 0 => ⟨by simp [decI], by intro x hx; simp [decI] at hx⟩
  | i + 1 => by
    obtain ⟨h1, h2⟩ := decI_b8 (p0 := p0) hb i
    rw [decI]
    split
    · exact ⟨h1, h2⟩
    split
    · exact ⟨h1, h2⟩
    · have ht := textZ_b8 (last := (decI b p0 i).last) (p := (decI b p0 i).p) (whole := decide (i % 16 = 0)) hb h2
      refine ⟨fun t q => ?_, ht⟩
      rcases List.mem_append.1 q with q | q
      · exact h1 t q
      · simp only [List.mem_singleton] at q; rw [q]; exact ht
theorem decTs_b8 {b : List Int} (hb : M.Bytes b) : ∀ t ∈ decTs b, M.Bytes t := by
  intro t ht
  unfold decTs at ht
  split at ht
  split at ht
  · cases ht
  · exact (decI_b8 hb _).1 t ht
noncomputable def k_pSeek : Ab.Spec := con2 (ofInts .u8) (ofInts .u8) fun b s _ => bnd b.length 140737488352000 (if b8 b = true ∧ b8 s = true then some (.tup [.int .i64 (aheadN (decTs b) s), .int .i64 (decErr b)], none) else none)
noncomputable def T_pSeek : CallF := withF T_Index10 16 k_pSeek
theorem T_pSeek_ok : CallOk Try.prog T_pSeek := con_of (A := annOf [] [] [] false []) fit T_Index10_ok (fn := Try.f16) (by kernel_rfl) (by kernel_rfl) (by
  intro args objs r h0
  have c_pDecode : ∀ a o, T_Index10 14 a o = k_pDecode a o := fun _ _ => rfl
  have c_Compare : ∀ a o, T_Index10 37 a o = k_Compare a o := fun _ _ => rfl
  obtain ⟨v, w, b, s, rfl, ha, hb, hR⟩ := con2_inv h0
  obtain ⟨hl, hR⟩ := bnd_inv hR
  split at hR
  case isFalse => cases hR
  rename_i hc
  obtain ⟨h8, h8s⟩ := hc
  cases hR
  have hB := b8_bytes h8
  obtain ⟨vd, -⟩ := bs ha
  obtain ⟨wd, -⟩ := bs hb
  obtain ⟨d, d1, d2, d3, d4, d5⟩ := dec_hold (decTs b)
  obtain ⟨-, -, cs, vi, vc⟩ := tx d3
  have hT := decTs_b8 hB
  obtain ⟨ts, hts⟩ : ∃ ts, ts = decTs b := ⟨_, rfl⟩
  rw [← hts] at d1 d3 d4 vi vc hT ⊢
  have hlen : ts.length < 1000000 := by
    by_cases he : decErr b = 0
    · have := (not_bad (enc_dec hB he).1).1; rw [hts]; omega
    · rw [hts, decTs_bad he]; decide
  have r2 : ∀ O, ofIntsR .u8 O w = some s := fun O => ofIntsR_of hb
  refine .go _ rfl rfl ?_
  simp -implicitDefEqProofs (disch := omega) [vd, ha, c_pDecode, k_pDecode, h8, ← hts, d1, d2, d4, d5]
  obtain ⟨I, hI⟩ : ∃ I : Nat → St → Prop, I = (fun (i : Nat) (s' : St) => (∀ j, j < i → cmpZ (nth ts j) s < 0) ∧ s'.env 1 = w ∧ s'.env 6 = d ∧ s'.env 7 = .int .i64 (decErr b) ∧ s'.env 15 = d ∧ s'.env 16 = .int .i64 ts.length ∧ s'.env 17 = .int .i64 i ∧ s'.toks = [] ∧ s'.objs = objs ∧ s'.low = objs.length) := ⟨_, rfl⟩
  refine .up ts.length I (by rw [hI]; exact ⟨by omega, by simp, by simp, by simp, by simp, by simp, by simp, by simp, by simp, by simp⟩) ?_
  intro i s' hi hs
  rw [hI] at hs
  obtain ⟨hj, g1, g6, g7, g15, g16, g17, ht, ho, hlo⟩ := hs
  rcases Nat.lt_or_ge i ts.length with h | h
  · obtain ⟨c, c1, c1', c2⟩ := vc i h
    obtain ⟨cd, -⟩ := bs c2
    have e1 := vi .i64 i (by omega) (by omega)
    rw [Int.toNat_natCast] at e1
    have r1 : ∀ O, ofIntsR .u8 O c = some (nth ts i) := fun O => ofIntsR_of c2
    have hcz : cmpB (nth ts i) s = cmpZ (nth ts i) s := cmpB_eq (hT _ (nth_mem h)) (b8_iff.1 h8s)
    by_cases hc : cmpZ (nth ts i) s < 0
    · have hc' : ¬ 0 ≤ cmpZ (nth ts i) s := by omega
      simp -implicitDefEqProofs (disch := omega) [g1, g6, g7, g15, g16, g17, ht, ho, hlo, h, e1, c1, c1', cd, wd, c_Compare, k_Compare, r1, r2, hcz, hc, hc', wrap_small]
      rw [hI]
      refine ⟨fun j hj2 => ?_, by simp [g1], by simp [g6], by simp [g7], by simp [g15], by simp [g16], by simp, by simp, by simp, by simp⟩
      rcases Nat.lt_or_ge j i with q | q
      · exact hj j q
      · obtain rfl : j = i := by omega
        exact hc
    · have hc' : 0 ≤ cmpZ (nth ts i) s := by omega
      have hst := ahead_stop (s := s) (ts := ts) (i := i) hi hj (.inr hc)
      simp -implicitDefEqProofs (disch := omega) [g1, g6, g7, g15, g16, g17, ht, ho, hlo, h, e1, c1, c1', cd, wd, c_Compare, k_Compare, r1, r2, hcz, hc', hst]
  · obtain rfl : i = ts.length := by omega
    have hst := ahead_stop (s := s) (ts := ts) (i := ts.length) hi hj (.inl rfl)
    simp -implicitDefEqProofs (disch := omega) [g1, g6, g7, g15, g16, g17, ht, ho, hlo, d4, hst])

end Go.Proofs.Ytjjldepikokogaa.B
