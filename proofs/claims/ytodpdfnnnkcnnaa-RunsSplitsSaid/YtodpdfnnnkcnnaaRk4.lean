import Derived.Test.YtodpdfnnnkcnnaaRk3
set_option linter.unusedSimpArgs false
set_option linter.unusedVariables false
set_option linter.unusedSectionVars false
set_option maxRecDepth 20000
set_option maxHeartbeats 1000000
namespace Go.Proofs.Ytodpdfnnnkcnnaa.B
open Go Go.Ab
noncomputable def k_RefDecode : Ab.Spec := con1 (ofInts .u8) fun l _ => bnd l.length 140737488355000 (if b8 l = true then some (.tup [rjV ((decZ l).1, (decZ l).2), .int .i64 (decZ l).1], none) else none)
noncomputable def T_RefDecode : CallF := withF T_Decode 22 k_RefDecode
theorem T_RefDecode_ok : CallOk Try.prog T_RefDecode := con_of (A := annOf [] [28,86] [] false []) fit T_Decode_ok (fn := Try.f22) (by kernel_rfl) (by kernel_rfl) (by
  intro args objs r h0
  have c_RGet : ∀ a o, T_Decode 36 a o = k_RGet a o := fun _ _ => rfl
  have c_RUnfold : ∀ a o, T_Decode 37 a o = k_RUnfold a o := fun _ _ => rfl
  obtain ⟨v, l, rfl, ha, hR⟩ := con1_inv h0
  obtain ⟨hl, hR⟩ := bnd_inv hR
  split at hR
  case isFalse => cases hR
  rename_i hb8
  cases hR
  have hby := b8_bytes hb8
  obtain ⟨vd, vn, vi, -⟩ := bs ha
  refine .go _ rfl rfl ?_
  obtain ⟨n0, a0, z0, g0⟩ := trip (M.getR l 0)
  by_cases hz0 : z0 ≠ 0
  · have hd : decZ l = (z0, []) := by unfold decZ; rw [g0, if_pos hz0]
    have hz0' : (z0 != 0) = true := by simpa using hz0
    have hv := rjV_no (e := z0) (l := []) hz0
    simp -implicitDefEqProofs (disch := omega) [vn, vd, ha, c_RGet, k_RGet, hb8, getVR, g0, hz0', hd, hv]
  replace hz0 := Decidable.byContradiction hz0
  subst hz0
  obtain ⟨r1, r2, r3, r4, r5, r6, -⟩ := M.getR_ok hby g0
  have hv4 := rjV_no (e := 4) (l := []) (by decide)
  have hv5 := rjV_no (e := 5) (l := []) (by decide)
  have hv3 := rjV_no (e := 3) (l := []) (by decide)
  by_cases hn0 : 4096 < n0
  · have hd : decZ l = (4, []) := by unfold decZ; rw [g0, if_neg (by simp), if_pos hn0]
    simp -implicitDefEqProofs (disch := omega) [vn, vd, ha, c_RGet, k_RGet, hb8, getVR, g0, hn0, hd, hv4]
  obtain ⟨N, rfl⟩ := Int.eq_ofNat_of_zero_le r5
  have hd : decZ l = if (dn l a0 N).1 ≠ 0 then ((dn l a0 N).1, []) else if (dn l a0 N).2.2 < l.length then (3, []) else (0, (dn l a0 N).2.1) := by
    unfold decZ; rw [g0, if_neg (by simp), if_neg hn0]; rfl
  simp -implicitDefEqProofs (disch := omega) [vn, vd, ha, c_RGet, k_RGet, hb8, getVR, g0, hn0, nlit0]
  refine .up N (fun i s => s.env 0 = v ∧ s.env 4 = .int .u64 N ∧ s.env 8 = .int .u64 i ∧ s.toks = [] ∧ s.low = objs.length ∧ ∃ L a, s.env 5 = .int .i64 a ∧ DnOk l a0 i L a ∧ s.env 7 = .ref objs.length L.length 0 L.length 1 ∧ s.objs = objs ++ [.cells (ints .i64 L) L.length]) (by simp; exact ⟨[], ⟨rfl, by simp, by simp, by omega, r3⟩, rfl, rfl, rfl⟩) ?_
  rintro i s hi ⟨e0, e4, e8, ht, hlo, L, a, e5, hL, e7, ho⟩
  have hLl := hL.len
  rcases Nat.lt_or_ge i N with h | h
  · have wi : IntKind.u64.wrap ((i : Int) + 1) = (i : Int) + 1 := wrap_u64 (by omega) (by omega)
    obtain ⟨u1, x1, z1, g1⟩ := trip (M.getR l a)
    by_cases hz1 : z1 ≠ 0
    · have hend := dn_end (hL.bad1 g1 hz1) hz1 h
      rw [hend, if_pos hz1] at hd
      have hz1' : (z1 != 0) = true := by simpa using hz1
      have hv := rjV_no (e := z1) (l := []) hz1
      simp -implicitDefEqProofs (disch := omega) [e0, e4, e7, e8, e5, ht, hlo, ho, vn, vd, ha, c_RGet, k_RGet, hb8, getVR, g1, hz1', hd, hv]
    replace hz1 := Decidable.byContradiction hz1
    subst hz1
    obtain ⟨q1, q2, q3, q4, q5, q6, -⟩ := M.getR_ok hby g1
    have hunf := unf_range q5 q6
    obtain ⟨u2, x2, z2, g2⟩ := trip (M.getR l x1)
    by_cases hz2 : z2 ≠ 0
    · have hend := dn_end (hL.bad2 g1 g2 hz2) hz2 h
      rw [hend, if_pos hz2] at hd
      have hz2' : (z2 != 0) = true := by simpa using hz2
      have hv := rjV_no (e := z2) (l := []) hz2
      simp -implicitDefEqProofs (disch := omega) [e0, e4, e7, e8, e5, ht, hlo, ho, vn, vd, ha, c_RGet, k_RGet, hb8, getVR, g1, g2, hz2', hd, hv]
    replace hz2 := Decidable.byContradiction hz2
    subst hz2
    obtain ⟨s1, s2, s3, s4, s5, s6, -⟩ := M.getR_ok hby g2
    by_cases hu2 : u2 = 0
    · have hend := dn_end (hL.nil g1 g2 hu2) (by decide) h
      rw [hend, if_pos (by decide)] at hd
      simp -implicitDefEqProofs (disch := omega) [e0, e4, e7, e8, e5, ht, hlo, ho, vn, vd, ha, c_RGet, k_RGet, hb8, getVR, g1, g2, c_RUnfold, k_RUnfold, hunf, hd, hv5]
    have w0 : IntKind.i64.wrap (4096 - (L.length : Int)) = 4096 - (L.length : Int) := wrap_small (by omega) (by omega)
    have w0u : IntKind.u64.wrap (4096 - (L.length : Int)) = 4096 - (L.length : Int) := wrap_u64 (by omega) (by omega)
    obtain ⟨V1, hV1⟩ : ∃ V1, V1 = M.unfoldI u1 := ⟨_, rfl⟩
    have hF := hL.form g1 g2 hu2
    have hG := hL.long g1 g2 hu2
    have hN := hL.next (by omega) s3 s5 g1 g2 hu2
    rw [← hV1] at hF hG hN hunf
    by_cases hf : L ≠ [] ∧ nth L (L.length - 1) = V1
    · have hend := dn_end (hF hf) (by decide) h
      rw [hend, if_pos (by decide)] at hd
      obtain ⟨hne, hval⟩ := hf
      have hi0 := hL.ne.1 hne
      have hp := List.length_pos_iff.2 hne
      have w1 : IntKind.i64.wrap ((L.length : Int) - 1) = (L.length : Int) - 1 := wrap_small (by omega) (by omega)
      have ei : ((L.length : Int) - 1).toNat = L.length - 1 := by omega
      have en0 := ints_nth (k := .i64) (l := L) (i := L.length - 1) (by omega)
      have en := of_get en0
      have hb1 : (1 : Int) ≤ L.length ∧ (L.length : Int) - 1 < L.length := by omega
      have heq : (nth L (L.length - 1) == V1) = true := by simpa using hval
      simp -implicitDefEqProofs (disch := omega) [e0, e4, e7, e8, e5, ht, hlo, ho, vn, vd, ha, c_RGet, k_RGet, hb8, getVR, g1, g2, c_RUnfold, k_RUnfold, hunf, w1, ei, en0, en, hb1, hp, hi0, heq, getObj_last, hd, hv5]
    by_cases hbig : 4096 - (L.length : Int) < u2
    · have hend := dn_end (hG hf hbig) (by decide) h
      rw [hend, if_pos (by decide)] at hd
      rcases Nat.eq_zero_or_pos i with rfl | hi0
      · simp -implicitDefEqProofs (disch := omega) [e0, e4, e7, e8, e5, ht, hlo, ho, vn, vd, ha, c_RGet, k_RGet, hb8, getVR, g1, g2, c_RUnfold, k_RUnfold, hunf, w0, w0u, convV, hbig, getObj_last, hd, hv4]
      · have hne := hL.ne.2 hi0
        have hp := List.length_pos_iff.2 hne
        have w1 : IntKind.i64.wrap ((L.length : Int) - 1) = (L.length : Int) - 1 := wrap_small (by omega) (by omega)
        have ei : ((L.length : Int) - 1).toNat = L.length - 1 := by omega
        have en0 := ints_nth (k := .i64) (l := L) (i := L.length - 1) (by omega)
        have en := of_get en0
        have hb1 : (1 : Int) ≤ L.length ∧ (L.length : Int) - 1 < L.length := by omega
        have heq : (nth L (L.length - 1) == V1) = false := by simpa using fun q => hf ⟨hne, q⟩
        simp -implicitDefEqProofs (disch := omega) [e0, e4, e7, e8, e5, ht, hlo, ho, vn, vd, ha, c_RGet, k_RGet, hb8, getVR, g1, g2, c_RUnfold, k_RUnfold, hunf, w1, ei, en0, en, hb1, hp, hi0, heq, w0, w0u, convV, hbig, getObj_last, hd, hv4]
    have hnx := hN hf hbig
    obtain ⟨K, rfl⟩ := Int.eq_ofNat_of_zero_le s5
    rw [Int.toNat_natCast] at hnx
    rcases Nat.eq_zero_or_pos i with rfl | hi0
    · simp -implicitDefEqProofs (disch := omega) [e0, e4, e7, e8, e5, ht, hlo, ho, vn, vd, ha, c_RGet, k_RGet, hb8, getVR, g1, g2, c_RUnfold, k_RUnfold, hunf, w0, w0u, convV, hbig, getObj_last]
      refine .up K (fun k s => s.env 0 = v ∧ s.env 4 = .int .u64 N ∧ s.env 8 = .int .u64 0 ∧ s.env 12 = .int .u64 K ∧ s.env 13 = .int .i64 x2 ∧ s.env 15 = .int .i64 V1 ∧ s.env 16 = .int .u64 k ∧ s.toks = [] ∧ s.low = objs.length ∧ s.env 7 = .ref objs.length (L.length + k) 0 (L.length + k) 1 ∧ s.objs = objs ++ [.cells (ints .i64 (L ++ List.replicate k V1)) (L.length + k)]) (by simp [e0, e4, e8, e7, ht, hlo, ho]) ?_
      rintro k s hk ⟨f0, f4, f8, f12, f13, f15, f16, ht, hlo, f7, ho⟩
      rcases Nat.lt_or_ge k K with hkN | hkN
      · have er : L ++ List.replicate (k + 1) V1 = L ++ List.replicate k V1 ++ [V1] := by rw [List.append_assoc, ← List.replicate_succ']
        have el : (L ++ List.replicate k V1).length = L.length + k := by simp
        obtain ⟨M, hM⟩ : ∃ M, M = L ++ List.replicate k V1 := ⟨_, rfl⟩
        rw [← hM] at er el ho
        have wk : IntKind.u64.wrap ((k : Int) + 1) = (k : Int) + 1 := wrap_u64 (by omega) (by omega)
        simp -implicitDefEqProofs (disch := omega) [f0, f4, f8, f12, f13, f15, f16, f7, ht, hlo, ho, nlit1, getObj_last, set_last, er, el, wk]
        exact ⟨hkN, by omega⟩
      · obtain rfl : k = K := by omega
        have el : (L ++ List.replicate k V1).length = L.length + k := by simp
        simp -implicitDefEqProofs (disch := omega) [f0, f4, f8, f12, f13, f15, f16, f7, ht, hlo, ho, wi]
        exact ⟨h, rfl, _, hnx, el.symm, rfl, el.symm⟩
    · have hne := hL.ne.2 hi0
      have hp := List.length_pos_iff.2 hne
      have w1 : IntKind.i64.wrap ((L.length : Int) - 1) = (L.length : Int) - 1 := wrap_small (by omega) (by omega)
      have ei : ((L.length : Int) - 1).toNat = L.length - 1 := by omega
      have en0 := ints_nth (k := .i64) (l := L) (i := L.length - 1) (by omega)
      have en := of_get en0
      have hb1 : (1 : Int) ≤ L.length ∧ (L.length : Int) - 1 < L.length := by omega
      have heq : (nth L (L.length - 1) == V1) = false := by simpa using fun q => hf ⟨hne, q⟩
      simp -implicitDefEqProofs (disch := omega) [e0, e4, e7, e8, e5, ht, hlo, ho, vn, vd, ha, c_RGet, k_RGet, hb8, getVR, g1, g2, c_RUnfold, k_RUnfold, hunf, w1, ei, en0, en, hb1, hp, hi0, heq, w0, w0u, convV, hbig, getObj_last]
      refine .up K (fun k s => s.env 0 = v ∧ s.env 4 = .int .u64 N ∧ s.env 8 = .int .u64 i ∧ s.env 12 = .int .u64 K ∧ s.env 13 = .int .i64 x2 ∧ s.env 15 = .int .i64 V1 ∧ s.env 16 = .int .u64 k ∧ s.toks = [] ∧ s.low = objs.length ∧ s.env 7 = .ref objs.length (L.length + k) 0 (L.length + k) 1 ∧ s.objs = objs ++ [.cells (ints .i64 (L ++ List.replicate k V1)) (L.length + k)]) (by simp [e0, e4, e8, e7, ht, hlo, ho]) ?_
      rintro k s hk ⟨f0, f4, f8, f12, f13, f15, f16, ht, hlo, f7, ho⟩
      rcases Nat.lt_or_ge k K with hkN | hkN
      · have er : L ++ List.replicate (k + 1) V1 = L ++ List.replicate k V1 ++ [V1] := by rw [List.append_assoc, ← List.replicate_succ']
        have el : (L ++ List.replicate k V1).length = L.length + k := by simp
        obtain ⟨M, hM⟩ : ∃ M, M = L ++ List.replicate k V1 := ⟨_, rfl⟩
        rw [← hM] at er el ho
        have wk : IntKind.u64.wrap ((k : Int) + 1) = (k : Int) + 1 := wrap_u64 (by omega) (by omega)
        simp -implicitDefEqProofs (disch := omega) [f0, f4, f8, f12, f13, f15, f16, f7, ht, hlo, ho, nlit1, getObj_last, set_last, er, el, wk]
        exact ⟨hkN, by omega⟩
      · obtain rfl : k = K := by omega
        have el : (L ++ List.replicate k V1).length = L.length + k := by simp
        simp -implicitDefEqProofs (disch := omega) [f0, f4, f8, f12, f13, f15, f16, f7, ht, hlo, ho, wi]
        exact ⟨h, _, hnx, el.symm, rfl, el.symm⟩
  · obtain rfl : i = N := by omega
    rw [hL.eq, if_neg (by simp)] at hd
    simp only at hd
    by_cases hlt : a < (l.length : Int)
    · rw [if_pos hlt] at hd
      simp -implicitDefEqProofs (disch := omega) [e0, e4, e7, e8, e5, ht, hlo, ho, vn, hlt, hd, hv3]
    rw [if_neg hlt] at hd
    simp -implicitDefEqProofs (disch := omega) [e0, e4, e7, e8, e5, ht, hlo, ho, vn, hlt, hd, rjV_ok, getObj_last])

end Go.Proofs.Ytodpdfnnnkcnnaa.B
