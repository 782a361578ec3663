import Derived.Test.YtodpdfnnnkcnnaaRk2
set_option linter.unusedSimpArgs false
set_option linter.unusedVariables false
set_option linter.unusedSectionVars false
set_option maxRecDepth 20000
set_option maxHeartbeats 1000000
namespace Go.Proofs.Ytodpdfnnnkcnnaa.B
open Go Go.Ab
/-! what bytes tell, plain mathematics -/
def dn (b : List Int) (a0 : Int) : Nat → Int × List Int × Int
  | 0 => (0, [], a0)
  | i + 1 => if (dn b a0 i).1 ≠ 0 then dn b a0 i else
    if (M.getR b (dn b a0 i).2.2).2.2 ≠ 0 then ((M.getR b (dn b a0 i).2.2).2.2, [], 0) else
    if (M.getR b (M.getR b (dn b a0 i).2.2).2.1).2.2 ≠ 0 then ((M.getR b (M.getR b (dn b a0 i).2.2).2.1).2.2, [], 0) else
    if (M.getR b (M.getR b (dn b a0 i).2.2).2.1).1 = 0 then (5, [], 0) else
    if (dn b a0 i).2.1 ≠ [] ∧ nth (dn b a0 i).2.1 ((dn b a0 i).2.1.length - 1) = M.unfoldI (M.getR b (dn b a0 i).2.2).1 then (5, [], 0) else
    if 4096 - ((dn b a0 i).2.1.length : Int) < (M.getR b (M.getR b (dn b a0 i).2.2).2.1).1 then (4, [], 0) else
    (0, (dn b a0 i).2.1 ++ List.replicate (M.getR b (M.getR b (dn b a0 i).2.2).2.1).1.toNat (M.unfoldI (M.getR b (dn b a0 i).2.2).1), (M.getR b (M.getR b (dn b a0 i).2.2).2.1).2.1)
theorem dn_stop {b : List Int} {a0 : Int} {i : Nat} (h : (dn b a0 i).1 ≠ 0) : ∀ k, dn b a0 (i + k) = dn b a0 i
  | 0 => rfl
  | k + 1 => by
    have := dn_stop h k
    show dn b a0 (i + k + 1) = _
    rw [dn, this, if_pos h]
theorem dn_end {b : List Int} {a0 : Int} {i n : Nat} {e : Int} (h : dn b a0 (i + 1) = (e, [], 0)) (he : e ≠ 0) (hi : i < n) : dn b a0 n = (e, [], 0) := by
  obtain ⟨k, rfl⟩ : ∃ k, n = i + 1 + k := ⟨n - (i + 1), by omega⟩
  rw [dn_stop (by rw [h]; exact he), h]
structure DnOk (b : List Int) (a0 : Int) (i : Nat) (l : List Int) (a : Int) : Prop where
  eq : dn b a0 i = (0, l, a)
  len : l.length ≤ 4096
  ne : l ≠ [] ↔ 0 < i
  lo : 0 ≤ a
  hi : a ≤ b.length
section
variable {b : List Int} {a0 a u1 x1 z1 u2 x2 z2 : Int} {i : Nat} {l : List Int}
theorem DnOk.bad1 (h : DnOk b a0 i l a) (g1 : M.getR b a = (u1, x1, z1)) (hz : z1 ≠ 0) : dn b a0 (i + 1) = (z1, [], 0) := by
  rw [dn, h.eq, if_neg (by simp), g1, if_pos hz]
theorem DnOk.bad2 (h : DnOk b a0 i l a) (g1 : M.getR b a = (u1, x1, 0)) (g2 : M.getR b x1 = (u2, x2, z2)) (hz : z2 ≠ 0) : dn b a0 (i + 1) = (z2, [], 0) := by
  rw [dn, h.eq, if_neg (by simp), g1, if_neg (by simp), g2, if_pos hz]
theorem DnOk.nil (h : DnOk b a0 i l a) (g1 : M.getR b a = (u1, x1, 0)) (g2 : M.getR b x1 = (u2, x2, 0)) (hz : u2 = 0) : dn b a0 (i + 1) = (5, [], 0) := by
  rw [dn, h.eq, if_neg (by simp), g1, if_neg (by simp), g2, if_neg (by simp), if_pos hz]
theorem DnOk.form (h : DnOk b a0 i l a) (g1 : M.getR b a = (u1, x1, 0)) (g2 : M.getR b x1 = (u2, x2, 0)) (hz : u2 ≠ 0) (hf : l ≠ [] ∧ nth l (l.length - 1) = M.unfoldI u1) : dn b a0 (i + 1) = (5, [], 0) := by
  rw [dn, h.eq, if_neg (by simp), g1, if_neg (by simp), g2, if_neg (by simp), if_neg hz, if_pos hf]
theorem DnOk.long (h : DnOk b a0 i l a) (g1 : M.getR b a = (u1, x1, 0)) (g2 : M.getR b x1 = (u2, x2, 0)) (hz : u2 ≠ 0) (hf : ¬ (l ≠ [] ∧ nth l (l.length - 1) = M.unfoldI u1)) (hl : 4096 - (l.length : Int) < u2) : dn b a0 (i + 1) = (4, [], 0) := by
  rw [dn, h.eq, if_neg (by simp), g1, if_neg (by simp), g2, if_neg (by simp), if_neg hz, if_neg hf, if_pos hl]
theorem DnOk.next (h : DnOk b a0 i l a) (hx0 : 0 ≤ x2) (hx : x2 ≤ b.length) (hu : 0 ≤ u2) (g1 : M.getR b a = (u1, x1, 0)) (g2 : M.getR b x1 = (u2, x2, 0)) (hz : u2 ≠ 0) (hf : ¬ (l ≠ [] ∧ nth l (l.length - 1) = M.unfoldI u1)) (hl : ¬ 4096 - (l.length : Int) < u2) : DnOk b a0 (i + 1) (l ++ List.replicate u2.toNat (M.unfoldI u1)) x2 := by
  refine ⟨by rw [dn, h.eq, if_neg (by simp), g1, if_neg (by simp), g2, if_neg (by simp), if_neg hz, if_neg hf, if_neg hl], by simp; omega, ⟨fun _ => by omega, fun _ q => ?_⟩, hx0, hx⟩
  have := congrArg List.length q
  simp at this
  omega
end
/-- What Decode answers: the error's number, the numbers. -/
def decZ (b : List Int) : Int × List Int :=
  if (M.getR b 0).2.2 ≠ 0 then ((M.getR b 0).2.2, []) else
  if 4096 < (M.getR b 0).1 then (4, []) else
  if (dn b (M.getR b 0).2.1 (M.getR b 0).1.toNat).1 ≠ 0 then ((dn b (M.getR b 0).2.1 (M.getR b 0).1.toNat).1, []) else
  if (dn b (M.getR b 0).2.1 (M.getR b 0).1.toNat).2.2 < b.length then (3, []) else (0, (dn b (M.getR b 0).2.1 (M.getR b 0).1.toNat).2.1)
theorem unf_range {u : Int} (h0 : 0 ≤ u) (h1 : u < 18446744073709551616) : unfR u = some (.int .i64 (M.unfoldI u), none) := if_pos ⟨h0, h1⟩
theorem trip (p : Int × Int × Int) : ∃ u x z, p = (u, x, z) := ⟨_, _, _, rfl⟩
noncomputable def k_Decode : Ab.Spec := con1 (ofInts .u8) fun l _ => bnd l.length 140737488355000 (if b8 l = true then some (.tup [joinV (decZ l).2, .int .i64 (decZ l).1], none) else none)
noncomputable def T_Decode : CallF := withF T_RUnfold 21 k_Decode
theorem T_Decode_ok : CallOk Try.prog T_Decode := con_of (A := annOf [] [] [] false [33]) fit T_RUnfold_ok (fn := Try.f21) (by kernel_rfl) (by kernel_rfl) (by
  intro args objs r h0
  have c_VGet : ∀ a o, T_RUnfold 34 a o = k_VGet a o := fun _ _ => rfl
  have c_Unfold : ∀ a o, T_RUnfold 35 a o = k_Unfold a o := fun _ _ => rfl
  have c_add : ∀ a o, T_RUnfold 33 a o = k_add a o := fun _ _ => rfl
  obtain ⟨v, l, rfl, ha, hR⟩ := con1_inv h0
  obtain ⟨hl, hR⟩ := bnd_inv hR
  split at hR
  case isFalse => cases hR
  rename_i hb8
  cases hR
  have hby := b8_bytes hb8
  obtain ⟨vd, vn, vi, -⟩ := bs ha
  refine .go _ rfl rfl ?_
  obtain ⟨n0, a0, z0, g0⟩ := trip (M.getR l 0)
  by_cases hz0 : z0 ≠ 0
  · have hd : decZ l = (z0, []) := by unfold decZ; rw [g0, if_pos hz0]
    have hz0' : (z0 != 0) = true := by simpa using hz0
    simp -implicitDefEqProofs (disch := omega) [vn, vd, ha, c_VGet, k_VGet, hb8, getVR, g0, hz0', hd, joinV_nil]
  replace hz0 := Decidable.byContradiction hz0
  subst hz0
  obtain ⟨r1, r2, r3, r4, r5, r6, -⟩ := M.getR_ok hby g0
  by_cases hn0 : 4096 < n0
  · have hd : decZ l = (4, []) := by unfold decZ; rw [g0, if_neg (by simp), if_pos hn0]
    simp -implicitDefEqProofs (disch := omega) [vn, vd, ha, c_VGet, k_VGet, hb8, getVR, g0, hn0, hd, joinV_nil]
  obtain ⟨N, rfl⟩ := Int.eq_ofNat_of_zero_le r5
  have hd : decZ l = if (dn l a0 N).1 ≠ 0 then ((dn l a0 N).1, []) else if (dn l a0 N).2.2 < l.length then (3, []) else (0, (dn l a0 N).2.1) := by
    unfold decZ; rw [g0, if_neg (by simp), if_neg hn0]; rfl
  simp -implicitDefEqProofs (disch := omega) [vn, vd, ha, c_VGet, k_VGet, hb8, getVR, g0, hn0]
  refine .up N (fun i s => s.env 0 = v ∧ s.env 7 = .ptr objs.length 0 0 ∧ s.env 23 = .int .u64 N ∧ s.env 24 = .int .u64 i ∧ s.toks = [] ∧ s.low = objs.length ∧ ∃ L a, s.env 5 = .int .i64 a ∧ DnOk l a0 i L a ∧ jl s.objs objs.length = some L) (by simp; exact ⟨[], ⟨rfl, by simp, by simp, by omega, r3⟩, jl_nil getObj_last⟩) ?_
  rintro i s hi ⟨e0, e7, e23, e24, ht, hlo, L, a, e5, hL, hj⟩
  obtain ⟨O, hO⟩ : ∃ O, O = s.objs := ⟨_, rfl⟩
  rw [← hO] at hj
  have ho := hO.symm
  have hjl := jl_lt hj
  have hLl := hL.len
  rcases Nat.lt_or_ge i N with h | h
  · have wi : IntKind.u64.wrap ((i : Int) + 1) = (i : Int) + 1 := wrap_u64 (by omega) (by omega)
    obtain ⟨u1, x1, z1, g1⟩ := trip (M.getR l a)
    by_cases hz1 : z1 ≠ 0
    · have hend := dn_end (hL.bad1 g1 hz1) hz1 h
      rw [hend, if_pos hz1] at hd
      have hz1' : (z1 != 0) = true := by simpa using hz1
      simp -implicitDefEqProofs (disch := omega) [e0, e7, e23, e24, e5, ht, hlo, ho, vn, vd, ha, c_VGet, k_VGet, hb8, getVR, g1, hz1', hd, joinV_nil]
    replace hz1 := Decidable.byContradiction hz1
    subst hz1
    obtain ⟨q1, q2, q3, q4, q5, q6, -⟩ := M.getR_ok hby g1
    have hunf := unf_range q5 q6
    obtain ⟨u2, x2, z2, g2⟩ := trip (M.getR l x1)
    by_cases hz2 : z2 ≠ 0
    · have hend := dn_end (hL.bad2 g1 g2 hz2) hz2 h
      rw [hend, if_pos hz2] at hd
      have hz2' : (z2 != 0) = true := by simpa using hz2
      simp -implicitDefEqProofs (disch := omega) [e0, e7, e23, e24, e5, ht, hlo, ho, vn, vd, ha, c_VGet, k_VGet, hb8, getVR, g1, g2, hz2', hd, joinV_nil]
    replace hz2 := Decidable.byContradiction hz2
    subst hz2
    obtain ⟨s1, s2, s3, s4, s5, s6, -⟩ := M.getR_ok hby g2
    by_cases hu2 : u2 = 0
    · have hend := dn_end (hL.nil g1 g2 hu2) (by decide) h
      rw [hend, if_pos (by decide)] at hd
      simp -implicitDefEqProofs (disch := omega) [e0, e7, e23, e24, e5, ht, hlo, ho, vn, vd, ha, c_VGet, k_VGet, hb8, getVR, g1, g2, hd, joinV_nil]
    have hadd : addR objs.length (M.unfoldI u1) u2 O = (if L ≠ [] ∧ nth L (L.length - 1) = M.unfoldI u1 then some (.int .i64 5, some (O, O.length)) else if 4096 - (L.length : Int) < u2 then some (.int .i64 4, some (O, O.length)) else some (.int .i64 0, some (addN (M.unfoldI u1) objs.length O u2.toNat, objs.length))) := by
      unfold addR
      rw [hj]
      simp only
      rw [if_pos ⟨by omega, by omega, hLl⟩]
    have hif : (if O.length < objs.length then O.length else objs.length) = objs.length := if_neg (by omega)
    have hif2 : ¬ O.length < objs.length := by omega
    by_cases hf : L ≠ [] ∧ nth L (L.length - 1) = M.unfoldI u1
    · have hend := dn_end (hL.form g1 g2 hu2 hf) (by decide) h
      rw [hend, if_pos (by decide)] at hd
      rw [if_pos hf] at hadd
      simp -implicitDefEqProofs (disch := omega) [e0, e7, e23, e24, e5, ht, hlo, ho, vn, vd, ha, c_VGet, k_VGet, hb8, getVR, g1, g2, c_Unfold, k_Unfold, hunf, c_add, k_add, ofPtr, hadd, hif, hif2, hd, joinV_nil]
    rw [if_neg hf] at hadd
    by_cases hbig : 4096 - (L.length : Int) < u2
    · have hend := dn_end (hL.long g1 g2 hu2 hf hbig) (by decide) h
      rw [hend, if_pos (by decide)] at hd
      rw [if_pos hbig] at hadd
      simp -implicitDefEqProofs (disch := omega) [e0, e7, e23, e24, e5, ht, hlo, ho, vn, vd, ha, c_VGet, k_VGet, hb8, getVR, g1, g2, c_Unfold, k_Unfold, hunf, c_add, k_add, ofPtr, hadd, hif, hif2, hd, joinV_nil]
    rw [if_neg hbig] at hadd
    have hnx := hL.next (by omega) s3 s5 g1 g2 hu2 hf hbig
    have hJ := addN_jl (v := M.unfoldI u1) hj u2.toNat
    simp -implicitDefEqProofs (disch := omega) [e0, e7, e23, e24, e5, ht, hlo, ho, vn, vd, ha, c_VGet, k_VGet, hb8, getVR, g1, g2, c_Unfold, k_Unfold, hunf, c_add, k_add, ofPtr, hadd, hif, hif2, wi]
    exact ⟨h, _, hnx, hJ⟩
  · obtain rfl : i = N := by omega
    rw [hL.eq, if_neg (by simp)] at hd
    simp only at hd
    by_cases hlt : a < (l.length : Int)
    · rw [if_pos hlt] at hd
      simp -implicitDefEqProofs (disch := omega) [e0, e7, e23, e24, e5, ht, hlo, ho, vn, hlt, hd, joinV_nil]
    rw [if_neg hlt] at hd
    rcases jl_inv hj with ⟨rfl, p2⟩ | ⟨p0, oid, ver, p1, p2, p3⟩
    · simp -implicitDefEqProofs (disch := omega) [e0, e7, e23, e24, e5, ht, hlo, ho, vn, hlt, p2, hd, joinV_nil]
    · have hoid : ¬ oid < objs.length := by omega
      have hj0 := joinV_ne (l := L) (by intro q; rw [q] at p0; simp at p0)
      simp -implicitDefEqProofs (disch := omega) [e0, e7, e23, e24, e5, ht, hlo, ho, vn, hlt, p2, p3, hd, hj0, hoid])

end Go.Proofs.Ytodpdfnnnkcnnaa.B
