import Derived.Test.YtodpdfnnnkcnnaaRk1
set_option linter.unusedSimpArgs false
set_option linter.unusedVariables false
set_option linter.unusedSectionVars false
set_option maxRecDepth 20000
set_option maxHeartbeats 1000000
namespace Go.Proofs.Ytodpdfnnnkcnnaa.B
open Go Go.Ab
noncomputable def k_RGet : Ab.Spec := con2 (ofInts .u8) (ofInt .i64) fun l a _ => bnd l.length 140737488355328 (if b8 l = true then getVR l a else none)
noncomputable def T_RGet : CallF := withF T_VGet 36 k_RGet
theorem T_RGet_ok : CallOk Try.prog T_RGet := con_of (A := annOf [] [] [] false []) fit T_VGet_ok (fn := Try.f36) (by kernel_rfl) (by kernel_rfl) (by
  intro args objs r h0
  obtain ⟨v, _, l, a, rfl, ha, hb, hR⟩ := con2_inv h0
  obtain rfl := ofInt_inv hb
  obtain ⟨hl, hR⟩ := bnd_inv hR
  split at hR
  case isFalse => cases hR
  rename_i hb8
  cases hR
  obtain ⟨vd, vn, vi, -⟩ := bs ha
  have hby := b8_bytes hb8
  refine .go _ rfl rfl ?_
  by_cases hn : a < 0
  · have e : M.getR l a = (0, 0, 1) := by unfold M.getR; rw [if_pos (.inl hn)]
    simp (disch := omega) [vn, hn, e]
  by_cases hb2 : (l.length : Int) < a
  · have e : M.getR l a = (0, 0, 1) := by unfold M.getR; rw [if_pos (.inr hb2)]
    simp (disch := omega) [vn, hn, hb2, e]
  obtain ⟨A, rfl⟩ := Int.eq_ofNat_of_zero_le (show 0 ≤ a by omega)
  have hz := resG_zero (b := l) (a := A) (by omega)
  obtain ⟨R, hR⟩ : ∃ R, R = M.getR l A := ⟨_, rfl⟩
  rw [← hR] at hz ⊢
  have hnn : ¬ (A : Int) < 0 := hn
  simp (disch := omega) [vn, hb2]
  refine .up 10 (fun i s => s.env 0 = v ∧ s.env 1 = .int .i64 A ∧ s.env 9 = .int .i64 (A + i) ∧ i ≤ 9 ∧ s.toks = [] ∧ s.objs = objs ∧ s.low = objs.length ∧ s.env 8 = .int .u64 (2 ^ (7 * i)) ∧ ∃ u, s.env 7 = .int .u64 u ∧ 0 ≤ u ∧ u < 2 ^ (7 * i) ∧ resG l A i u = R) (by simpa using hz) ?_
  rintro i s hi ⟨g0, g1, g9, hi9, ht, ho, hlo, g8, u, g7, hu0, hu1, hres⟩
  rcases Nat.lt_or_ge (A + i) l.length with h | h
  case inr =>
    rw [resG_end h] at hres
    subst hres
    simp -implicitDefEqProofs (disch := omega) [g0, g1, g8, g9, g7, ht, ho, hlo, vn]
  have e1 := vi .i64 ((A : Int) + i) (by omega) (by omega)
  rw [toNat_add] at e1
  have hc := hby _ (nth_mem h)
  have hw := @resG_wide l A i u h
  have hm := @resG_more l A i u h
  have hf := @resG_form l A i u h
  have hd := @resG_done l A i u h
  have en := of_get (ints_nth (k := .u8) h)
  have en0 := ints_nth (k := .u8) h
  obtain ⟨c, hcc⟩ : ∃ c, c = nth l (A + i) := ⟨_, rfl⟩
  rw [← hcc] at hc hw hm hf hd en en0
  have wcu : IntKind.u64.wrap c = c := wrap_u64 (by omega) (by omega)
  have wd : IntKind.i64.wrap ((A : Int) + i - A) = i := by rw [wrap_small (by omega) (by omega)]; omega
  have ht128 : c.tmod 128 = c % 128 := Int.tmod_eq_emod_of_nonneg hc.1
  have wi : IntKind.i64.wrap ((A : Int) + i + 1) = (A : Int) + (i + 1) := by rw [wrap_small (by omega) (by omega)]; omega
  have wi2 : IntKind.i64.wrap ((A : Int) + i + 1) = (A : Int) + i + 1 := wrap_small (by omega) (by omega)
  by_cases h9 : i = 9 ∧ c > 1
  · have e := hw h9
    rw [hres] at e
    subst e
    obtain ⟨h9i, h91⟩ := h9
    simp -implicitDefEqProofs (disch := omega) [g0, g1, g8, g9, g7, ht, ho, hlo, vn, wd, e1, en, en0, convV, wcu, h91]
  obtain ⟨f0, f1, f2, f3⟩ := fitG hi9 h9 hc.1 hc.2 hu0 hu1
  have wsh : IntKind.u64.wrap (c % 128 * 2 ^ (7 * i)) = c % 128 * 2 ^ (7 * i) := wrap_u64 f0 (by omega)
  have wad : IntKind.u64.wrap (u + c % 128 * 2 ^ (7 * i)) = u + c % 128 * 2 ^ (7 * i) := wrap_u64 (by omega) (by omega)
  by_cases h128 : c ≥ 128
  · have e := hm h9 h128 hc.2
    rw [hres] at e
    have hi99 : i ≠ 9 := fun q => h9 ⟨q, by omega⟩
    have hlt : ¬ c < 128 := by omega
    have hp : (2 : Int) ^ (7 * (i + 1)) = 2 ^ (7 * i) * 128 := by rw [Nat.mul_add, Int.pow_add]; rfl
    have hpb : (2 : Int) ^ (7 * (i + 1)) ≤ 2 ^ 63 := M.ipow_le (by decide) (by omega)
    have hpp : (0 : Int) < 2 ^ (7 * (i + 1)) := Int.pow_pos (by decide)
    have ww : IntKind.u64.wrap (2 ^ (7 * i) * 128) = 2 ^ (7 * (i + 1)) := by rw [← hp]; exact wrap_u64 (by omega) (by omega)
    simp -implicitDefEqProofs (disch := omega) [g0, g1, g8, g9, g7, ht, ho, hlo, vn, wd, e1, en, en0, convV, wcu, ht128, wsh, wad, wi, ww, hlt]
    exact ⟨by omega, by omega, by omega, f3 (.inr trivial), e.symm⟩
  have hlt : c < 128 := by omega
  by_cases hz0 : c = 0 ∧ 0 < i
  · have e := hf hz0.1 hz0.2
    rw [hres] at e
    subst e
    obtain ⟨hz1, hz2⟩ := hz0
    have hgt : (A : Int) + i > A := by omega
    by_cases hi9 : i = 9
    · simp -implicitDefEqProofs (disch := omega) [g0, g1, g8, g9, g7, ht, ho, hlo, vn, wd, e1, en, en0, convV, wcu, ht128, wsh, wad, hlt, hgt]
    · simp -implicitDefEqProofs (disch := omega) [g0, g1, g8, g9, g7, ht, ho, hlo, vn, wd, e1, en, en0, convV, wcu, ht128, wsh, wad, hlt, hgt]
  · have e := hd h9 h128 hc.1 hz0
    rw [hres] at e
    subst e
    by_cases hi9 : i = 9
    · have hc1 : ¬ c > 1 := fun q => h9 ⟨hi9, q⟩
      have hc0 : c ≠ 0 := fun q => hz0 ⟨q, by omega⟩
      simp -implicitDefEqProofs (disch := omega) [g0, g1, g8, g9, g7, ht, ho, hlo, vn, wd, e1, en, en0, convV, wcu, ht128, wsh, wad, wi2, hlt]
    · by_cases hc0 : c = 0
      · have hi0 : ¬ (A : Int) + i > A := by omega
        simp -implicitDefEqProofs (disch := omega) [g0, g1, g8, g9, g7, ht, ho, hlo, vn, wd, e1, en, en0, convV, wcu, ht128, wsh, wad, wi2, hlt, hi0]
      · simp -implicitDefEqProofs (disch := omega) [g0, g1, g8, g9, g7, ht, ho, hlo, vn, wd, e1, en, en0, convV, wcu, ht128, wsh, wad, wi2, hlt])
def unfR (u : Int) : Option Res := if 0 ≤ u ∧ u < 18446744073709551616 then some (.int .i64 (M.unfoldI u), none) else none
noncomputable def k_Unfold : Ab.Spec := con1 (ofInt .u64) fun u _ => unfR u
noncomputable def T_Unfold : CallF := withF T_RGet 35 k_Unfold
theorem T_Unfold_ok : CallOk Try.prog T_Unfold := con_of (A := annOf [] [] [] false []) fit T_RGet_ok (fn := Try.f35) (by kernel_rfl) (by kernel_rfl) (by
  intro args objs r h0
  obtain ⟨_, u, rfl, hb, hR⟩ := con1_inv h0
  obtain rfl := ofInt_inv hb
  unfold unfR at hR
  split at hR
  case isFalse => cases hR
  rename_i hu
  obtain ⟨hu0, hu1⟩ := hu
  cases hR
  have e : Go.bits .and .u64 u 1 = u % 2 := by
    have := M.u64_mask hu0 hu1 (i := 1) (by decide); simpa using this
  have e2 : u.fdiv 2 = u / 2 := Int.fdiv_eq_ediv_of_nonneg _ (by decide)
  have w1 : IntKind.i64.wrap (u / 2) = u / 2 := wrap_small (by omega) (by omega)
  have w2 : IntKind.i64.wrap (u % 2) = u % 2 := wrap_small (by omega) (by omega)
  have w3 : IntKind.i64.wrap (0 - u % 2) = 0 - u % 2 := wrap_small (by omega) (by omega)
  have w3' : IntKind.i64.wrap (-(u % 2)) = -(u % 2) := wrap_small (by omega) (by omega)
  have e3 : Go.bits .xor .i64 (u / 2) (-(u % 2)) = M.unfoldI u := by
    unfold M.unfoldI
    by_cases h : u % 2 = 0
    · rw [if_pos h, h, show (-0 : Int) = 0 by omega, M.xor_i64_zero (by omega) (by omega)]
    · rw [if_neg h, show u % 2 = 1 by omega, M.xor_i64_all (by omega) (by omega)]; omega
  refine .go _ rfl rfl ?_
  simp -implicitDefEqProofs (disch := omega) [convV, e, e2, w1, w2, w3, w3', e3])
noncomputable def k_RUnfold : Ab.Spec := con1 (ofInt .u64) fun u _ => unfR u
noncomputable def T_RUnfold : CallF := withF T_Unfold 37 k_RUnfold
theorem T_RUnfold_ok : CallOk Try.prog T_RUnfold := con_of (A := annOf [] [] [] false []) fit T_Unfold_ok (fn := Try.f37) (by kernel_rfl) (by kernel_rfl) (by
  intro args objs r h0
  obtain ⟨_, u, rfl, hb, hR⟩ := con1_inv h0
  obtain rfl := ofInt_inv hb
  unfold unfR at hR
  split at hR
  case isFalse => cases hR
  rename_i hu
  obtain ⟨hu0, hu1⟩ := hu
  cases hR
  have e1 : u.tmod 2 = u % 2 := Int.tmod_eq_emod_of_nonneg hu0
  have e2 : u.tdiv 2 = u / 2 := Int.tdiv_eq_ediv_of_nonneg hu0
  have w0 : IntKind.u64.wrap (u / 2) = u / 2 := wrap_u64 (by omega) (by omega)
  have w1 : IntKind.i64.wrap (u / 2) = u / 2 := wrap_small (by omega) (by omega)
  have w2 : IntKind.i64.wrap (-(u / 2)) = -(u / 2) := wrap_small (by omega) (by omega)
  have w2' : IntKind.i64.wrap (0 - u / 2) = -(u / 2) := by rw [wrap_small (by omega) (by omega)]; omega
  have w3 : IntKind.i64.wrap (-(u / 2) - 1) = -(u / 2) - 1 := wrap_small (by omega) (by omega)
  refine .go _ rfl rfl ?_
  by_cases h : u % 2 = 0
  · have e3 : M.unfoldI u = u / 2 := if_pos h
    simp -implicitDefEqProofs (disch := omega) [convV, e1, e2, w0, w1, w2, w2', w3, e3, h]
  · have e3 : M.unfoldI u = -(u / 2) - 1 := if_neg h
    simp -implicitDefEqProofs (disch := omega) [convV, e1, e2, w0, w1, w2, w2', w3, e3, h])

end Go.Proofs.Ytodpdfnnnkcnnaa.B
