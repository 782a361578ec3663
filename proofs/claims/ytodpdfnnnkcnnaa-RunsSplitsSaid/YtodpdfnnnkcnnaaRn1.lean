import Derived.Test.YtodpdfnnnkcnnaaRk7
set_option linter.unusedSimpArgs false
set_option linter.unusedVariables false
set_option linter.unusedSectionVars false
set_option maxRecDepth 20000
set_option maxHeartbeats 1000000
namespace Go.Proofs.Ytodpdfnnnkcnnaa.B
open Go Go.Ab
noncomputable def k_RPut : Ab.Spec := con1 (ofInt .u64) fun u _ => putVR u
noncomputable def T_RPut : CallF := withF T_Encode 29 k_RPut
theorem T_RPut_ok : CallOk Try.prog T_RPut := con_of (A := annOf [] [4,13,20] [] false []) fit T_Encode_ok (fn := Try.f29) (by kernel_rfl) (by kernel_rfl) (by
  intro args objs r h0
  obtain ⟨_, u0, rfl, hb, hR⟩ := con1_inv h0
  obtain rfl := ofInt_inv hb
  unfold putVR at hR
  split at hR
  case isFalse => cases hR
  rename_i hu
  obtain ⟨hu0, hu1⟩ := hu
  cases hR
  obtain ⟨U, rfl⟩ := Int.eq_ofNat_of_zero_le hu0
  rw [Int.toNat_natCast]
  have hlen := M.putL_len10 (u := U) (by omega)
  obtain ⟨W, hW⟩ : ∃ W, W = M.putL U := ⟨_, rfl⟩
  rw [← hW] at hlen ⊢
  refine .go _ rfl rfl ?_
  simp [blit0]
  obtain ⟨I, hI⟩ : ∃ I : Nat → St → Prop, I = (fun (n : Nat) (s : St) => n ≤ U ∧ s.env 0 = .int .u64 n ∧ s.toks = [] ∧ s.low = objs.length ∧ ∃ p, p ++ M.putL n = W ∧ s.env 3 = .ref objs.length p.length 0 p.length 1 ∧ s.objs = objs ++ [.cells (ints .u8 p) p.length]) := ⟨_, rfl⟩
  refine .dn U I (by rw [hI]; exact ⟨Nat.le_refl _, by simp, by simp, by simp, [], by simp [hW], by simp, by simp [ints_nil]⟩) ?_
  intro n s hs
  rw [hI] at hs
  obtain ⟨hnU, g0, ht, hlo, p, hp, h3, ho⟩ := hs
  have hpl := congrArg List.length hp
  rw [List.length_append] at hpl
  have hpos := M.putL_pos n
  by_cases hlt : n < 128
  · have hge : ¬ (127 : Int) < (n : Int) := by omega
    have wu8 : IntKind.u8.wrap (n : Int) = n := wrap_u8 (by omega) (by omega)
    rw [M.putL_small hlt] at hp
    have es : ints .u8 p ++ [.int .u8 (n : Int)] = ints .u8 W := by rw [← hp]; simp [ints]
    have hWl : W.length = p.length + 1 := by rw [← hp]; simp
    simp -implicitDefEqProofs (disch := omega) [g0, h3, ht, hlo, ho, hge, convV, wu8, blit1, getObj_last, set_last, es, hWl, Nat.mod_one]
  · have hge : (127 : Int) < (n : Int) := by omega
    have wr : (n : Int).tmod 128 = ((n % 128 : Nat) : Int) := by rw [Int.tmod_eq_emod_of_nonneg (by omega)]; omega
    have wa : IntKind.u64.wrap (((n % 128 : Nat) : Int) + 128) = ((n % 128 + 128 : Nat) : Int) := by rw [wrap_u64 (by omega) (by omega)]; omega
    have wu8 : IntKind.u8.wrap ((n % 128 + 128 : Nat) : Int) = ((n % 128 + 128 : Nat) : Int) := wrap_u8 (by omega) (by omega)
    have wq : IntKind.u64.wrap ((n : Int).tdiv 128) = ((n / 128 : Nat) : Int) := by rw [Int.tdiv_eq_ediv_of_nonneg (by omega), wrap_u64 (by omega) (by omega)]; omega
    have h0 : ((n : Int).tdiv 128) = ((n / 128 : Nat) : Int) := by rw [Int.tdiv_eq_ediv_of_nonneg (by omega)]; omega
    rw [M.putL_big hlt] at hp
    obtain ⟨c, hc⟩ : ∃ c : Int, c = ((n % 128 + 128 : Nat) : Int) := ⟨_, rfl⟩
    obtain ⟨m, hm⟩ : ∃ m : Nat, m = n % 128 := ⟨_, rfl⟩
    obtain ⟨q, hq⟩ : ∃ q : Nat, q = n / 128 := ⟨_, rfl⟩
    have hqn : q < n := by omega
    have hp' : (p ++ [c]) ++ M.putL q = W := by rw [hc, hq, ← hp]; simp
    rw [← hc] at wa wu8
    rw [← hm] at wr wa
    rw [← hq] at wq
    have wq2 : IntKind.u64.wrap ((n : Int) / 128) = (q : Int) := by rw [wrap_u64 (by omega) (by omega)]; omega
    simp -implicitDefEqProofs (disch := omega) [g0, h3, ht, hlo, ho, hge, convV, wr, wa, wu8, wq, wq2, blit1, getObj_last, set_last, Nat.mod_one]
    rw [hI]
    exact ⟨q, hqn, by omega, by simp, by simp, by simp, p ++ [c], hp', by simp, by simp [ints]⟩)
noncomputable def k_RFold : Ab.Spec := con1 (ofInt .i64) fun v _ => foldVR v
noncomputable def T_RFold : CallF := withF T_RPut 30 k_RFold
theorem T_RFold_ok : CallOk Try.prog T_RFold := con_of (A := annOf [] [] [] false []) fit T_RPut_ok (fn := Try.f30) (by kernel_rfl) (by kernel_rfl) (by
  intro args objs r h0
  obtain ⟨_, v, rfl, hb, hR⟩ := con1_inv h0
  obtain rfl := ofInt_inv hb
  unfold foldVR at hR
  split at hR
  case isFalse => cases hR
  rename_i hu
  obtain ⟨hu0, hu1⟩ := hu
  cases hR
  refine .go _ rfl rfl ?_
  by_cases h : 0 ≤ v
  · have e3 : M.foldI v = v * 2 := by unfold M.foldI; rw [if_pos h]; omega
    have e1 : IntKind.u64.wrap v = v := wrap_u64 (by omega) (by omega)
    have e2 : IntKind.u64.wrap (v * 2) = v * 2 := wrap_u64 (by omega) (by omega)
    simp -implicitDefEqProofs (disch := omega) [convV, e1, e2, e3, h]
  · have e3 : M.foldI v = -2 * v - 1 := by unfold M.foldI; rw [if_neg h]
    have e1 : IntKind.i64.wrap (v + 1) = v + 1 := wrap_small (by omega) (by omega)
    have e2 : IntKind.i64.wrap (0 - (v + 1)) = -(v + 1) := by rw [wrap_small (by omega) (by omega)]; omega
    have e2' : IntKind.i64.wrap (-(v + 1)) = -(v + 1) := wrap_small (by omega) (by omega)
    have e4 : IntKind.u64.wrap (-(v + 1)) = -(v + 1) := wrap_u64 (by omega) (by omega)
    have e5 : IntKind.u64.wrap (-(v + 1) * 2) = -(v + 1) * 2 := wrap_u64 (by omega) (by omega)
    have e6 : IntKind.u64.wrap (-(v + 1) * 2 + 1) = -2 * v - 1 := by rw [wrap_u64 (by omega) (by omega)]; omega
    have e7 : 0 - (v + 1) = -(v + 1) := by omega
    simp -implicitDefEqProofs (disch := omega) [convV, e1, e2, e2', e3, e4, e5, e6, e7, h])

end Go.Proofs.Ytodpdfnnnkcnnaa.B
