import Derived.Test.YtodpdfnnnkcnnaaRk4
set_option linter.unusedSimpArgs false
set_option linter.unusedVariables false
set_option linter.unusedSectionVars false
set_option maxRecDepth 20000
set_option maxHeartbeats 1000000
namespace Go.Proofs.Ytodpdfnnnkcnnaa.B
open Go Go.Ab
theorem in_bytes {D M n : Nat} {v : V} (h : ShpV Try.prog D M n 34 v) : ∃ l, ofInts .u8 v = some l ∧ b8 l = true ∧ l.length ≤ 140737488351232 ∧ (M = 0 ∨ l.length ≤ M) := by
  have hg : Ab.isAgg Try.prog 34 = false := by kernel_rfl
  have h2 : Shp Try.prog D M n 34 v := by unfold ShpV at h; rwa [if_neg (by rw [hg]; simp)] at h
  obtain ⟨l, l1, l2, l3, l4⟩ := shp_ints u34 u5 h2
  have hb : Try.prog.bytesOf 5 = 1 := by kernel_rfl
  rw [hb] at l3
  exact ⟨l, l1, wf_u8 l2, by omega, l4⟩
theorem in_int {D M n : Nat} {v : V} {t : TypeId} {k : IntKind} (hu : Try.prog.underlying t = some (.int k)) (hg : Ab.isAgg Try.prog t = false) (h : ShpV Try.prog D M n t v) : ∃ i, v = .int k i ∧ (Lit.int k i).wf = true := by
  unfold ShpV at h
  rw [if_neg (by rw [hg]; simp)] at h
  exact shp_int hu h
theorem wf_u32 {c : Int} (h : (Lit.int .u32 c).wf = true) : 0 ≤ c ∧ c < 4294967296 := by
  simp [Lit.wf, IntKind.min, IntKind.max] at h; omega
theorem wf_u64 {c : Int} (h : (Lit.int .u64 c).wf = true) : 0 ≤ c ∧ c < 18446744073709551616 := by
  simp [Lit.wf, IntKind.min, IntKind.max] at h; omega
theorem wf_i64 {c : Int} (h : (Lit.int .i64 c).wf = true) : -9223372036854775808 ≤ c ∧ c < 9223372036854775808 := by
  simp [Lit.wf, IntKind.min, IntKind.max] at h; omega
theorem flat : laidFlat Try.prog = true := by kernel_rfl

/-! putting a number -/
theorem or128 {x : Int} (h0 : 0 ≤ x) (h1 : x < 256) : Go.bits .or .u8 x 128 = x % 128 + 128 := by
  have : ∀ n : Fin 256, Go.bits .or .u8 ((n.val : Nat) : Int) 128 = ((n.val : Nat) : Int) % 128 + 128 := by decide +kernel
  have h := this ⟨x.toNat, by omega⟩
  rwa [show ((x.toNat : Nat) : Int) = x by omega] at h
def putVR (u : Int) : Option Res := if 0 ≤ u ∧ u < 18446744073709551616 then some (.lst (.fresh 1 true) (ints .u8 (M.putL u.toNat)) (M.putL u.toNat).length, none) else none
theorem putVR_nat {u : Nat} (h : u < 18446744073709551616) : putVR u = some (.lst (.fresh 1 true) (ints .u8 (M.putL u)) (M.putL u).length, none) := by
  unfold putVR; rw [if_pos (by omega), Int.toNat_natCast]
noncomputable def k_VPut : Ab.Spec := con1 (ofInt .u64) fun u _ => putVR u
noncomputable def T_VPut : CallF := withF T_RefDecode 27 k_VPut
theorem T_VPut_ok : CallOk Try.prog T_VPut := con_of (A := annOf [] [11,18] [] false []) fit T_RefDecode_ok (fn := Try.f27) (by kernel_rfl) (by kernel_rfl) (by
  intro args objs r h0
  obtain ⟨_, u0, rfl, hb, hR⟩ := con1_inv h0
  obtain rfl := ofInt_inv hb
  unfold putVR at hR
  split at hR
  case isFalse => cases hR
  rename_i hu
  obtain ⟨hu0, hu1⟩ := hu
  cases hR
  obtain ⟨U, rfl⟩ := Int.eq_ofNat_of_zero_le hu0
  rw [Int.toNat_natCast]
  have hlen := M.putL_len10 (u := U) (by omega)
  obtain ⟨W, hW⟩ : ∃ W, W = M.putL U := ⟨_, rfl⟩
  rw [← hW] at hlen ⊢
  refine .go _ rfl rfl ?_
  simp
  refine .dn U (fun n s => n ≤ U ∧ s.env 0 = .int .u64 n ∧ s.toks = [] ∧ s.low = objs.length ∧ ∃ p, p ++ M.putL n = W ∧ (p = [] ∧ s.env 3 = .nils ∧ s.objs = objs ∨ p ≠ [] ∧ s.env 3 = .ref objs.length (p.length - 1) 0 p.length 1 ∧ s.objs = objs ++ [.cells (ints .u8 p) (p.length - 1)])) (by simp; exact hW.symm) ?_
  rintro n s ⟨hnU, g0, ht, hlo, p, hp, h3⟩
  have hpl := congrArg List.length hp
  rw [List.length_append] at hpl
  have hpos := M.putL_pos n
  have wu8 : IntKind.u8.wrap (n : Int) = (n : Int) % 256 := rfl
  have hfd : (n : Int).fdiv 128 = ((n / 128 : Nat) : Int) := by rw [Int.fdiv_eq_ediv_of_nonneg _ (by decide)]; omega
  by_cases hn : n < 128
  · rw [M.putL_small hn] at hp
    have hwb : IntKind.u8.wrap (n : Int) = n := wrap_u8 (by omega) (by omega)
    have hge : ¬ (128 : Int) ≤ n := by omega
    rcases h3 with ⟨rfl, g3, ho⟩ | ⟨hne, g3, ho⟩
    · have hpW : W = [(n : Int)] := hp.symm
      subst hpW
      simp -implicitDefEqProofs (disch := omega) [g0, g3, ht, hlo, ho, hge, convV, hwb, blit1, getObj_last]
      exact rfl
    · obtain ⟨k, hk⟩ : ∃ k, p.length = k + 1 := ⟨p.length - 1, by have := List.length_pos_iff.2 hne; omega⟩
      rw [hk] at g3 ho
      have hWl : W.length = k + 2 := by rw [← hp]; simp [hk]
      have es : ints .u8 p ++ [.int .u8 n] = ints .u8 W := by rw [← hp]; simp [ints]
      simp -implicitDefEqProofs (disch := omega) [g0, g3, ht, hlo, ho, hge, convV, hwb, blit1, getObj_last, set_last, hk, es, hWl]
  · have hge : (128 : Int) ≤ n := by omega
    rw [M.putL_big hn] at hp
    have hor : Go.bits .or .u8 ((n : Int) % 256) 128 = ((n % 128 + 128 : Nat) : Int) := by rw [or128 (by omega) (by omega)]; omega
    have hp' : p ++ [((n % 128 + 128 : Nat) : Int)] ++ M.putL (n / 128) = W := by rw [List.append_assoc]; exact hp
    have hlt : n / 128 < n := by omega
    have hle : n / 128 ≤ U := by omega
    rcases h3 with ⟨rfl, g3, ho⟩ | ⟨hne, g3, ho⟩
    · simp -implicitDefEqProofs (disch := omega) [g0, g3, ht, hlo, ho, hge, convV, wu8, hor, hfd, blit1, getObj_last]
      exact ⟨n / 128, hlt, hle, by omega, [((n % 128 + 128 : Nat) : Int)], hp', by simp, ⟨rfl, rfl⟩, by simp [ints], rfl⟩
    · obtain ⟨k, hk⟩ : ∃ k, p.length = k + 1 := ⟨p.length - 1, by have := List.length_pos_iff.2 hne; omega⟩
      rw [hk] at g3 ho
      have es : ints .u8 p ++ [.int .u8 ((n % 128 + 128 : Nat) : Int)] = ints .u8 (p ++ [((n % 128 + 128 : Nat) : Int)]) := by simp [ints]
      simp -implicitDefEqProofs (disch := omega) [g0, g3, ht, hlo, ho, hge, convV, wu8, hor, hfd, blit1, getObj_last, set_last, hk]
      exact ⟨n / 128, hlt, hle, by omega, p ++ [((n % 128 + 128 : Nat) : Int)], hp', by simp, ⟨by simp [hk], by simp [hk]⟩, by simp, by simp [hk]⟩)
def foldVR (v : Int) : Option Res := if -9223372036854775808 ≤ v ∧ v < 9223372036854775808 then some (.int .u64 (M.foldI v), none) else none
noncomputable def k_Fold : Ab.Spec := con1 (ofInt .i64) fun v _ => foldVR v
noncomputable def T_Fold : CallF := withF T_VPut 28 k_Fold
theorem T_Fold_ok : CallOk Try.prog T_Fold := con_of (A := annOf [] [] [] false []) fit T_VPut_ok (fn := Try.f28) (by kernel_rfl) (by kernel_rfl) (by
  intro args objs r h0
  obtain ⟨_, v, rfl, hb, hR⟩ := con1_inv h0
  obtain rfl := ofInt_inv hb
  unfold foldVR at hR
  split at hR
  case isFalse => cases hR
  rename_i hu
  obtain ⟨hu0, hu1⟩ := hu
  cases hR
  refine .go _ rfl rfl ?_
  by_cases h : 0 ≤ v
  · have e1 : v.fdiv 9223372036854775808 = 0 := by rw [Int.fdiv_eq_ediv_of_nonneg _ (by decide)]; omega
    have e2 : IntKind.u64.wrap (IntKind.i64.wrap (v * 2)) = v * 2 := by
      have : IntKind.i64.wrap (v * 2) = Go.RowKit.wrap64 (v * 2) := by simp [IntKind.wrap, Go.RowKit.wrap64]; omega
      rw [this, M.u64r]; unfold Go.RowKit.wrap64; omega
    have e3 : M.foldI v = v * 2 := by unfold M.foldI; rw [if_pos h]; omega
    have e4 : IntKind.u64.wrap 0 = 0 := rfl
    have e5 : Go.bits .xor .u64 (v * 2) 0 = v * 2 := M.xor_zero (by omega) (by omega)
    simp -implicitDefEqProofs (disch := omega) [convV, e1, e2, e3, e4, e5]
  · have e1 : v.fdiv 9223372036854775808 = -1 := by rw [Int.fdiv_eq_ediv_of_nonneg _ (by decide)]; omega
    have e2 : IntKind.u64.wrap (IntKind.i64.wrap (v * 2)) = v * 2 + 18446744073709551616 := by
      have : IntKind.i64.wrap (v * 2) = Go.RowKit.wrap64 (v * 2) := by simp [IntKind.wrap, Go.RowKit.wrap64]; omega
      rw [this, M.u64r]; unfold Go.RowKit.wrap64; omega
    have e3 : M.foldI v = -2 * v - 1 := by unfold M.foldI; rw [if_neg h]
    have e4 : IntKind.u64.wrap (-1) = 18446744073709551615 := rfl
    have e5 : Go.bits .xor .u64 (v * 2 + 18446744073709551616) 18446744073709551615 = -2 * v - 1 := by rw [M.xor_all (by omega) (by omega)]; omega
    simp -implicitDefEqProofs (disch := omega) [convV, e1, e2, e3, e4, e5])

end Go.Proofs.Ytodpdfnnnkcnnaa.B
