import Derived.Test.YtodpdfnnnkcnnaaRn2
set_option linter.unusedSimpArgs false
set_option linter.unusedVariables false
set_option linter.unusedSectionVars false
set_option maxRecDepth 20000
set_option maxHeartbeats 1000000
namespace Go.Proofs.Ytodpdfnnnkcnnaa.B
open Go Go.Ab
noncomputable def k_RefEncode : Ab.Spec := con1 (ofInts .i64) fun l _ => bnd l.length 140737488355000 (if r64' l = true then some (if 4096 < l.length then .tup [.nils, .int .i64 4] else .tup [.lst .frozen (ints .u8 (encL (splitI l l.length))) (encL (splitI l l.length)).length, .int .i64 0], none) else none)
noncomputable def T_RefEncode : CallF := withF T_RefSplit 14 k_RefEncode
theorem T_RefEncode_ok : CallOk Try.prog T_RefEncode := con_of (A := annOf [] [] [] false []) fit T_RefSplit_ok (fn := Try.f14) (by kernel_rfl) (by kernel_rfl) (by
  intro args objs r h0
  have c_RefSplit : ∀ a o, T_RefSplit 11 a o = k_RefSplit a o := fun _ _ => rfl
  have c_RPut : ∀ a o, T_RefSplit 29 a o = k_RPut a o := fun _ _ => rfl
  have c_RFold : ∀ a o, T_RefSplit 30 a o = k_RFold a o := fun _ _ => rfl
  have c_Cat : ∀ a o, T_RefSplit 24 a o = k_Cat a o := fun _ _ => rfl
  obtain ⟨v, l, rfl, ha, hR⟩ := con1_inv h0
  obtain ⟨hl, hR⟩ := bnd_inv hR
  split at hR
  case isFalse => cases hR
  rename_i hr64
  cases hR
  have hr := r64'_iff.1 hr64
  obtain ⟨vd, vn, vi, -⟩ := ns ha
  refine .go _ rfl rfl ?_
  by_cases hbig : 4096 < l.length
  · simp -implicitDefEqProofs (disch := omega) [vn, vd, ha, hbig, c_RefSplit, k_RefSplit]
  have hval := splitI_val hr l.length (Nat.le_refl _)
  have hcnt := splitI_cnt l l.length
  have hSle := splitI_le l l.length
  obtain ⟨S, hS⟩ : ∃ S, S = splitI l l.length := ⟨_, rfl⟩
  rw [← hS] at hval hcnt hSle ⊢
  have hb20 : ∀ r ∈ S, (runB r).length ≤ 20 := fun r hr2 => by
    have h1 := hval r hr2
    have h2 := hcnt r hr2
    have h3 := foldI_range h1.1 h1.2
    exact runB_len (by omega) (by omega)
  obtain ⟨E, hE⟩ : ∃ E : Nat → List Int, E = fun j => M.putL S.length ++ (S.take j).flatMap runB := ⟨_, rfl⟩
  have hEn : E S.length = encL S := by rw [hE]; simp [encL]
  have hE0 : E 0 = M.putL S.length := by rw [hE]; simp
  have p10 := M.putL_len10 (u := S.length) (by omega)
  have hEl : ∀ j, j ≤ S.length → (E j).length ≤ 10 + 20 * j := fun j hj => by rw [hE]; have := encT_len hb20 j hj; simp only [List.length_append]; omega
  have hpn : putVR (S.length : Int) = some (.lst (.fresh 1 true) (ints .u8 (E 0)) (E 0).length, none) := by rw [putVR_nat (by omega), hE0]
  have hds : ofRuns (.lst .frozen (flatV runV S) S.length) = some S := ofRecL_lst runV_len ofRun_run rfl
  obtain ⟨sd, sn, si, -⟩ := rs hds
  have wS : IntKind.u64.wrap (S.length : Int) = S.length := wrap_u64 (by omega) (by omega)
  simp -implicitDefEqProofs (disch := omega) [vn, vd, ha, hbig, c_RefSplit, k_RefSplit, ← hS, c_RPut, k_RPut, hpn, convV, wS]
  refine .up S.length (fun i s => s.env 4 = .lst .frozen (flatV runV S) S.length ∧ s.env 6 = .lst .frozen (ints .u8 (E i)) (E i).length ∧ s.env 7 = .int .i64 i ∧ s.toks = [] ∧ s.objs = objs ∧ s.low = objs.length) (by simp) ?_
  rintro i s hi ⟨h4, h6, h7, ht, ho, hlo⟩
  rcases Nat.lt_or_ge i S.length with h | h
  · have fv := run_val h
    have fc := run_cnt h
    have fv' := of_get fv
    have fc' := of_get fc
    have hv := hval _ (nth_mem h)
    have hc := hcnt _ (nth_mem h)
    obtain ⟨r, hre⟩ : ∃ r, r = nth S i := ⟨_, rfl⟩
    rw [← hre] at fv fc fv' fc' hv hc
    have hf := foldI_range hv.1 hv.2
    have e1 := si .i64 i (by omega) (by omega)
    rw [Int.toNat_natCast] at e1
    obtain ⟨A, hA⟩ : ∃ A, A = M.putL (M.foldI r.1).toNat := ⟨_, rfl⟩
    obtain ⟨B, hBB⟩ : ∃ B, B = M.putL r.2.toNat := ⟨_, rfl⟩
    have hAl := M.putL_len10 (u := (M.foldI r.1).toNat) (by omega)
    have hBl := M.putL_len10 (u := r.2.toNat) (by omega)
    rw [← hA] at hAl
    rw [← hBB] at hBl
    have q1 : foldVR r.1 = some (.int .u64 (M.foldI r.1), none) := foldVR_eq hv.1 hv.2
    have q2 : putVR (M.foldI r.1) = some (.lst (.fresh 1 true) (ints .u8 A) A.length, none) := by rw [hA]; exact putVR_eq hf.1 hf.2
    have q3 : putVR r.2 = some (.lst (.fresh 1 true) (ints .u8 B) B.length, none) := by rw [hBB]; exact putVR_eq (by omega) (by omega)
    have wc : IntKind.u64.wrap r.2 = r.2 := wrap_u64 (by omega) (by omega)
    have hEi := hEl i (by omega)
    have eE : ofInts .u8 (.lst .frozen (ints .u8 (E i)) (E i).length) = some (E i) := ofInts_lst rfl
    have eA : ofInts .u8 (.lst .frozen (ints .u8 A) A.length) = some A := ofInts_lst rfl
    have eB : ofInts .u8 (.lst .frozen (ints .u8 B) B.length) = some B := ofInts_lst rfl
    have eEA : ofInts .u8 (.lst .frozen (ints .u8 (E i ++ A)) ((E i).length + A.length)) = some (E i ++ A) := ofInts_lst (by simp)
    have es : E (i + 1) = E i ++ A ++ B := by rw [hE, hA, hBB, hre]; exact encT_succ h
    have hfl := flatV_len runV_len S
    have k1 : i * 2 + 1 < S.length * 2 := by omega
    simp -implicitDefEqProofs (disch := omega) [h4, h6, h7, ht, ho, hlo, e1, h, fv, fc, fv', fc', c_RFold, k_RFold, c_RPut, k_RPut, c_Cat, k_Cat, q1, q2, q3, convV, wc, eE, eA, eB, eEA, es, wrap_small, hfl, k1]
    try omega
  · obtain rfl : i = S.length := by omega
    simp -implicitDefEqProofs (disch := omega) [h4, h6, h7, ht, ho, hlo, hEn])

end Go.Proofs.Ytodpdfnnnkcnnaa.B
