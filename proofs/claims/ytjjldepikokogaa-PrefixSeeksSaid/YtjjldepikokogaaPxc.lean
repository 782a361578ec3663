import Derived.Test.YtjjldepikokogaaPxb
set_option linter.unusedSimpArgs false
set_option linter.unusedVariables false
set_option linter.unusedSectionVars false
set_option maxRecDepth 20000
set_option maxHeartbeats 1000000
namespace Go.Proofs.Ytjjldepikokogaa.B
open Go Go.Ab
theorem in_int {D M n : Nat} {v : V} {t : TypeId} {k : IntKind} (hu : Try.prog.underlying t = some (.int k)) (hg : Ab.isAgg Try.prog t = false) (h : ShpV Try.prog D M n t v) : ∃ i, v = .int k i ∧ (Lit.int k i).wf = true := by
  unfold ShpV at h
  rw [if_neg (by rw [hg]; simp)] at h
  exact shp_int hu h
theorem wf_u32 {c : Int} (h : (Lit.int .u32 c).wf = true) : 0 ≤ c ∧ c < 4294967296 := by
  simp [Lit.wf, IntKind.min, IntKind.max] at h; omega
theorem wf_u64 {c : Int} (h : (Lit.int .u64 c).wf = true) : 0 ≤ c ∧ c < 18446744073709551616 := by
  simp [Lit.wf, IntKind.min, IntKind.max] at h; omega
theorem wf_i64 {c : Int} (h : (Lit.int .i64 c).wf = true) : -9223372036854775808 ≤ c ∧ c < 9223372036854775808 := by
  simp [Lit.wf, IntKind.min, IntKind.max] at h; omega
theorem flat : laidFlat Try.prog = true := by kernel_rfl

theorem in_texts {D M n : Nat} {v : V} (h : ShpV Try.prog D M n 22 v) : ∃ ss, ofList (ofInts .u8) v = some ss ∧ (∀ s ∈ ss, b8 s = true ∧ s.length ≤ 140737488351232 ∧ (M = 0 ∨ s.length ≤ M)) ∧ ss.length * 24 ≤ 140737488351232 ∧ (M = 0 ∨ ss.length ≤ M) := by
  have hg : Ab.isAgg Try.prog 22 = false := by kernel_rfl
  have hg2 : Ab.isAgg Try.prog 25 = false := by kernel_rfl
  have h2 : Shp Try.prog D M n 22 v := by unfold ShpV at h; rwa [if_neg (by rw [hg]; simp)] at h
  obtain ⟨l, l1, l2, l3, l4⟩ := shp_list (d := ofInts .u8) (R := fun s => b8 s = true ∧ s.length ≤ 140737488351232 ∧ (M = 0 ∨ s.length ≤ M)) u22 hg2 (fun m u hu => by
    obtain ⟨s, s1, s2, s3, s4⟩ := shp_ints u25 u5 hu
    have hb : Try.prog.bytesOf 5 = 1 := by kernel_rfl
    rw [hb] at s3
    exact ⟨s, s1, wf_u8 s2, by omega, s4⟩) h2
  have hb : Try.prog.bytesOf 25 = 24 := by kernel_rfl
  rw [hb] at l3
  exact ⟨l, l1, l2, by omega, l4⟩
noncomputable def k_PrefixEncodes : Ab.Spec := con1 (ofList (ofInts .u8)) fun ss objs => match objs with | [] => bnd (ss.length * 24) 140737488355328 (if shortT ss = true then some (.bool true, none) else none) | _ => none
noncomputable def T_PrefixEncodes : CallF := withF T_alive 3 k_PrefixEncodes
theorem T_PrefixEncodes_ok : CallOk Try.prog T_PrefixEncodes := con_of (A := annOf [] [] [(16, [.ref]),(21, [.ref])] false [11]) fit T_alive_ok (fn := Try.f3) (by kernel_rfl) (by kernel_rfl) (by
  intro args objs r h0
  have c_alive : ∀ a o, T_alive 7 a o = k_alive a o := fun _ _ => rfl
  have c_Copy10 : ∀ a o, T_alive 8 a o = k_Copy10 a o := fun _ _ => rfl
  have c_pEncode : ∀ a o, T_alive 9 a o = k_pEncode a o := fun _ _ => rfl
  have c_rpEncode : ∀ a o, T_alive 10 a o = k_rpEncode a o := fun _ _ => rfl
  have c_Apart : ∀ a o, T_alive 11 a o = k_Apart a o := fun _ _ => rfl
  have c_Same10 : ∀ a o, T_alive 12 a o = k_Same10 a o := fun _ _ => rfl
  obtain ⟨v, ss, rfl, ha, hR⟩ := con1_inv h0
  split at hR
  case h_2 => cases hR
  obtain ⟨hl, hR⟩ := bnd_inv hR
  split at hR
  case isFalse => cases hR
  rename_i hall
  cases hR
  obtain ⟨vd, vn, cs, vi, vc⟩ := tx ha
  have e1 := txV_of (ss := ss) rfl
  have hap0 := apart_nil (u := .nils) rfl
  refine .go _ rfl rfl ?_
  by_cases hb : encBad ss = true
  · simp -implicitDefEqProofs (disch := omega) [c_alive, c_Copy10, c_pEncode, c_rpEncode, c_Apart, c_Same10, k_alive, k_Copy10, k_pEncode, k_rpEncode, hap0, k_Same10, vd, ha, e1, hall, hb, clean]
  · have hb : encBad ss = false := by simpa using hb
    obtain ⟨h1, h2⟩ := not_bad hb
    have hl2 := encT_len h1 ss.length h2
    have hl3 : (encP ss).length ≤ 10 + 220 * ss.length := hl2
    have hpos : 0 < (encP ss).length := by have := M.putL_pos ss.length; simp [encP, encT]; omega
    have e2 : ofInts .u8 (.lst .frozen (ints .u8 (encP ss)) (encP ss).length) = some (encP ss) := ofInts_lst rfl
    have hap := apart_two (n := (encP ss).length) rfl hpos (by omega) e2
    simp -implicitDefEqProofs (disch := omega) [c_alive, c_Copy10, c_pEncode, c_rpEncode, c_Apart, c_Same10, k_alive, k_Copy10, k_pEncode, k_rpEncode, hap, k_Same10, vd, ha, e1, hall, hb, clean])
theorem walk_PrefixEncodes {D M n : Nat} {vs : List V} {args : Array Value} {W : World} (hS : ShpAll Try.prog D M n [22] vs) (hA : AR (top W) W vs args.toList) : Calls Try.prog 3 args W fun e W' => e = .returned (.bool true) ∧ Go.RowKit.Below W.heap.size W W' := by
  match vs, hS with
  | [v0], ⟨s0, _⟩ =>
    obtain ⟨ss, d0, b0, n0, -⟩ := in_texts s0
    have hall : shortT ss = true   := shortT_iff.2 fun s hs => (by have := (b0 s hs).2.1; omega)
    refine whole fit T_PrefixEncodes_ok (fn := Try.f3) (by kernel_rfl) (by kernel_rfl) ?_ hA
    show k_PrefixEncodes [v0] [] = _
    simp (disch := omega) [k_PrefixEncodes, d0, hall]

end Go.Proofs.Ytjjldepikokogaa.B
