import Derived.Test.YtodpdfnnnkcnnaaRk4
set_option linter.unusedSimpArgs false
set_option linter.unusedVariables false
set_option linter.unusedSectionVars false
set_option maxRecDepth 20000
set_option maxHeartbeats 1000000
namespace Go.Proofs.Ytodpdfnnnkcnnaa.B
open Go Go.Ab
theorem in_bytes {D M n : Nat} {v : V} (h : ShpV Try.prog D M n 34 v) : ∃ l, ofInts .u8 v = some l ∧ b8 l = true ∧ l.length ≤ 140737488351232 ∧ (M = 0 ∨ l.length ≤ M) := by
  have hg : Ab.isAgg Try.prog 34 = false := by kernel_rfl
  have h2 : Shp Try.prog D M n 34 v := by unfold ShpV at h; rwa [if_neg (by rw [hg]; simp)] at h
  obtain ⟨l, l1, l2, l3, l4⟩ := shp_ints u34 u5 h2
  have hb : Try.prog.bytesOf 5 = 1 := by kernel_rfl
  rw [hb] at l3
  exact ⟨l, l1, wf_u8 l2, by omega, l4⟩
theorem in_int {D M n : Nat} {v : V} {t : TypeId} {k : IntKind} (hu : Try.prog.underlying t = some (.int k)) (hg : Ab.isAgg Try.prog t = false) (h : ShpV Try.prog D M n t v) : ∃ i, v = .int k i ∧ (Lit.int k i).wf = true := by
  unfold ShpV at h
  rw [if_neg (by rw [hg]; simp)] at h
  exact shp_int hu h
theorem wf_u32 {c : Int} (h : (Lit.int .u32 c).wf = true) : 0 ≤ c ∧ c < 4294967296 := by
  simp [Lit.wf, IntKind.min, IntKind.max] at h; omega
theorem wf_u64 {c : Int} (h : (Lit.int .u64 c).wf = true) : 0 ≤ c ∧ c < 18446744073709551616 := by
  simp [Lit.wf, IntKind.min, IntKind.max] at h; omega
theorem wf_i64 {c : Int} (h : (Lit.int .i64 c).wf = true) : -9223372036854775808 ≤ c ∧ c < 9223372036854775808 := by
  simp [Lit.wf, IntKind.min, IntKind.max] at h; omega
theorem flat : laidFlat Try.prog = true := by kernel_rfl

theorem dn_len {b : List Int} {a0 : Int} : ∀ i, (dn b a0 i).2.1.length ≤ 4096
  | 0 => by simp [dn]
  | i + 1 => by
    have ih := dn_len (b := b) (a0 := a0) i
    rw [dn]
    repeat' split
    all_goals first | assumption | (simp; done) | (simp; omega)
theorem decZ_len {b : List Int} : (decZ b).2.length ≤ 4096 := by
  unfold decZ
  repeat' split
  all_goals first | (simp; done) | exact dn_len _
theorem decZ_err {b : List Int} (h : (decZ b).1 ≠ 0) : (decZ b).2 = [] := by
  unfold decZ at h ⊢
  split
  · rfl
  · rename_i q; rw [if_neg q] at h
    split
    · rfl
    · rename_i q; rw [if_neg q] at h
      split
      · rfl
      · rename_i q; rw [if_neg q] at h
        split
        · rfl
        · rename_i q; rw [if_neg q] at h; exact absurd rfl h
theorem rjV_dec2 {e : Int} {l : List Int} (he : e ≠ 0 → l = []) : ∃ w, demote (rjV (e, l)) = w ∧ ntup w = some w ∧ demote w = w ∧ ofInts .i64 w = some l := by
  by_cases h : e = 0
  · have : rjV (e, l) = .lst (.fresh 1 true) (ints .i64 l) l.length := if_pos h
    rw [this]
    exact ⟨_, rfl, rfl, rfl, by simp [ofInts]⟩
  · have : rjV (e, l) = .nils := if_neg h
    rw [this, he h]
    exact ⟨_, rfl, rfl, rfl, rfl⟩
noncomputable def k_RunsDecodes : Ab.Spec := con1 (ofInts .u8) fun l objs => match objs with | [] => bnd l.length 140737488354900 (if b8 l = true then some (.bool true, none) else none) | _ => none
noncomputable def T_RunsDecodes : CallF := withF T_RefDecode 5 k_RunsDecodes
theorem T_RunsDecodes_ok : CallOk Try.prog T_RunsDecodes := con_of (A := annOf [] [] [(19, [.ref])] false [19]) fit T_RefDecode_ok (fn := Try.f5) (by kernel_rfl) (by kernel_rfl) (by
  intro args objs r h0
  have c_alive : ∀ a o, T_RefDecode 8 a o = k_alive a o := fun _ _ => rfl
  have c_Wide : ∀ a o, T_RefDecode 20 a o = k_Wide a o := fun _ _ => rfl
  have c_Decode : ∀ a o, T_RefDecode 21 a o = k_Decode a o := fun _ _ => rfl
  have c_RefDecode : ∀ a o, T_RefDecode 22 a o = k_RefDecode a o := fun _ _ => rfl
  have c_Apart8 : ∀ a o, T_RefDecode 19 a o = k_Apart8 a o := fun _ _ => rfl
  have c_Intact : ∀ a o, T_RefDecode 23 a o = k_Intact a o := fun _ _ => rfl
  obtain ⟨v, l, rfl, ha, hR⟩ := con1_inv h0
  split at hR
  case h_2 => cases hR
  obtain ⟨hl, hR⟩ := bnd_inv hR
  split at hR
  case isFalse => cases hR
  rename_i hb8
  cases hR
  obtain ⟨vd, vn, vi, -⟩ := bs ha
  refine .go _ rfl rfl ?_
  obtain ⟨J, hJ⟩ : ∃ J, J = (decZ l).2 := ⟨_, rfl⟩
  obtain ⟨e, he⟩ : ∃ e, e = (decZ l).1 := ⟨_, rfl⟩
  have hJl := decZ_len (b := l)
  have hJe := decZ_err (b := l)
  rw [← hJ] at hJl
  rw [← hJ, ← he] at hJe
  obtain ⟨w1, p1, p2, p3, p4⟩ := rjV_dec2 hJe
  have hwl := wide_len l
  have hW : ofInts .u8 (.lst .frozen (ints .u8 (wide l)) (l.length + 64)) = some (wide l) := by simp [ofInts, hwl]
  have hL : ofInts .u8 (.lst .frozen (ints .u8 l) l.length) = some l := by simp [ofInts]
  have htake : (ints .u8 (wide l)).take l.length = ints .u8 l := by simp [wide, ints]
  have hcut : ∀ objs, cutV Try.prog 34 objs (.lst .frozen (ints .u8 (wide l)) (l.length + 64)) none (some (.int .i64 l.length)) none = some (.lst .frozen (ints .u8 l) l.length) := fun objs => by
    simp [cutV, sliceV, boundV, htake]
  by_cases hJ0 : J = []
  · subst hJ0
    have hno : ofInts .i64 .nils = some [] := rfl
    simp -implicitDefEqProofs (disch := omega) [vn, vd, ha, c_alive, k_alive, c_Wide, k_Wide, c_Decode, k_Decode, c_RefDecode, k_RefDecode, c_Apart8, k_Apart8, c_Intact, k_Intact, hW, hL, hcut, hb8, hwl, ← hJ, ← he, p1, p2, p3, p4, joinV_nil, hno]
  · have hj := joinV_ne hJ0
    have hq : ofInts .i64 (.lst .frozen (ints .i64 J) J.length) = some J := by simp [ofInts]
    have hpos : 0 < J.length := List.length_pos_iff.2 hJ0
    have hg0 := getObj_last (objs := []) (cs := ints .i64 J) (v := 0)
    simp -implicitDefEqProofs (disch := omega) [vn, vd, ha, c_alive, k_alive, c_Wide, k_Wide, c_Decode, k_Decode, c_RefDecode, k_RefDecode, c_Apart8, k_Apart8, c_Intact, k_Intact, hW, hL, hcut, hb8, hwl, ← hJ, ← he, p1, p2, p3, p4, hj, getObj_last, hpos, hq, set_last, Ab.getObj])
theorem walk_RunsDecodes {D M n : Nat} {vs : List V} {args : Array Value} {W : World} (hS : ShpAll Try.prog D M n [34] vs) (hA : AR (top W) W vs args.toList) : Calls Try.prog 5 args W fun e W' => e = .returned (.bool true) ∧ Go.RowKit.Below W.heap.size W W' := by
  match vs, hS with
  | [v0], ⟨s0, _⟩ =>
    obtain ⟨l0, d0, b0, n0, -⟩ := in_bytes s0
    refine whole fit T_RunsDecodes_ok (fn := Try.f5) (by kernel_rfl) (by kernel_rfl) ?_ hA
    show k_RunsDecodes [v0] [] = _
    simp (disch := omega) [k_RunsDecodes, d0, b0]

end Go.Proofs.Ytodpdfnnnkcnnaa.B
