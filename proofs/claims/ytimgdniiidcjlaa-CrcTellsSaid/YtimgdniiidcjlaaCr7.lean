import Derived.Test.YtimgdniiidcjlaaCr6
import Derived.Test.YtimgdniiidcjlaaAb23
set_option linter.unusedSimpArgs false
set_option linter.unusedVariables false
set_option linter.unusedSectionVars false
set_option maxRecDepth 20000
namespace Go.Proofs.Ytimgdniiidcjlaa.B
open Go Go.Ab
/-! what a law is handed -/
def b8 (l : List Int) : Bool := l.all fun c => decide (0 ≤ c) && decide (c < 256)
theorem b8_iff {l : List Int} : b8 l = true ↔ ∀ c ∈ l, 0 ≤ c ∧ c < 256 := by simp [b8]
theorem wf_u8 {l : List Int} (h : ∀ c ∈ l, (Lit.int .u8 c).wf = true) : b8 l = true := b8_iff.2 fun c hc => by
  have := h c hc
  simp [Lit.wf, IntKind.min, IntKind.max] at this
  omega
theorem in_bytes {D n : Nat} {v : V} (h : ShpV Try.prog D n 22 v) : ∃ l, ofInts .u8 v = some l ∧ b8 l = true ∧ l.length ≤ 140737488351232 := by
  have hg : Ab.isAgg Try.prog 22 = false := by kernel_rfl
  have h2 : Shp Try.prog D n 22 v := by unfold ShpV at h; rwa [if_neg (by rw [hg]; simp)] at h
  obtain ⟨l, l1, l2, l3⟩ := shp_ints u22 u5 h2
  have hb : Try.prog.bytesOf 5 = 1 := by kernel_rfl
  rw [hb] at l3
  exact ⟨l, l1, wf_u8 l2, by omega⟩
theorem in_int {D n : Nat} {v : V} {t : TypeId} {k : IntKind} (hu : Try.prog.underlying t = some (.int k)) (hg : Ab.isAgg Try.prog t = false) (h : ShpV Try.prog D n t v) : ∃ i, v = .int k i ∧ (Lit.int k i).wf = true := by
  unfold ShpV at h
  rw [if_neg (by rw [hg]; simp)] at h
  exact shp_int hu h
theorem wf_u32 {c : Int} (h : (Lit.int .u32 c).wf = true) : 0 ≤ c ∧ c < 4294967296 := by
  simp [Lit.wf, IntKind.min, IntKind.max] at h; omega
theorem wf_u64 {c : Int} (h : (Lit.int .u64 c).wf = true) : 0 ≤ c ∧ c < 18446744073709551616 := by
  simp [Lit.wf, IntKind.min, IntKind.max] at h; omega
theorem wf_i64 {c : Int} (h : (Lit.int .i64 c).wf = true) : -9223372036854775808 ≤ c ∧ c < 9223372036854775808 := by
  simp [Lit.wf, IntKind.min, IntKind.max] at h; omega
theorem flat : laidFlat Try.prog = true := by kernel_rfl

noncomputable def k_CrcTells : Ab.Spec := con3 (ofInts .u8) (ofInt .i64) (ofInt .u32) fun l k p objs => match objs with | [] => bnd l.length 140737488354000 (if b8 l = true ∧ 0 ≤ p ∧ p < 4294967296 then some (.bool true, none) else none) | _ => none
noncomputable def T_CrcTells : CallF := withF T_alive 5 k_CrcTells
theorem T_CrcTells_ok : CallOk Try.prog T_CrcTells := con_of (A := annOf [] [] [] false []) fit T_alive_ok (fn := Try.f5) (by kernel_rfl) (by kernel_rfl) (by
  intro args objs r h0
  have c_alive : ∀ a o, T_alive 7 a o = k_alive a o := fun _ _ => rfl
  have c_Copy : ∀ a o, T_alive 18 a o = k_Copy a o := fun _ _ => rfl
  have c_Seal : ∀ a o, T_alive 14 a o = k_Seal a o := fun _ _ => rfl
  have c_Turn : ∀ a o, T_alive 19 a o = k_Turn a o := fun _ _ => rfl
  have c_Sealed : ∀ a o, T_alive 16 a o = k_Sealed a o := fun _ _ => rfl
  have c_Same : ∀ a o, T_alive 20 a o = k_Same a o := fun _ _ => rfl
  obtain ⟨v, _, _, l, k, p, rfl, ha, hb, hc, hR⟩ := con3_inv h0
  obtain rfl := ofInt_inv hb
  obtain rfl := ofInt_inv hc
  split at hR
  case h_2 => cases hR
  obtain ⟨hl, hR⟩ := bnd_inv hR
  split at hR
  case isFalse => cases hR
  rename_i hp
  obtain ⟨hl8, hp0, hp1⟩ := hp
  cases hR
  have hB : B8 l := b8_iff.1 hl8
  obtain ⟨vd, vn, vi, -⟩ := bs ha
  have hs := sealZ_B8 hB
  have ht := tells hs (k := k) hp0 hp1 (sealed_seal l)
  have hsl := sealZ_len l
  have htl := turnZ_len (sealZ l) k p
  have e1 : ofInts .u8 (.lst .frozen (ints .u8 l) l.length) = some l := ofInts_lst rfl
  have e2 : ofInts .u8 (.lst .frozen (ints .u8 (sealZ l)) (l.length + 4)) = some (sealZ l) := ofInts_lst (by rw [hsl])
  have e3 : ofInts .u8 (.lst .frozen (ints .u8 (turnZ (sealZ l) k p)) (l.length + 4)) = some (turnZ (sealZ l) k p) := ofInts_lst (by rw [htl, hsl])
  refine .go _ rfl rfl ?_
  simp (disch := omega) [c_alive, c_Copy, c_Seal, c_Turn, c_Sealed, c_Same, k_alive, k_Copy, k_Seal, k_Turn, k_Sealed, k_Same, vd, ha, e1, e2, e3, hsl, htl, hp0, hp1, sealed_seal, ht])
theorem walk_CrcTells {D n : Nat} {vs : List V} {args : Array Value} {W : World} (hS : ShpAll Try.prog D n [22, 3, 25] vs) (hA : AR (top W) W vs args.toList) : Calls Try.prog 5 args W fun e W' => e = .returned (.bool true) ∧ Go.RowKit.Below W.heap.size W W' := by
  match vs, hS with
  | [v0, v1, v2], ⟨s0, s1, s2, _⟩ =>
    obtain ⟨l0, d0, b0, n0⟩ := in_bytes s0
    obtain ⟨i1, rfl, w1⟩ := in_int u3 (by kernel_rfl) s1
    obtain ⟨i2, rfl, w2⟩ := in_int u25 (by kernel_rfl) s2
    refine whole fit T_CrcTells_ok (fn := Try.f5) (by kernel_rfl) (by kernel_rfl) ?_ hA
    obtain ⟨g0, g1⟩ := wf_u32 w2
    show k_CrcTells [v0, .int .i64 i1, .int .u32 i2] [] = _
    simp (disch := omega) [k_CrcTells, d0, b0, g0, g1]

end Go.Proofs.Ytimgdniiidcjlaa.B
