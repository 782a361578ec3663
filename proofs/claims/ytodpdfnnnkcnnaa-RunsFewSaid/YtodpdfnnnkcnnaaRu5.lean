import Derived.Test.YtodpdfnnnkcnnaaRu4
set_option linter.unusedSimpArgs false
set_option linter.unusedVariables false
set_option linter.unusedSectionVars false
set_option maxRecDepth 20000
namespace Go.Proofs.Ytodpdfnnnkcnnaa.B
open Go Go.Ab
/-! what a law is handed -/
def b8 (l : List Int) : Bool := l.all fun c => decide (0 ≤ c) && decide (c < 256)
theorem b8_iff {l : List Int} : b8 l = true ↔ ∀ c ∈ l, 0 ≤ c ∧ c < 256 := by simp [b8]
theorem wf_u8 {l : List Int} (h : ∀ c ∈ l, (Lit.int .u8 c).wf = true) : b8 l = true := b8_iff.2 fun c hc => by
  have := h c hc
  simp [Lit.wf, IntKind.min, IntKind.max] at this
  omega

theorem in_int {D M n : Nat} {v : V} {t : TypeId} {k : IntKind} (hu : Try.prog.underlying t = some (.int k)) (hg : Ab.isAgg Try.prog t = false) (h : ShpV Try.prog D M n t v) : ∃ i, v = .int k i ∧ (Lit.int k i).wf = true := by
  unfold ShpV at h
  rw [if_neg (by rw [hg]; simp)] at h
  exact shp_int hu h
theorem wf_u32 {c : Int} (h : (Lit.int .u32 c).wf = true) : 0 ≤ c ∧ c < 4294967296 := by
  simp [Lit.wf, IntKind.min, IntKind.max] at h; omega
theorem wf_u64 {c : Int} (h : (Lit.int .u64 c).wf = true) : 0 ≤ c ∧ c < 18446744073709551616 := by
  simp [Lit.wf, IntKind.min, IntKind.max] at h; omega
theorem wf_i64 {c : Int} (h : (Lit.int .i64 c).wf = true) : -9223372036854775808 ≤ c ∧ c < 9223372036854775808 := by
  simp [Lit.wf, IntKind.min, IntKind.max] at h; omega
theorem flat : laidFlat Try.prog = true := by kernel_rfl

def r64 (l : List Int) : Bool := l.all fun c => decide (-9223372036854775808 ≤ c) && decide (c < 9223372036854775808)
theorem r64_iff {l : List Int} : r64 l = true ↔ ∀ c ∈ l, -9223372036854775808 ≤ c ∧ c < 9223372036854775808 := by simp [r64]
theorem in_nums {D M n : Nat} {v : V} (h : ShpV Try.prog D M n 22 v) : ∃ l, ofInts .i64 v = some l ∧ r64 l = true ∧ l.length * 8 ≤ 140737488351232 ∧ (M = 0 ∨ l.length ≤ M) := by
  have hg : Ab.isAgg Try.prog 22 = false := by kernel_rfl
  have h2 : Shp Try.prog D M n 22 v := by unfold ShpV at h; rwa [if_neg (by rw [hg]; simp)] at h
  obtain ⟨l, l1, l2, l3, l4⟩ := shp_ints u22 u2 h2
  have hb : Try.prog.bytesOf 2 = 8 := by kernel_rfl
  rw [hb] at l3
  exact ⟨l, l1, r64_iff.2 fun c hc => wf_i64 (l2 c hc), by omega, l4⟩

theorem walk_RunsFew {D M n : Nat} {vs : List V} {args : Array Value} {W : World} (hS : ShpAll Try.prog D M n [22] vs) (hA : AR (top W) W vs args.toList) : Calls Try.prog 7 args W fun e W' => e = .returned (.bool true) ∧ Go.RowKit.Below W.heap.size W W' := by
  match vs, hS with
  | [v0], ⟨s0, _⟩ =>
    obtain ⟨l0, d0, b0, n0, -⟩ := in_nums s0
    refine whole fit T_RunsFew_ok (fn := Try.f7) (by kernel_rfl) (by kernel_rfl) ?_ hA
    show k_RunsFew [v0] [] = _
    simp (disch := omega) [k_RunsFew, d0]

end Go.Proofs.Ytodpdfnnnkcnnaa.B
