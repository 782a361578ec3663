import Derived.Test.YtmoegiibdaomlaaFrT
set_option linter.unusedSimpArgs false
set_option linter.unusedVariables false
set_option linter.unusedSectionVars false
set_option maxRecDepth 20000
namespace Go.Proofs.Ytmoegiibdaomlaa.B
open Go Go.Ab
/-! the statements over what is of bounded bulk -/
theorem bulk_mem {H : Type} {d : DataW H} : ∀ {l : List (DataW H)}, d ∈ l → Rows.uptoBulk d ≤ Rows.uptoBulkAll l
  | x :: l, h => by
    rcases List.mem_cons.1 h with rfl | q
    · simp only [Rows.uptoBulkAll]; omega
    · have := bulk_mem q; simp only [Rows.uptoBulkAll]; omega
theorem bulk_one {H : Type} (d : DataW H) : 1 ≤ Rows.uptoBulk d := by
  cases d with
  | lit l => cases l <;> simp [Rows.uptoBulk]
  | nil => simp [Rows.uptoBulk]
  | ptr d => simp [Rows.uptoBulk]
  | slice elems spare => simp [Rows.uptoBulk]
  | agg parts => simp [Rows.uptoBulk]
  | iface t d => simp [Rows.uptoBulk]
  | map entries => simp [Rows.uptoBulk]
  | held h => simp [Rows.uptoBulk]
theorem bulk_len {H : Type} (l : List (DataW H)) : l.length ≤ Rows.uptoBulkAll l := by
  induction l with
  | nil => simp [Rows.uptoBulkAll]
  | cons x r ih => have := bulk_one x; simp only [Rows.uptoBulkAll, List.length_cons]; omega
theorem bulkB {H : Type} : Bulk (Rows.uptoBulk (H := H)) where
  str bs := by simp only [Rows.uptoBulk]; omega
  ptr d := by simp only [Rows.uptoBulk]; omega
  len es sp := by have := bulk_len es; simp only [Rows.uptoBulk]; omega
  elem es sp d h := by have := bulk_mem h; simp only [Rows.uptoBulk]; omega
  part ps d h := by have := bulk_mem h; simp only [Rows.uptoBulk]; omega

theorem walk_FrameOnly {D M n : Nat} {vs : List V} {args : Array Value} {W : World} (hS : ShpAll Try.prog D M n [22, 3] vs) (hA : AR (top W) W vs args.toList) : Calls Try.prog 6 args W fun e W' => e = .returned (.bool true) ∧ Go.RowKit.Below W.heap.size W W' := by
  match vs, hS with
  | [v0, v1], ⟨s0, s1, _⟩ =>
    obtain ⟨l0, d0, b0, n0, -⟩ := in_bytes s0
    obtain ⟨i1, rfl, w1⟩ := in_int u3 (by kernel_rfl) s1
    refine whole fit T_FrameOnly_ok (fn := Try.f6) (by kernel_rfl) (by kernel_rfl) ?_ hA
    show k_FrameOnly [v0, .int .i64 i1] [] = _
    simp (disch := omega) [k_FrameOnly, d0, b0]
theorem walk_FrameTells {D M n : Nat} {vs : List V} {args : Array Value} {W : World} (hS : ShpAll Try.prog D M n [3, 22, 3, 53] vs) (hA : AR (top W) W vs args.toList) : Calls Try.prog 7 args W fun e W' => e = .returned (.bool true) ∧ Go.RowKit.Below W.heap.size W W' := by
  match vs, hS with
  | [v0, v1, v2, v3], ⟨s0, s1, s2, s3, _⟩ =>
    obtain ⟨i0, rfl, w0⟩ := in_int u3 (by kernel_rfl) s0
    obtain ⟨l1, d1, b1, n1, -⟩ := in_bytes s1
    obtain ⟨i2, rfl, w2⟩ := in_int u3 (by kernel_rfl) s2
    obtain ⟨i3, rfl, w3⟩ := in_int u53 (by kernel_rfl) s3
    obtain ⟨g0, g1⟩ := wf_u32 w3
    refine whole fit T_FrameTells_ok (fn := Try.f7) (by kernel_rfl) (by kernel_rfl) ?_ hA
    show k_FrameTells [.int .i64 i0, v1, .int .i64 i2, .int .u32 i3] [] = _
    simp (disch := omega) [k_FrameTells, d1, b1, g0, g1]
theorem walk_FrameBack {D n : Nat} {vs : List V} {args : Array Value} {W : World} (hS : ShpAll Try.prog D 1048576 n [3, 22, 22, 22] vs) (hA : AR (top W) W vs args.toList) : Calls Try.prog 5 args W fun e W' => e = .returned (.bool true) ∧ Go.RowKit.Below W.heap.size W W' := by
  match vs, hS with
  | [v0, v1, v2, v3], ⟨s0, s1, s2, s3, _⟩ =>
    obtain ⟨i0, rfl, w0⟩ := in_int u3 (by kernel_rfl) s0
    obtain ⟨l1, d1, b1, n1, m1⟩ := in_bytes s1
    obtain ⟨l2, d2, b2, n2, m2⟩ := in_bytes s2
    obtain ⟨l3, d3, b3, n3, m3⟩ := in_bytes s3
    refine whole fit T_FrameBack_ok (fn := Try.f5) (by kernel_rfl) (by kernel_rfl) ?_ hA
    show k_FrameBack [.int .i64 i0, v1, v2, v3] [] = _
    simp (disch := omega) [k_FrameBack, d1, b1, d2, b2, d3, b3]

end Go.Proofs.Ytmoegiibdaomlaa.B
