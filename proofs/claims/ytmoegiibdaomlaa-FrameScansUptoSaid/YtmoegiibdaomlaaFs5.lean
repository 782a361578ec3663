import Derived.Test.YtmoegiibdaomlaaFs4
set_option linter.unusedSimpArgs false
set_option linter.unusedVariables false
set_option linter.unusedSectionVars false
set_option maxRecDepth 20000
set_option maxHeartbeats 1000000
namespace Go.Proofs.Ytmoegiibdaomlaa.B
open Go Go.Ab
/-! the statements over what is of bounded bulk -/
theorem bulk_mem {H : Type} {d : DataW H} : ∀ {l : List (DataW H)}, d ∈ l → Rows.uptoBulk d ≤ Rows.uptoBulkAll l
  | x :: l, h => by
    rcases List.mem_cons.1 h with rfl | q
    · simp only [Rows.uptoBulkAll]; omega
    · have := bulk_mem q; simp only [Rows.uptoBulkAll]; omega
theorem bulk_one {H : Type} (d : DataW H) : 1 ≤ Rows.uptoBulk d := by
  cases d with
  | lit l => cases l <;> simp [Rows.uptoBulk]
  | nil => simp [Rows.uptoBulk]
  | ptr d => simp [Rows.uptoBulk]
  | slice elems spare => simp [Rows.uptoBulk]
  | agg parts => simp [Rows.uptoBulk]
  | iface t d => simp [Rows.uptoBulk]
  | map entries => simp [Rows.uptoBulk]
  | held h => simp [Rows.uptoBulk]
theorem bulk_len {H : Type} (l : List (DataW H)) : l.length ≤ Rows.uptoBulkAll l := by
  induction l with
  | nil => simp [Rows.uptoBulkAll]
  | cons x r ih => have := bulk_one x; simp only [Rows.uptoBulkAll, List.length_cons]; omega
theorem bulkB {H : Type} : Bulk (Rows.uptoBulk (H := H)) where
  str bs := by simp only [Rows.uptoBulk]; omega
  ptr d := by simp only [Rows.uptoBulk]; omega
  len es sp := by have := bulk_len es; simp only [Rows.uptoBulk]; omega
  elem es sp d h := by have := bulk_mem h; simp only [Rows.uptoBulk]; omega
  part ps d h := by have := bulk_mem h; simp only [Rows.uptoBulk]; omega

theorem in_frames {D n : Nat} {v : V} (h : ShpV Try.prog (D + 64) 1048576 n 40 v) : ∃ l, ofFrs v = some l ∧ (∀ r ∈ l, B8 (valW r).2 ∧ (valW r).2.length ≤ 1048576) ∧ l.length ≤ 1048576 := by
  have hg : Ab.isAgg Try.prog 40 = false := by kernel_rfl
  have h2 : Shp Try.prog (D + 64) 1048576 n 40 v := by unfold ShpV at h; rwa [if_neg (by rw [hg]; simp)] at h
  have hls : leaves Try.prog (D + 64) 35 = [3, 22] := by kernel_rfl
  obtain ⟨l, l1, l2, l3, l4⟩ := shp_recs (d := ofFrW) (R := fun r => B8 (valW r).2 ∧ (valW r).2.length ≤ 1048576) (m := 2) u40 hls rfl (fun k us hl hs => by
    match us, hl with
    | [a, b], _ =>
      obtain ⟨x, rfl, hx⟩ := shp_int u3 (hs 0 a _ rfl rfl)
      obtain ⟨y, y1, y2, y3, y4⟩ := shp_ints u22 u5 (hs 1 b _ rfl rfl)
      have hy : y.length ≤ 1048576 := by
        rcases y4 with q | q
        · exact absurd q (by decide)
        · exact q
      refine ⟨(x, b), ofFrW_of y1 (by omega), ?_, ?_⟩
      · simp only [valW, y1, Option.getD_some]; exact b8_iff.1 (wf_u8 y2)
      · simp only [valW, y1, Option.getD_some]; exact hy) h2
  refine ⟨l, l1, l2, ?_⟩
  rcases l4 with q | q
  · exact absurd q (by decide)
  · exact q
theorem walk_FrameScans {D n : Nat} {vs : List V} {args : Array Value} {W : World} (hS : ShpAll Try.prog (D + 64) 1048576 n [40, 3] vs) (hA : AR (top W) W vs args.toList) : Calls Try.prog 8 args W fun e W' => e = .returned (.bool true) ∧ Go.RowKit.Below W.heap.size W W' := by
  match vs, hS with
  | [v0, v1], ⟨s0, s1, _⟩ =>
    obtain ⟨l0, d0, b0, n0⟩ := in_frames s0
    obtain ⟨i1, rfl, w1⟩ := in_int u3 (by kernel_rfl) s1
    have w2 := wf_i64 w1
    have hall : (l0.all fun r => b8 (valW r).2 && decide ((valW r).2.length < 2000000)) = true := by
      rw [List.all_eq_true]
      intro r hr
      have h1 := b0 r hr
      rw [b8_iff.2 h1.1, decide_eq_true (show (valW r).2.length < 2000000 by omega)]; rfl
    refine whole fit T_FrameScans_ok (fn := Try.f8) (by kernel_rfl) (by kernel_rfl) ?_ hA
    show k_FrameScans [v0, .int .i64 i1] [] = _
    simp (disch := omega) [k_FrameScans, d0, hall, w2.1, w2.2]

end Go.Proofs.Ytmoegiibdaomlaa.B
