import Derived.Test.YtodpdfnnnkcnnaaRu4
import Derived.Test.YtodpdfnnnkcnnaaAb30
set_option linter.unusedSimpArgs false
set_option linter.unusedVariables false
set_option linter.unusedSectionVars false
set_option maxRecDepth 20000
set_option maxHeartbeats 1000000
namespace Go.Proofs.Ytodpdfnnnkcnnaa.B
open Go Go.Ab
/-! slices of int64, told or as objects -/
theorem nsR {objs : List AO} {v : V} {l : List Int} (h : ofIntsR .i64 objs v = some l) : ∃ P : Nat → V, demote v = v ∧ lenV Try.prog 22 v = some (.int .i64 l.length) ∧ (∀ k i, 0 ≤ i → i < (l.length : Int) → indexV Try.prog 22 v (.int k i) = some (P i.toNat)) ∧ ∀ i, i < l.length → loadV Try.prog 2 objs (P i) = some (.int .i64 (nth l i)) := by
  rcases ofIntsR_inv h with h | ⟨id, ver, rfl, hg⟩
  · obtain ⟨vd, vn, vi, -⟩ := ns h
    refine ⟨fun i => .fptr (ints .i64 l) i, vd, vn, vi, fun i hi => ?_⟩
    have e := of_get (ints_nth (k := .i64) hi)
    simp [hi, e]
  · refine ⟨fun i => .ptr id ver i, rfl, by simp, fun k i h0 h1 => by simp [h0, h1], fun i hi => ?_⟩
    have e := of_get (ints_nth (k := .i64) hi)
    simp [hg, hi, e]
noncomputable def k_Same8 : Ab.Spec := con2 some some fun v w objs => match ofIntsR .i64 objs v, ofIntsR .i64 objs w with | some a, some b => bnd a.length 140737488355328 (some (.bool (decide (a = b)), none)) | _, _ => none
noncomputable def T_Same8 : CallF := withF T_RunsFew 16 k_Same8
theorem T_Same8_ok : CallOk Try.prog T_Same8 := con_of (A := annOf [] [] [] false []) fit T_RunsFew_ok (fn := Try.f16) (by kernel_rfl) (by kernel_rfl) (by
  intro args objs r h0
  obtain ⟨v, w, _, _, rfl, hv, hw, hR⟩ := con2_inv h0
  cases hv; cases hw
  split at hR
  case h_2 => cases hR
  rename_i a b ha hb
  obtain ⟨hl, hR⟩ := bnd_inv hR
  cases hR
  obtain ⟨pa, vd, vn, vi, vl⟩ := nsR ha
  obtain ⟨pb, wd, wn, wi, wl⟩ := nsR hb
  refine .go _ rfl rfl ?_
  by_cases hn : a.length = b.length
  · simp [vn, wn, hn]
    refine .up a.length (fun i s => s.env 0 = v ∧ s.env 1 = w ∧ s.env 5 = .int .i64 i ∧ s.toks = [] ∧ s.objs = objs ∧ s.low = objs.length ∧ ∀ j, j < i → nth a j = nth b j) (by simp) ?_
    rintro i s hi ⟨h0, h1, h5, ht, ho, hlo, hj⟩
    rcases Nat.lt_or_ge i a.length with h | h
    · by_cases he : nth a i = nth b i
      · have hf : (nth a i != nth b i) = false := by simpa using he
        have hs : ∀ j, j < i + 1 → nth a j = nth b j := fun j hj2 => by
          rcases Nat.lt_or_ge j i with h2 | h2
          · exact hj j h2
          · obtain rfl : j = i := by omega
            exact he
        simp (disch := omega) [-loadV, h0, h1, h5, ht, ho, hlo, vn, wn, vi, wi, vl, wl, h, hf, wrap_small]
        exact hs
      · have hf : (nth a i != nth b i) = true := by simpa using he
        have hne : a ≠ b := fun q => he (by rw [q])
        simp (disch := omega) [-loadV, h0, h1, h5, ht, ho, hlo, vn, wn, vi, wi, vl, wl, h, hf, hne]
    · have hab : a = b := ext_nth hn fun j h2 => hj j (by omega)
      have hnl : ¬ i < b.length := by omega
      simp [h0, h1, h5, ht, ho, hlo, vn, wn, hab, hnl]
  · have hf : ((a.length : Int) != (b.length : Int)) = true := by simp only [bne_iff_ne, ne_eq]; omega
    have hne : a ≠ b := fun q => hn (by rw [q])
    simp [vn, wn, hf, hne])
def eqRun (a b : Int × Int) : Bool := (a.1 == b.1) && ((a.2 == b.2) && true)
noncomputable def k_SameRuns : Ab.Spec := con2 ofRuns ofRuns fun a b _ => bnd a.length 140737488355328 (some (.bool (decide (a = b)), none))
noncomputable def T_SameRuns : CallF := withF T_Same8 12 k_SameRuns
theorem T_SameRuns_ok : CallOk Try.prog T_SameRuns := con_of (A := annOf [] [] [] false []) fit T_Same8_ok (fn := Try.f12) (by kernel_rfl) (by kernel_rfl) (by
  intro args objs r h0
  obtain ⟨v, w, a, b, rfl, ha, hb, hR⟩ := con2_inv h0
  obtain ⟨hl, hR⟩ := bnd_inv hR
  cases hR
  obtain ⟨vd, vn, vi, -⟩ := rs ha
  obtain ⟨wd, wn, wi, -⟩ := rs hb
  have hfl : Ab.flat Try.prog 33 = some [.int .i64, .int .i64] := by kernel_rfl
  refine .go _ rfl rfl ?_
  by_cases hn : a.length = b.length
  · simp [vn, wn, hn]
    refine .up a.length (fun i s => s.env 0 = v ∧ s.env 1 = w ∧ s.env 5 = .int .i64 i ∧ s.toks = [] ∧ s.objs = objs ∧ s.low = objs.length ∧ ∀ j, j < i → nth a j = nth b j) (by simp) ?_
    rintro i s hi ⟨h0, h1, h5, ht, ho, hlo, hj⟩
    rcases Nat.lt_or_ge i a.length with h | h
    · have fa := flatV_at runV_len h
      have ff := flatV_fit runV_len h
      have fb := flatV_at runV_len (l := b) (i := i) (by omega)
      have fg := flatV_fit runV_len (l := b) (i := i) (by omega)
      have e1 := vi .i64 i (by omega) (by omega)
      have e2 := wi .i64 i (by omega) (by omega)
      rw [Int.toNat_natCast] at e1 e2
      by_cases he : nth a i = nth b i
      · have hs : ∀ j, j < i + 1 → nth a j = nth b j := fun j hj2 => by
          rcases Nat.lt_or_ge j i with h2 | h2
          · exact hj j h2
          · obtain rfl : j = i := by omega
            exact he
        rw [he] at fa
        obtain ⟨r, hr⟩ : ∃ r, r = nth b i := ⟨_, rfl⟩
        rw [← hr] at fa fb
        have fr : runV r = [.int .i64 r.1, .int .i64 r.2] := rfl
        rw [fr] at fa fb
        simp -implicitDefEqProofs (disch := omega) [h0, h1, h5, ht, ho, hlo, vn, wn, e1, e2, h, fa, fb, ff, fg, binV, hfl, eqCells, wrap_small]
        exact hs
      · have hne : a ≠ b := fun q => he (by rw [q])
        obtain ⟨r, hr⟩ : ∃ r, r = nth b i := ⟨_, rfl⟩
        obtain ⟨q, hq⟩ : ∃ q, q = nth a i := ⟨_, rfl⟩
        rw [← hr] at fb he
        rw [← hq] at fa he
        have fr : runV r = [.int .i64 r.1, .int .i64 r.2] := rfl
        have fq : runV q = [.int .i64 q.1, .int .i64 q.2] := rfl
        rw [fr] at fb
        rw [fq] at fa
        have hf : ((q.1 == r.1) && (q.2 == r.2)) = false := by
          rcases Bool.eq_false_or_eq_true ((q.1 == r.1) && (q.2 == r.2)) with z | z
          · exfalso; simp at z; exact he (Prod.ext z.1 z.2)
          · exact z
        simp -implicitDefEqProofs (disch := omega) [h0, h1, h5, ht, ho, hlo, vn, wn, e1, e2, h, fa, fb, ff, fg, binV, hfl, eqCells, hf, hne]
    · have hab : a = b := ext_nth hn fun j h2 => hj j (by omega)
      have hnl : ¬ i < b.length := by omega
      simp [h0, h1, h5, ht, ho, hlo, vn, wn, hab, hnl]
  · have hf : ((a.length : Int) != (b.length : Int)) = true := by simp only [bne_iff_ne, ne_eq]; omega
    have hne : a ≠ b := fun q => hn (by rw [q])
    simp [vn, wn, hf, hne])

end Go.Proofs.Ytodpdfnnnkcnnaa.B
