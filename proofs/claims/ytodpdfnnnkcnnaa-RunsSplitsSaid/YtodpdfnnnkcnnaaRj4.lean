import Derived.Test.YtodpdfnnnkcnnaaRj3
set_option linter.unusedSimpArgs false
set_option linter.unusedVariables false
set_option linter.unusedSectionVars false
set_option maxRecDepth 20000
set_option maxHeartbeats 1000000
namespace Go.Proofs.Ytodpdfnnnkcnnaa.B
open Go Go.Ab
def rjV (p : Int × List Int) : V := if p.1 = 0 then .lst (.fresh 1 true) (ints .i64 p.2) p.2.length else .nils
theorem rjV_ok {l : List Int} : rjV (0, l) = .lst (.fresh 1 true) (ints .i64 l) l.length := if_pos rfl
theorem rjV_no {e : Int} {l : List Int} (h : e ≠ 0) : rjV (e, l) = .nils := if_neg h
noncomputable def k_RefJoin : Ab.Spec := con1 ofRuns fun l _ => bnd l.length 140737488355000 (some (.tup [rjV (jn l l.length), .int .i64 (jn l l.length).1], none))
noncomputable def T_RefJoin : CallF := withF T_Join 18 k_RefJoin
theorem T_RefJoin_ok : CallOk Try.prog T_RefJoin := con_of (A := annOf [] [7,61] [] false []) fit T_Join_ok (fn := Try.f18) (by kernel_rfl) (by kernel_rfl) (by
  intro args objs r h0
  obtain ⟨v, l, rfl, ha, hR⟩ := con1_inv h0
  obtain ⟨hl, hR⟩ := bnd_inv hR
  cases hR
  obtain ⟨vd, vn, vi, -⟩ := rs ha
  refine .go _ rfl rfl ?_
  simp (disch := omega) [nlit0]
  refine .up l.length (fun i s => s.env 0 = v ∧ s.env 5 = .int .i64 i ∧ s.toks = [] ∧ s.low = objs.length ∧ ∃ L, JnOk l i L ∧ s.env 4 = .ref objs.length L.length 0 L.length 1 ∧ s.objs = objs ++ [.cells (ints .i64 L) L.length]) (by simp; exact ⟨[], jnOk_zero, rfl, rfl, rfl⟩) ?_
  rintro i s hi ⟨g0, g5, ht, hlo, L, hL, g4, ho⟩
  rcases Nat.lt_or_ge i l.length with h | h
  · have e1 := vi .i64 i (by omega) (by omega)
    rw [Int.toNat_natCast] at e1
    have rv := run_val h
    have rc := run_cnt h
    have hA := @JnOk.arg l i L hL
    have hF := @JnOk.form l i L hL
    have hG := @JnOk.long l i L hL
    have hN := @JnOk.next l i L hL
    have hll := hL.len
    obtain ⟨r, hre⟩ : ∃ r, r = nth l i := ⟨_, rfl⟩
    rw [← hre] at rv rc hA hF hG hN
    have rv' := of_get rv
    have rc' := of_get rc
    have ff := flatV_fit runV_len h
    have hw : IntKind.i64.wrap ((i : Int) + 1) = (i : Int) + 1 := wrap_small (by omega) (by omega)
    by_cases h1 : r.2 < 1
    · have hend := jn_end (hA h1) (by decide) h
      have hv := rjV_no (e := 1) (l := []) (by decide)
      simp -implicitDefEqProofs (disch := omega) [g0, g5, g4, ht, hlo, ho, vn, e1, rv, rc, rv', rc', h1, hend, hv]
    by_cases h2 : 0 < i ∧ r.1 = (nth l (i - 1)).1
    · obtain ⟨hi0, hval⟩ := h2
      have hend := jn_end (hF h1 ⟨hi0, hval⟩) (by decide) h
      have hv := rjV_no (e := 5) (l := []) (by decide)
      have e3 := vi .i64 ((i : Int) - 1) (by omega) (by omega)
      have hi1 : ((i : Int) - 1).toNat = i - 1 := by omega
      rw [hi1] at e3
      have hw1 : IntKind.i64.wrap ((i : Int) - 1) = (i : Int) - 1 := wrap_small (by omega) (by omega)
      have rp := run_val (l := l) (i := i - 1) (by omega)
      have rp' := of_get rp
      have heq : (r.1 == (nth l (i - 1)).1) = true := by simpa using hval
      simp -implicitDefEqProofs (disch := omega) [g0, g5, g4, ht, hlo, ho, vn, e1, e3, hw1, rv, rc, rv', rc', rp, rp', h1, heq, hend, hv]
    have w0 : IntKind.i64.wrap (4096 - (L.length : Int)) = 4096 - (L.length : Int) := wrap_small (by omega) (by omega)
    by_cases h3 : 4096 - (L.length : Int) < r.2
    · have hend := jn_end (hG h1 h2 h3) (by decide) h
      have hv := rjV_no (e := 4) (l := []) (by decide)
      rcases Nat.eq_zero_or_pos i with rfl | hi0
      · have e1' : indexV Try.prog 25 v (.int .i64 0) = some (.fptr (flatV runV l) 0) := by simpa using e1
        simp only [Nat.zero_mul, Nat.zero_add] at rv rc rv' rc'
        simp -implicitDefEqProofs (disch := omega) [g0, g5, g4, ht, hlo, ho, vn, e1', w0, rv, rc, rv', rc', h1, h3, hend, hv]
      · have e3 := vi .i64 ((i : Int) - 1) (by omega) (by omega)
        have hi1 : ((i : Int) - 1).toNat = i - 1 := by omega
        rw [hi1] at e3
        have hw1 : IntKind.i64.wrap ((i : Int) - 1) = (i : Int) - 1 := wrap_small (by omega) (by omega)
        have rp := run_val (l := l) (i := i - 1) (by omega)
        have rp' := of_get rp
        have heq : (r.1 == (nth l (i - 1)).1) = false := by simpa using fun q => h2 ⟨hi0, q⟩
        simp -implicitDefEqProofs (disch := omega) [g0, g5, g4, ht, hlo, ho, vn, e1, e3, hw1, w0, rv, rc, rv', rc', rp, rp', h1, h3, heq, hend, hv]
    have hnx := hN h1 h2 h3
    obtain ⟨N, hN⟩ := Int.eq_ofNat_of_zero_le (show 0 ≤ r.2 by omega)
    obtain ⟨r1, r2⟩ := r
    simp only at hN hnx h1 h2 h3 rv rc rv' rc'
    subst hN
    rw [Int.toNat_natCast] at hnx
    rcases Nat.eq_zero_or_pos i with rfl | hi0
    · have e1' : indexV Try.prog 25 v (.int .i64 0) = some (.fptr (flatV runV l) 0) := by simpa using e1
      simp only [Nat.zero_mul, Nat.zero_add] at rv rc rv' rc'
      simp -implicitDefEqProofs (disch := omega) [g0, g5, g4, ht, hlo, ho, vn, e1', w0, rv, rc, rv', rc', h1, h3]
      refine .up N (fun k s => s.env 0 = v ∧ s.env 5 = .int .i64 0 ∧ s.env 6 = .int .i64 k ∧ s.toks = [] ∧ s.low = objs.length ∧ s.env 4 = .ref objs.length (L.length + k) 0 (L.length + k) 1 ∧ s.objs = objs ++ [.cells (ints .i64 (L ++ List.replicate k r1)) (L.length + k)]) (by simp [g0, g5, g4, ht, hlo, ho]) ?_
      rintro k s hk ⟨g0, g5, g6, ht, hlo, g4, ho⟩
      rcases Nat.lt_or_ge k N with hkN | hkN
      · have er : L ++ List.replicate (k + 1) r1 = L ++ List.replicate k r1 ++ [r1] := by rw [List.append_assoc, ← List.replicate_succ']
        have el : (L ++ List.replicate k r1).length = L.length + k := by simp
        obtain ⟨M, hM⟩ : ∃ M, M = L ++ List.replicate k r1 := ⟨_, rfl⟩
        rw [← hM] at er el ho
        have wk : IntKind.i64.wrap ((k : Int) + 1) = (k : Int) + 1 := wrap_small (by omega) (by omega)
        simp -implicitDefEqProofs (disch := omega) [g0, g5, g6, g4, ht, hlo, ho, vn, e1', rv, rc, rv', rc', nlit1, getObj_last, set_last, er, el, wk]
        exact ⟨hkN, by omega⟩
      · obtain rfl : k = N := by omega
        have el : (L ++ List.replicate k r1).length = L.length + k := by simp
        simp -implicitDefEqProofs (disch := omega) [g0, g5, g6, g4, ht, hlo, ho, vn, e1', rv, rc, rv', rc', hw]
        exact ⟨h, rfl, _, hnx, el.symm, rfl, el.symm⟩
    · have e3 := vi .i64 ((i : Int) - 1) (by omega) (by omega)
      have hi1 : ((i : Int) - 1).toNat = i - 1 := by omega
      rw [hi1] at e3
      have hw1 : IntKind.i64.wrap ((i : Int) - 1) = (i : Int) - 1 := wrap_small (by omega) (by omega)
      have rp := run_val (l := l) (i := i - 1) (by omega)
      have rp' := of_get rp
      have heq : (r1 == (nth l (i - 1)).1) = false := by simpa using fun q => h2 ⟨hi0, q⟩
      simp -implicitDefEqProofs (disch := omega) [g0, g5, g4, ht, hlo, ho, vn, e1, e3, hw1, w0, rv, rc, rv', rc', rp, rp', h1, h3, heq]
      refine .up N (fun k s => s.env 0 = v ∧ s.env 5 = .int .i64 i ∧ s.env 6 = .int .i64 k ∧ s.toks = [] ∧ s.low = objs.length ∧ s.env 4 = .ref objs.length (L.length + k) 0 (L.length + k) 1 ∧ s.objs = objs ++ [.cells (ints .i64 (L ++ List.replicate k r1)) (L.length + k)]) (by simp [g0, g5, g4, ht, hlo, ho]) ?_
      rintro k s hk ⟨g0, g5, g6, ht, hlo, g4, ho⟩
      rcases Nat.lt_or_ge k N with hkN | hkN
      · have er : L ++ List.replicate (k + 1) r1 = L ++ List.replicate k r1 ++ [r1] := by rw [List.append_assoc, ← List.replicate_succ']
        have el : (L ++ List.replicate k r1).length = L.length + k := by simp
        obtain ⟨M, hM⟩ : ∃ M, M = L ++ List.replicate k r1 := ⟨_, rfl⟩
        rw [← hM] at er el ho
        have wk : IntKind.i64.wrap ((k : Int) + 1) = (k : Int) + 1 := wrap_small (by omega) (by omega)
        simp -implicitDefEqProofs (disch := omega) [g0, g5, g6, g4, ht, hlo, ho, vn, e1, rv, rc, rv', rc', nlit1, getObj_last, set_last, er, el, wk]
        exact ⟨hkN, by omega⟩
      · obtain rfl : k = N := by omega
        have el : (L ++ List.replicate k r1).length = L.length + k := by simp
        simp -implicitDefEqProofs (disch := omega) [g0, g5, g6, g4, ht, hlo, ho, vn, e1, rv, rc, rv', rc', hw]
        exact ⟨h, _, hnx, el.symm, rfl, el.symm⟩
  · obtain rfl : i = l.length := by omega
    have hend := hL.eq
    simp -implicitDefEqProofs (disch := omega) [g0, g5, g4, ht, hlo, ho, vn, getObj_last, hend, rjV_ok])

end Go.Proofs.Ytodpdfnnnkcnnaa.B
