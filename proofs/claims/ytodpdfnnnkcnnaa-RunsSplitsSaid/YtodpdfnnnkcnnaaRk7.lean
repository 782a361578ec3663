import Derived.Test.YtodpdfnnnkcnnaaRk6
set_option linter.unusedSimpArgs false
set_option linter.unusedVariables false
set_option linter.unusedSectionVars false
set_option maxRecDepth 20000
set_option maxHeartbeats 1000000
namespace Go.Proofs.Ytodpdfnnnkcnnaa.B
open Go Go.Ab
/-! numbers as runs, as bytes -/
def runB (r : Int × Int) : List Int := M.putL (M.foldI r.1).toNat ++ M.putL r.2.toNat
def encL (rs : List (Int × Int)) : List Int := M.putL rs.length ++ rs.flatMap runB
theorem runB_len {r : Int × Int} (h1 : (M.foldI r.1).toNat < 18446744073709551616) (h2 : r.2.toNat < 18446744073709551616) : (runB r).length ≤ 20 := by
  have := M.putL_len10 h1
  have := M.putL_len10 h2
  simp [runB]; omega
theorem foldI_range {v : Int} (h0 : -9223372036854775808 ≤ v) (h1 : v < 9223372036854775808) : 0 ≤ M.foldI v ∧ M.foldI v < 18446744073709551616 := by
  unfold M.foldI; split <;> omega
theorem foldVR_eq {v : Int} (h0 : -9223372036854775808 ≤ v) (h1 : v < 9223372036854775808) : foldVR v = some (.int .u64 (M.foldI v), none) := if_pos ⟨h0, h1⟩
theorem putVR_eq {u : Int} (h0 : 0 ≤ u) (h1 : u < 18446744073709551616) : putVR u = some (.lst (.fresh 1 true) (ints .u8 (M.putL u.toNat)) (M.putL u.toNat).length, none) := if_pos ⟨h0, h1⟩
def r64' (l : List Int) : Bool := l.all fun c => decide (-9223372036854775808 ≤ c) && decide (c < 9223372036854775808)
theorem r64'_iff {l : List Int} : r64' l = true ↔ ∀ c ∈ l, -9223372036854775808 ≤ c ∧ c < 9223372036854775808 := by simp [r64']
theorem splitI_val {l : List Int} {P : Int → Prop} (hP : ∀ c ∈ l, P c) : ∀ i, i ≤ l.length → ∀ r ∈ splitI l i, P r.1
  | 0, _, r, h => by simp [splitI] at h
  | i + 1, hi, r, h => by
    have ih := splitI_val hP i (by omega)
    unfold splitI at h
    split at h
    · rcases List.mem_append.1 h with q | q
      · exact ih r q
      · simp at q; rw [q]; exact hP _ (nth_mem (by omega))
    · unfold bump at h
      rcases List.mem_or_eq_of_mem_set h with q | q
      · exact ih r q
      · rw [q]
        rcases Nat.eq_zero_or_pos (splitI l i).length with z | z
        · have : splitI l i = [] := List.eq_nil_of_length_eq_zero z
          rw [this] at h; simp at h
        · have := ih _ (nth_mem (l := splitI l i) (i := (splitI l i).length - 1) (by omega))
          exact this
theorem encT_succ {rs : List (Int × Int)} {j : Nat} (h : j < rs.length) : M.putL rs.length ++ (rs.take (j + 1)).flatMap runB = M.putL rs.length ++ (rs.take j).flatMap runB ++ M.putL (M.foldI (nth rs j).1).toNat ++ M.putL (nth rs j).2.toNat := by
  rw [take_nth h, List.flatMap_append]
  simp [runB]
theorem encT_len {rs : List (Int × Int)} (hr : ∀ r ∈ rs, (runB r).length ≤ 20) : ∀ j, j ≤ rs.length → ((rs.take j).flatMap runB).length ≤ 20 * j
  | 0, _ => by simp
  | j + 1, h => by
    have := encT_len hr j (by omega)
    have h2 := hr _ (nth_mem (l := rs) (i := j) (by omega))
    rw [take_nth (by omega), List.flatMap_append, List.length_append]
    simp only [List.flatMap_cons, List.flatMap_nil, List.append_nil]
    omega
noncomputable def k_Encode : Ab.Spec := con1 (ofInts .i64) fun l _ => bnd l.length 140737488355000 (if r64' l = true then some (if 4096 < l.length then .tup [.nils, .int .i64 4] else .tup [.lst (.fresh 1 true) (ints .u8 (encL (splitI l l.length))) (encL (splitI l l.length)).length, .int .i64 0], none) else none)
noncomputable def T_Encode : CallF := withF T_Fold 13 k_Encode
theorem T_Encode_ok : CallOk Try.prog T_Encode := con_of (A := annOf [] [32,38] [(20, [.ref])] false []) fit T_Fold_ok (fn := Try.f13) (by kernel_rfl) (by kernel_rfl) (by
  intro args objs r h0
  have c_Split : ∀ a o, T_Fold 10 a o = k_Split a o := fun _ _ => rfl
  have c_Fold : ∀ a o, T_Fold 28 a o = k_Fold a o := fun _ _ => rfl
  have c_VPut : ∀ a o, T_Fold 27 a o = k_VPut a o := fun _ _ => rfl
  obtain ⟨v, l, rfl, ha, hR⟩ := con1_inv h0
  obtain ⟨hl, hR⟩ := bnd_inv hR
  split at hR
  case isFalse => cases hR
  rename_i hr64
  cases hR
  have hrng := r64'_iff.1 hr64
  obtain ⟨vd, vn, vi, -⟩ := ns ha
  refine .go _ rfl rfl ?_
  by_cases hbig : 4096 < l.length
  · simp -implicitDefEqProofs (disch := omega) [vd, vn, ha, c_Split, k_Split, hbig]
  have hval := splitI_val hrng l.length (Nat.le_refl _)
  have hcnt := splitI_cnt l l.length
  have hRle := splitI_le l l.length
  obtain ⟨R, hR⟩ : ∃ R, R = splitI l l.length := ⟨_, rfl⟩
  rw [← hR] at hval hcnt hRle
  obtain ⟨w, hw, hwn, hwi, hwd, hwt⟩ : ∃ w, demote (splitV l) = w ∧ lenV Try.prog 25 w = some (.int .i64 R.length) ∧ (∀ k i, 0 ≤ i → i < (R.length : Int) → indexV Try.prog 25 w (.int k i) = some (.fptr (flatV runV R) (i.toNat * 2))) ∧ demote w = w ∧ ntup w = some w := by
    by_cases hnil : l = []
    · have : R = [] := by rw [hR, hnil]; rfl
      refine ⟨.nils, by rw [splitV, if_pos hnil]; rfl, by rw [this]; simp, fun k i h0 h1 => ?_, rfl, rfl⟩
      rw [this] at h1; simp at h1; omega
    · refine ⟨.lst .frozen (flatV runV R) R.length, by rw [splitV, if_neg hnil, hR]; rfl, by simp, fun k i h0 h1 => ?_, rfl, rfl⟩
      simp [h0, h1]
  have hput0 := putVR_nat (u := R.length) (by omega)
  have wl : IntKind.u64.wrap (R.length : Int) = R.length := wrap_u64 (by omega) (by omega)
  have hb20 : ∀ r ∈ R, (runB r).length ≤ 20 := fun r hr => by
    have h1 := hval r hr
    have h2 := hcnt r hr
    have h3 := foldI_range h1.1 h1.2
    exact runB_len (by omega) (by omega)
  have hp10 := M.putL_len10 (u := R.length) (by omega)
  have htl := encT_len hb20
  simp -implicitDefEqProofs (disch := omega) [vd, vn, ha, c_Split, k_Split, hbig, hw, hwt, hwd, hwn, convV, wl, c_VPut, k_VPut, hput0]
  refine .up R.length (fun j s => s.env 21 = w ∧ s.env 22 = .int .i64 R.length ∧ s.env 23 = .int .i64 j ∧ s.toks = [] ∧ s.low = objs.length ∧ ∃ ver B, B = M.putL R.length ++ (R.take j).flatMap runB ∧ s.env 6 = .ref objs.length ver 0 B.length 1 ∧ Ab.getObj s.objs objs.length ver = some (ints .u8 B)) (by simp) ?_
  rintro j s hj ⟨g21, g22, g23, ht, hlo, ver, B, hB, g6, hg⟩
  obtain ⟨O, hO⟩ : ∃ O, O = s.objs := ⟨_, rfl⟩
  rw [← hO] at hg
  have ho := hO.symm
  have hgl := getObj_lt hg
  have hBl : B.length ≤ 10 + 20 * j := by rw [hB, List.length_append]; have := htl j (by omega); omega
  rcases Nat.lt_or_ge j R.length with h | h
  · have e1 := hwi .i64 j (by omega) (by omega)
    rw [Int.toNat_natCast] at e1
    have fa := flatV_at runV_len h
    have ff := flatV_fit runV_len h
    have es := encT_succ h
    have v1 := hval _ (nth_mem h)
    have c1 := hcnt _ (nth_mem h)
    obtain ⟨r, hr⟩ : ∃ r, r = nth R j := ⟨_, rfl⟩
    rw [← hr] at fa es v1 c1
    rw [← hB] at es
    have fr : runV r = [.int .i64 r.1, .int .i64 r.2] := rfl
    rw [fr] at fa
    have hf := foldVR_eq v1.1 v1.2
    have hfr := foldI_range v1.1 v1.2
    have hp1 := putVR_eq hfr.1 hfr.2
    have hp2 := putVR_eq (u := r.2) (by omega) (by omega)
    have wc : IntKind.u64.wrap r.2 = r.2 := wrap_u64 (by omega) (by omega)
    have hw1 : IntKind.i64.wrap ((j : Int) + 1) = (j : Int) + 1 := wrap_small (by omega) (by omega)
    obtain ⟨X, hX⟩ : ∃ X, X = M.putL (M.foldI r.1).toNat := ⟨_, rfl⟩
    obtain ⟨Y, hY⟩ : ∃ Y, Y = M.putL r.2.toNat := ⟨_, rfl⟩
    have hXl : X.length ≤ 10 := by rw [hX]; exact M.putL_len10 (by omega)
    have hYl : Y.length ≤ 10 := by rw [hY]; exact M.putL_len10 (by omega)
    rw [← hX] at hp1 es
    rw [← hY] at hp2 es
    have hne : objs.length ≠ O.length := by omega
    have q1 := getObj_app (m := [AO.cells [.int .i64 r.1, .int .i64 r.2] 0]) (v := ver) hgl
    rw [hg] at q1
    have ex : ints .u8 B ++ ints .u8 X = ints .u8 (B ++ X) := by simp [ints]
    have ey : ints .u8 (B ++ X) ++ ints .u8 Y = ints .u8 (B ++ X ++ Y) := by simp [ints]
    have q2 : Ab.getObj (O.set objs.length (AO.cells (ints .u8 (B ++ X)) (ver + 1)) ++ [AO.cells [.int .i64 r.1, .int .i64 r.2] 0]) objs.length (ver + 1) = some (ints .u8 (B ++ X)) := by
      rw [getObj_app (by simp; omega), getObj_set hgl]
    have q3 : Ab.getObj (O.set objs.length (AO.cells (ints .u8 (B ++ X)) (ver + 1)) ++ [AO.cells [.int .i64 r.1, .int .i64 r.2] 0]) O.length 0 = some [.int .i64 r.1, .int .i64 r.2] := getObj_last0 _ (by simp)
    have q4 : Ab.getObj (O.set objs.length (AO.cells (ints .u8 (B ++ X ++ Y)) (ver + 1 + 1)) ++ [AO.cells [.int .i64 r.1, .int .i64 r.2] 0]) objs.length (ver + 1 + 1) = some (ints .u8 (B ++ X ++ Y)) := by
      rw [getObj_app (by simp; omega), getObj_set hgl]
    have hif : (if O.length < objs.length then O.length else objs.length) = objs.length := if_neg (by omega)
    simp -implicitDefEqProofs (disch := omega) [g21, g22, g23, g6, ht, hlo, ho, e1, fa, ff, setCells, getObj_last, set_last, c_Fold, k_Fold, hf, c_VPut, k_VPut, hp1, hp2, convV, wc, hw1, q1, q2, q3, ex, ey, hg, hif, Nat.mod_one]
    refine ⟨h, ver + 1 + 1, ⟨rfl, ?_⟩, ?_⟩
    · have q := congrArg List.length es
      simp at q
      omega
    · rw [es, List.append_assoc]
      exact getObj_set (by simp; omega)
  · obtain rfl : j = R.length := by omega
    have eB : encL R = B := by rw [hB, List.take_length]; rfl
    rw [← hR, eB]
    simp -implicitDefEqProofs (disch := omega) [g21, g22, g23, g6, ht, hlo, ho, hg])

end Go.Proofs.Ytodpdfnnnkcnnaa.B
