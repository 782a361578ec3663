import Derived.Test.YtodpdfnnnkcnnaaRu3
set_option linter.unusedSimpArgs false
set_option linter.unusedVariables false
set_option linter.unusedSectionVars false
set_option maxRecDepth 20000
set_option maxHeartbeats 1000000
namespace Go.Proofs.Ytodpdfnnnkcnnaa.B
open Go Go.Ab
/-! few runs, plain mathematics -/
def preS (rs : List (Int × Int)) (j : Nat) : Int := ((rs.take j).map (·.2)).foldl (· + ·) 0
theorem preS_zero (rs : List (Int × Int)) : preS rs 0 = 0 := rfl
theorem preS_succ {rs : List (Int × Int)} {j : Nat} (h : j < rs.length) : preS rs (j + 1) = preS rs j + (nth rs j).2 := by
  unfold preS; rw [take_nth h, List.map_append, List.foldl_append]; rfl
theorem preS_app {rs : List (Int × Int)} {m : List (Int × Int)} {j : Nat} (h : j ≤ rs.length) : preS (rs ++ m) j = preS rs j := by
  unfold preS; rw [List.take_append_of_le_length h]
theorem preS_set {rs : List (Int × Int)} {k j : Nat} {r : Int × Int} (h : j ≤ k) : preS (rs.set k r) j = preS rs j := by
  unfold preS; rw [List.take_set_of_le (by omega)]
def wantI (l : List Int) : Nat → Nat | 0 => 0 | i + 1 => wantI l i + if brk l i = true then 1 else 0
/-- What runs there are behind i numbers. -/
structure Few (l : List Int) (i : Nat) (rs : List (Int × Int)) : Prop where
  want : rs.length = wantI l i
  sum : preS rs rs.length = i
  cnt : ∀ j, j < rs.length → 1 ≤ (nth rs j).2
  val : ∀ j, j < rs.length → 0 ≤ preS rs j ∧ preS rs j < i ∧ nth l (preS rs j).toNat = (nth rs j).1
  last : 0 < i → (nth rs (rs.length - 1)).1 = nth l (i - 1)
  apart : ∀ j, 0 < j → j < rs.length → (nth rs j).1 ≠ (nth rs (j - 1)).1
theorem few (l : List Int) : ∀ i, i ≤ l.length → Few l i (splitI l i)
  | 0, _ => ⟨rfl, rfl, fun j h => by simp [splitI] at h, fun j h => by simp [splitI] at h, fun h => by omega, fun j _ h => by simp [splitI] at h⟩
  | i + 1, hi => by
    obtain ⟨a, b, c, d, e, f⟩ := few l i (by omega)
    have hpos := splitI_pos l i
    obtain ⟨S, hS⟩ : ∃ S, S = splitI l i := ⟨_, rfl⟩
    rw [← hS] at a b c d e f hpos
    by_cases hb : brk l i = true
    · have es : splitI l (i + 1) = S ++ [(nth l i, 1)] := by rw [hS]; simp only [splitI]; rw [if_pos hb]
      rw [es]
      have hl : (S ++ [(nth l i, (1 : Int))]).length = S.length + 1 := by simp
      have hn : nth (S ++ [(nth l i, (1 : Int))]) S.length = (nth l i, 1) := by rw [nth_app_r (Nat.le_refl _), Nat.sub_self]; rfl
      have hs : preS (S ++ [(nth l i, (1 : Int))]) S.length = i := by rw [preS_app (Nat.le_refl _), b]
      refine ⟨by rw [hl, a]; simp [wantI, hb], ?_, fun j hj => ?_, fun j hj => ?_, fun _ => ?_, fun j h0 hj => ?_⟩
      · rw [hl, preS_succ (by omega), hs, hn]; simp
      · rw [hl] at hj
        rcases Nat.lt_or_ge j S.length with q | q
        · rw [nth_app_l q]; exact c j q
        · obtain rfl : j = S.length := by omega
          rw [hn]; simp
      · rw [hl] at hj
        rcases Nat.lt_or_ge j S.length with q | q
        · rw [nth_app_l q, preS_app (by omega)]
          obtain ⟨d1, d2, d3⟩ := d j q
          exact ⟨d1, by omega, d3⟩
        · obtain rfl : j = S.length := by omega
          rw [hn, hs]
          exact ⟨by omega, by omega, by rw [Int.toNat_natCast]⟩
      · rw [hl, Nat.add_sub_cancel, hn, Nat.add_sub_cancel]
      · rw [hl] at hj
        rcases Nat.lt_or_ge j S.length with q | q
        · rw [nth_app_l q, nth_app_l (by omega)]; exact f j h0 q
        · obtain rfl : j = S.length := by omega
          have hi0 : 0 < i := by
            rcases Nat.eq_zero_or_pos i with z | z
            · exfalso; rw [hS, z] at h0; simp [splitI] at h0
            · exact z
          rw [hn, nth_app_l (by omega), e hi0]
          simp [brk] at hb
          omega
    · have hi0 : 0 < i := by
        rcases Nat.eq_zero_or_pos i with z | z
        · exfalso; apply hb; simp [brk, z]
        · exact z
      have hp := hpos hi0
      have heq : nth l i = nth l (i - 1) := by simp [brk] at hb; exact hb.2
      obtain ⟨k, hk⟩ : ∃ k, S.length = k + 1 := ⟨S.length - 1, by omega⟩
      have es : splitI l (i + 1) = S.set k ((nth S k).1, (nth S k).2 + 1) := by
        rw [hS]; simp only [splitI]; rw [if_neg hb, ← hS]; unfold bump; rw [hk, Nat.add_sub_cancel]
      rw [es]
      have hl : (S.set k ((nth S k).1, (nth S k).2 + 1)).length = k + 1 := by simp [hk]
      have hn : nth (S.set k ((nth S k).1, (nth S k).2 + 1)) k = ((nth S k).1, (nth S k).2 + 1) := by rw [nth_lt (by omega)]; simp
      have ho : ∀ j, j < k → nth (S.set k ((nth S k).1, (nth S k).2 + 1)) j = nth S j := by
        intro j hj
        rw [nth_lt (by omega), List.getElem_set_ne (by omega)]
        exact (nth_lt (by omega)).symm
      have hsum : preS S k + (nth S k).2 = i := by rw [hk, preS_succ (by omega)] at b; exact b
      rw [hk, Nat.add_sub_cancel] at e
      refine ⟨by rw [hl, ← hk, a]; simp [wantI, hb], ?_, fun j hj => ?_, fun j hj => ?_, fun _ => ?_, fun j h0 hj => ?_⟩
      · rw [hl, preS_succ (by omega), preS_set (Nat.le_refl _), hn]; simp only; omega
      · rw [hl] at hj
        rcases Nat.lt_or_ge j k with q | q
        · rw [ho j q]; exact c j (by omega)
        · obtain rfl : j = k := by omega
          rw [hn]; have := c j (by omega); simp only; omega
      · rw [hl] at hj
        rw [preS_set (by omega)]
        obtain ⟨d1, d2, d3⟩ := d j (by omega)
        refine ⟨d1, by omega, ?_⟩
        rcases Nat.lt_or_ge j k with q | q
        · rw [ho j q]; exact d3
        · obtain rfl : j = k := by omega
          rw [hn]; exact d3
      · rw [hl, Nat.add_sub_cancel, hn, Nat.add_sub_cancel, heq]; exact e hi0
      · rw [hl] at hj
        have h1 := f j h0 (by omega)
        rcases Nat.lt_or_ge j k with q | q
        · rw [ho j q, ho (j - 1) (by omega)]; exact h1
        · obtain rfl : j = k := by omega
          rw [hn, ho (j - 1) (by omega)]; exact h1
noncomputable def k_RunsFew : Ab.Spec := con1 (ofInts .i64) fun l objs => match objs with | [] => bnd l.length 140737488355000 (some (.bool true, none)) | _ => none
noncomputable def T_RunsFew : CallF := withF T_alive 7 k_RunsFew
theorem T_RunsFew_ok : CallOk Try.prog T_RunsFew := con_of (A := annOf [] [] [] false []) fit T_alive_ok (fn := Try.f7) (by kernel_rfl) (by kernel_rfl) (by
  intro args objs r h0
  have c_alive : ∀ a o, T_alive 8 a o = k_alive a o := fun _ _ => rfl
  have c_Split : ∀ a o, T_alive 10 a o = k_Split a o := fun _ _ => rfl
  obtain ⟨v, l, rfl, ha, hR⟩ := con1_inv h0
  split at hR
  case h_2 => cases hR
  obtain ⟨hl, hR⟩ := bnd_inv hR
  cases hR
  obtain ⟨vd, vn, vi, -⟩ := ns ha
  refine .go _ rfl rfl ?_
  by_cases hbig : 4096 < l.length
  · have hb : (4096 : Int) < l.length := by omega
    simp (disch := omega) [vd, vn, ha, c_alive, c_Split, k_alive, k_Split, hbig, hb]
  have hb : ¬ (4096 : Int) < l.length := by omega
  have hF := few l l.length (Nat.le_refl _)
  have hW : ∀ i, wantI l i ≤ i := by
    intro i
    induction i with
    | zero => simp [wantI]
    | succ i ih => simp only [wantI]; split <;> omega
  obtain ⟨R, hR⟩ : ∃ R, R = splitI l l.length := ⟨_, rfl⟩
  rw [← hR] at hF
  have hRle : R.length ≤ l.length := by rw [hR]; exact splitI_le _ _
  obtain ⟨w, hw, hwn, hwi, hwd, hwt⟩ : ∃ w, demote (splitV l) = w ∧ lenV Try.prog 25 w = some (.int .i64 R.length) ∧ (∀ k i, 0 ≤ i → i < (R.length : Int) → indexV Try.prog 25 w (.int k i) = some (.fptr (flatV runV R) (i.toNat * 2))) ∧ demote w = w ∧ ntup w = some w := by
    by_cases hnil : l = []
    · have : R = [] := by rw [hR, hnil]; rfl
      refine ⟨.nils, by rw [splitV, if_pos hnil]; rfl, by rw [this]; simp, fun k i h0 h1 => ?_, rfl, rfl⟩
      rw [this] at h1; simp at h1; omega
    · refine ⟨.lst .frozen (flatV runV R) R.length, by rw [splitV, if_neg hnil, hR]; rfl, by simp, fun k i h0 h1 => ?_, rfl, rfl⟩
      simp [h0, h1]
  simp -implicitDefEqProofs (disch := omega) [vd, vn, ha, c_alive, c_Split, k_alive, k_Split, hbig, hb, hw, hwt, vn]
  refine .up l.length (fun i s => s.env 0 = v ∧ s.env 3 = w ∧ s.env 4 = .int .i64 0 ∧ s.env 5 = .int .i64 (wantI l i : Nat) ∧ s.env 28 = .int .i64 l.length ∧ s.env 29 = .int .i64 i ∧ s.toks = [] ∧ s.objs = [] ∧ s.low = 0) (by simp [wantI]) ?_
  rintro i s hi ⟨g0, g3, g4, g5, g28, g29, ht, ho, hlo⟩
  have hwl := hW i
  rcases Nat.lt_or_ge i l.length with h | h
  · have e1 := vi .i64 i (by omega) (by omega)
    rw [Int.toNat_natCast] at e1
    rcases Nat.eq_zero_or_pos i with rfl | hpos
    · have e1' : indexV Try.prog 22 v (.int .i64 0) = some (.fptr (ints .i64 l) 0) := e1
      have hw1 : wantI l 1 = 1 := by simp [wantI, brk]
      have hw0 : IntKind.i64.wrap 1 = 1 := rfl
      have hz : wantI l 0 = 0 := rfl
      rw [hz] at g5
      simp -implicitDefEqProofs (disch := omega) [g0, g3, g4, g5, g28, g29, ht, ho, hlo, vn, hw1, hw0]
      exact h
    · have e2 := vi .i64 ((i : Int) - 1) (by omega) (by omega)
      have hi1 : ((i : Int) - 1).toNat = i - 1 := by omega
      rw [hi1] at e2
      have hw1 : IntKind.i64.wrap ((i : Int) - 1) = (i : Int) - 1 := wrap_small (by omega) (by omega)
      have hik : i - 1 < l.length := by omega
      by_cases hbk : brk l i = true
      · have hne : nth l i ≠ nth l (i - 1) := by simp [brk] at hbk; omega
        have hne' : (nth l i != nth l (i - 1)) = true := by simpa using hne
        have hw2 : wantI l (i + 1) = wantI l i + 1 := by simp [wantI, hbk]
        simp -implicitDefEqProofs (disch := omega) [g0, g3, g4, g5, g28, g29, ht, ho, hlo, vn, e1, e2, ints_nth, hw1, hne', hw2, wrap_small]
        exact h
      · have heq : nth l i = nth l (i - 1) := by simp [brk] at hbk; exact hbk.2
        have hne' : (nth l i != nth l (i - 1)) = false := by simpa using heq
        have hw2 : wantI l (i + 1) = wantI l i := by simp [wantI, hbk]
        simp -implicitDefEqProofs (disch := omega) [g0, g3, g4, g5, g28, g29, ht, ho, hlo, vn, e1, e2, ints_nth, hw1, hne', hw2, wrap_small]
        exact h
  · obtain rfl : i = l.length := by omega
    simp -implicitDefEqProofs (disch := omega) [g0, g3, g4, g5, g28, g29, ht, ho, hlo, vn, hwn]
    refine .up R.length (fun j s => s.env 0 = v ∧ s.env 3 = w ∧ s.env 4 = .int .i64 0 ∧ s.env 5 = .int .i64 (wantI l l.length : Nat) ∧ s.env 7 = .int .i64 (preS R j) ∧ s.env 49 = w ∧ s.env 50 = .int .i64 R.length ∧ s.env 51 = .int .i64 j ∧ s.toks = [] ∧ s.low = 0) (by simp [g0, g3, g4, g5, preS_zero]) ?_
    rintro j s hj ⟨g0, g3, g4, g5, g7, g49, g50, g51, ht, hlo⟩
    rcases Nat.lt_or_ge j R.length with hj2 | hj2
    · have e1 := hwi .i64 j (by omega) (by omega)
      rw [Int.toNat_natCast] at e1
      have fa := flatV_at runV_len hj2
      have ff := flatV_fit runV_len hj2
      have hc := hF.cnt j hj2
      obtain ⟨d1, d2, d3⟩ := hF.val j hj2
      obtain ⟨r, hr⟩ : ∃ r, r = nth R j := ⟨_, rfl⟩
      rw [← hr] at fa hc d3
      have fr : runV r = [.int .i64 r.1, .int .i64 r.2] := rfl
      rw [fr] at fa
      have e2 := vi .i64 (preS R j) (by omega) (by omega)
      have hp := preS_succ hj2
      rw [← hr] at hp
      have hsm : preS R (j + 1) ≤ l.length := by
        rcases Nat.lt_or_ge (j + 1) R.length with q | q
        · have := (hF.val (j + 1) q).2.1; omega
        · have : j + 1 = R.length := by omega
          rw [this, hF.sum]; omega
      have hw3 : IntKind.i64.wrap (preS R j + r.2) = preS R (j + 1) := by rw [wrap_small (by omega) (by omega), hp]
      have hpl : (preS R j).toNat < l.length := by omega
      rcases Nat.eq_zero_or_pos j with rfl | hpos
      · have e1' : indexV Try.prog 25 w (.int .i64 0) = some (.fptr (flatV runV R) 0) := by simpa using e1
        have fa' : (flatV runV R).take 2 = [.int .i64 r.1, .int .i64 r.2] := by simpa using fa
        have ff' : 2 ≤ (flatV runV R).length := by simpa using ff
        have hj0 : 1 ≤ R.length := hj2
        simp -implicitDefEqProofs (disch := omega) [g0, g3, g4, g5, g7, g49, g50, g51, ht, hlo, vn, e1', fa', ff', setCells, getObj_last, e2, ints_nth, d3, hw3, wrap_small, hpl]
        exact hj2
      · have e3 := hwi .i64 ((j : Int) - 1) (by omega) (by omega)
        have hj1 : ((j : Int) - 1).toNat = j - 1 := by omega
        rw [hj1] at e3
        have hw1 : IntKind.i64.wrap ((j : Int) - 1) = (j : Int) - 1 := wrap_small (by omega) (by omega)
        have rv := run_val (l := R) (i := j - 1) (by omega)
        have rv' := of_get rv
        have hne := hF.apart j hpos hj2
        rw [← hr] at hne
        have hne' : (r.1 == (nth R (j - 1)).1) = false := by simpa using hne
        simp -implicitDefEqProofs (disch := omega) [g0, g3, g4, g5, g7, g49, g50, g51, ht, hlo, vn, e1, fa, ff, setCells, getObj_last, e2, e3, rv, rv', hw1, hne', ints_nth, d3, hw3, wrap_small, hpl]
        exact hj2
    · obtain rfl : j = R.length := by omega
      have h1 := hF.want
      have h2 := hF.sum
      simp -implicitDefEqProofs (disch := omega) [g0, g3, g4, g5, g7, g49, g50, g51, ht, hlo, vn, hwn, h1, h2]
      rw [← h1]; exact h2)

end Go.Proofs.Ytodpdfnnnkcnnaa.B
