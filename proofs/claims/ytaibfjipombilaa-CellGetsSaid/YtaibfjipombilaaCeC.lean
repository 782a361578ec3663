import Derived.Test.YtaibfjipombilaaCeB
set_option linter.unusedSimpArgs false
set_option linter.unusedVariables false
set_option linter.unusedSectionVars false
set_option maxRecDepth 20000
set_option maxHeartbeats 1000000
namespace Go.Proofs.Ytaibfjipombilaa.B
open Go Go.Ab
/-! the document's cells -/
theorem one_ofR {k : IntKind} {objs : List AO} {a : V} {l : List Int} (h : ofIntsR k objs a = some l) : demote a = a ∧ oneCell a = true ∧ isDef a = true ∧ cellsOf a = [a] := by
  rcases ofIntsR_inv h with h | ⟨id, ver, off, cs, rfl, -⟩
  · have := ofInts_inv h; exact ⟨this.dem, this.one, this.isDef, this.cells⟩
  · exact ⟨rfl, rfl, rfl, rfl⟩
noncomputable def k_Alike : Ab.Spec := con2 some some fun v w objs => match v, w with
  | .agg [.bool n1, .int .i64 i1, a], .agg [.bool n2, .int .i64 i2, c] => match ofIntsR .u8 objs a, ofIntsR .u8 objs c with
    | some l, some m => bnd l.length 140737488355328 (some (.bool (decide (n1 = n2) && (decide (i1 = i2) && decide (l = m))), none))
    | _, _ => none
  | _, _ => none
noncomputable def T_Alike : CallF := withF T_CGetK 14 k_Alike
theorem T_Alike_ok : CallOk Try.prog T_Alike := con_of (A := annOf [] [] [] false []) fit T_CGetK_ok (fn := Try.f14) (by kernel_rfl) (by kernel_rfl) (by
  intro args objs r h0
  have c_SameR : ∀ a o, T_CGetK 25 a o = k_SameR a o := fun _ _ => rfl
  obtain ⟨v, w, _, _, rfl, hv, hw, hR⟩ := con2_inv h0
  cases hv; cases hw
  split at hR
  case h_2 => cases hR
  rename_i n1 i1 a n2 i2 c
  split at hR
  case h_2 => cases hR
  rename_i l m ha hc
  obtain ⟨hl, hR⟩ := bnd_inv hR
  cases hR
  obtain ⟨a1, a2, a3, a4⟩ := one_ofR ha
  obtain ⟨c1, c2, c3, c4⟩ := one_ofR hc
  have ha' : ∀ M, ofIntsR .u8 (objs ++ M) a = some l := fun M => ofIntsR_app ha
  have hc' : ∀ M, ofIntsR .u8 (objs ++ M) c = some m := fun M => ofIntsR_app hc
  refine .go _ rfl rfl ?_
  by_cases hn : n1 = n2
  · subst hn
    by_cases hi : i1 = i2
    · subst hi
      simp -implicitDefEqProofs (disch := omega) [a1, a2, a3, a4, c1, c2, c3, c4, c_SameR, k_SameR, ha', hc']
    · have hi' : (i1 == i2) = false := by simpa using hi
      simp -implicitDefEqProofs (disch := omega) [a1, a2, a3, a4, c1, c2, c3, c4, hi, hi']
  · have hn' : (n1 == n2) = false := by simpa using hn
    simp -implicitDefEqProofs (disch := omega) [a1, a2, a3, a4, c1, c2, c3, c4, hn, hn'])
def leastR (k : Int) : Int := if k = 1 then -128 else if k = 2 then -32768 else if k = 3 then -2147483648 else if k = 4 then -9223372036854775808 else 0
def greatR (k : Int) : Int := if k = 1 then 127 else if k = 2 then 32767 else if k = 3 then 2147483647 else if k = 4 then 9223372036854775807 else if k = 5 then 65535 else 1
noncomputable def k_Least : Ab.Spec := con1 (ofInt .i64) fun k _ => some (.int .i64 (leastR k), none)
noncomputable def T_Least : CallF := withF T_Alike 31 k_Least
theorem T_Least_ok : CallOk Try.prog T_Least := con_of (A := annOf [] [] [] false []) fit T_Alike_ok (fn := Try.f31) (by kernel_rfl) (by kernel_rfl) (by
  intro args objs r h0
  obtain ⟨_, k, rfl, hb, hR⟩ := con1_inv h0
  obtain rfl := ofInt_inv hb
  cases hR
  refine .go _ rfl rfl ?_
  unfold leastR
  by_cases h1 : k = 1
  · simp [h1]
  by_cases h2 : k = 2
  · simp [h2]
  by_cases h3 : k = 3
  · simp [h3]
  by_cases h4 : k = 4
  · simp [h4]
  simp [h1, h2, h3, h4])
noncomputable def k_Greatest : Ab.Spec := con1 (ofInt .i64) fun k _ => some (.int .i64 (greatR k), none)
noncomputable def T_Greatest : CallF := withF T_Least 32 k_Greatest
theorem T_Greatest_ok : CallOk Try.prog T_Greatest := con_of (A := annOf [] [] [] false []) fit T_Least_ok (fn := Try.f32) (by kernel_rfl) (by kernel_rfl) (by
  intro args objs r h0
  obtain ⟨_, k, rfl, hb, hR⟩ := con1_inv h0
  obtain rfl := ofInt_inv hb
  cases hR
  refine .go _ rfl rfl ?_
  unfold greatR
  by_cases h1 : k = 1
  · simp [h1]
  by_cases h2 : k = 2
  · simp [h2]
  by_cases h3 : k = 3
  · simp [h3]
  by_cases h4 : k = 4
  · simp [h4]
  by_cases h5 : k = 5
  · simp [h5]
  simp [h1, h2, h3, h4, h5])
noncomputable def k_Zero : Ab.Spec := con1 some fun v objs => match ofIntsR .u8 objs v with | some l => bnd l.length 140737488355328 (some (.bool (zeroIn l), none)) | none => none
noncomputable def T_Zero : CallF := withF T_Greatest 33 k_Zero
theorem T_Zero_ok : CallOk Try.prog T_Zero := con_of (A := annOf [] [] [] false []) fit T_Greatest_ok (fn := Try.f33) (by kernel_rfl) (by kernel_rfl) (by
  intro args objs r h0
  obtain ⟨v, _, rfl, hv, hR⟩ := con1_inv h0
  cases hv
  split at hR
  case h_2 => cases hR
  rename_i l ha
  obtain ⟨hl, hR⟩ := bnd_inv hR
  cases hR
  obtain ⟨P, vd, vn, vi, vl⟩ := bsR ha
  refine .go _ rfl rfl ?_
  simp
  refine .up l.length (fun i s => s.env 0 = v ∧ s.env 3 = .int .i64 i ∧ s.toks = [] ∧ s.objs = objs ∧ s.low = objs.length ∧ ∀ j, j < i → nth l j ≠ 0) (by simp) ?_
  rintro i s hi ⟨h0, h3, ht, ho, hlo, hj⟩
  rcases Nat.lt_or_ge i l.length with h | h
  · by_cases hz : nth l i = 0
    · have hc : zeroIn l = true := by unfold zeroIn; rw [List.contains_iff_mem, ← hz]; exact nth_mem h
      simp (disch := omega) [-loadV, h0, h3, ht, ho, hlo, vn, vi, vl, h, hz, hc]
    · have hs : ∀ j, j < i + 1 → nth l j ≠ 0 := fun j hj2 => by
        rcases Nat.lt_or_ge j i with q | q
        · exact hj j q
        · obtain rfl : j = i := by omega
          exact hz
      simp (disch := omega) [-loadV, h0, h3, ht, ho, hlo, vn, vi, vl, h, hz, wrap_small]
      exact hs
  · obtain rfl : i = l.length := by omega
    have hc : zeroIn l = false := by
      unfold zeroIn
      rw [Bool.eq_false_iff]
      intro q
      rw [List.contains_iff_mem] at q
      obtain ⟨j, hj2, e⟩ := List.getElem_of_mem q
      exact hj j hj2 (by rw [nth_lt hj2]; exact e)
    simp [-loadV, h0, h3, ht, ho, hlo, vn, hc])
def checkR (kind : Int) (null n : Bool) (i : Int) (b : List Int) : Int :=
  if kind < 1 ∨ kind > 8 then 1 else if n = true then (if null = true then (if i = 0 ∧ b = [] then 0 else 50) else 51)
  else if kind ≤ 6 then (if b = [] then (if holdsR kind i = true then 0 else 52) else 50) else if i = 0 then textR kind b else 50
noncomputable def k_rCheck : Ab.Spec := con3 (ofInt .i64) ofBool some fun k nl v objs => match v with
  | .agg [.bool n, .int .i64 i, a] => match ofIntsR .u8 objs a with
    | some l => bnd l.length 140737488355328 (if i64B i = true then some (.int .i64 (checkR k nl n i l), none) else none)
    | none => none
  | _ => none
noncomputable def T_rCheck : CallF := withF T_Zero 12 k_rCheck
theorem T_rCheck_ok : CallOk Try.prog T_rCheck := con_of (A := annOf [] [] [] false []) fit T_Zero_ok (fn := Try.f12) (by kernel_rfl) (by kernel_rfl) (by
  intro args objs r h0
  have c_Least : ∀ a o, T_Zero 31 a o = k_Least a o := fun _ _ => rfl
  have c_Greatest : ∀ a o, T_Zero 32 a o = k_Greatest a o := fun _ _ => rfl
  have c_Zero : ∀ a o, T_Zero 33 a o = k_Zero a o := fun _ _ => rfl
  obtain ⟨_, _, v, k, nl, _, rfl, hk, hnl, hv, hR⟩ := con3_inv h0
  obtain rfl := ofInt_inv hk
  obtain rfl := ofBool_inv hnl
  cases hv
  split at hR
  case h_2 => cases hR
  rename_i n i a
  split at hR
  case h_2 => cases hR
  rename_i l ha
  obtain ⟨hl, hR⟩ := bnd_inv hR
  split at hR
  case isFalse => cases hR
  rename_i hib
  cases hR
  obtain ⟨v0, v1⟩ := i64B_iff.1 hib
  obtain ⟨a1, a2, a3, a4⟩ := one_ofR ha
  obtain ⟨P, -, vn, -⟩ := bsR ha
  have ha' : ∀ M, ofIntsR .u8 (objs ++ M) a = some l := fun M => ofIntsR_app ha
  refine .go _ rfl rfl ?_
  by_cases k1 : k < 1
  · have hg : checkR k nl n i l = 1 := if_pos (.inl k1)
    simp -implicitDefEqProofs (disch := omega) [a1, a2, a3, a4, k1, hg]
  by_cases k8 : 8 < k
  · have hg : checkR k nl n i l = 1 := if_pos (.inr k8)
    simp -implicitDefEqProofs (disch := omega) [a1, a2, a3, a4, k1, k8, hg]
  have hg0 : checkR k nl n i l = if n = true then (if nl = true then (if i = 0 ∧ l = [] then 0 else 50) else 51)
      else if k ≤ 6 then (if l = [] then (if holdsR k i = true then 0 else 52) else 50) else if i = 0 then textR k l else 50 := if_neg (by omega)
  have hl0 : ∀ h : ¬ l = [], 0 < l.length := fun h => List.length_pos_iff.2 h
  cases n with
  | true =>
    rw [if_pos rfl] at hg0
    cases nl with
    | false =>
      simp -implicitDefEqProofs (disch := omega) [a1, a2, a3, a4, k1, k8, hg0]
    | true =>
      rw [if_pos rfl] at hg0
      by_cases hi : i = 0
      · subst hi
        by_cases hz : l = []
        · subst hz
          simp -implicitDefEqProofs (disch := omega) [a1, a2, a3, a4, k1, k8, vn, hg0]
        · have := hl0 hz
          simp -implicitDefEqProofs (disch := omega) [a1, a2, a3, a4, k1, k8, vn, hg0, hz, this]
      · have hi' : (i != 0) = true := by simpa using hi
        simp -implicitDefEqProofs (disch := omega) [a1, a2, a3, a4, k1, k8, vn, hg0, hi, hi']
  | false =>
    rw [if_neg (by simp)] at hg0
    by_cases k6 : k ≤ 6
    · rw [if_pos k6] at hg0
      by_cases hz : l = []
      · subst hz
        rw [if_pos rfl] at hg0
        by_cases hh : holdsR k i = true
        · rw [if_pos hh] at hg0
          have hb : leastR k ≤ i ∧ i ≤ greatR k := by
            unfold holdsR at hh; unfold leastR greatR
            obtain rfl | rfl | rfl | rfl | rfl | rfl : k = 1 ∨ k = 2 ∨ k = 3 ∨ k = 4 ∨ k = 5 ∨ k = 6 := by omega
            all_goals simp at hh ⊢
            all_goals omega
          have hb1 : ¬ i < leastR k := by omega
          have hb2 : ¬ greatR k < i := by omega
          simp -implicitDefEqProofs (disch := omega) [a1, a2, a3, a4, k1, k8, k6, vn, hg0, c_Least, k_Least, c_Greatest, k_Greatest, hb1, hb2]
        · rw [if_neg hh] at hg0
          have hb : i < leastR k ∨ greatR k < i := by
            unfold holdsR at hh; unfold leastR greatR
            obtain rfl | rfl | rfl | rfl | rfl | rfl : k = 1 ∨ k = 2 ∨ k = 3 ∨ k = 4 ∨ k = 5 ∨ k = 6 := by omega
            all_goals simp at hh ⊢
            all_goals omega
          by_cases hb1 : i < leastR k
          · simp -implicitDefEqProofs (disch := omega) [a1, a2, a3, a4, k1, k8, k6, vn, hg0, c_Least, k_Least, c_Greatest, k_Greatest, hb1]
          · have hb2 : greatR k < i := hb.resolve_left hb1
            simp -implicitDefEqProofs (disch := omega) [a1, a2, a3, a4, k1, k8, k6, vn, hg0, c_Least, k_Least, c_Greatest, k_Greatest, hb1, hb2]
      · rw [if_neg hz] at hg0
        have := hl0 hz
        simp -implicitDefEqProofs (disch := omega) [a1, a2, a3, a4, k1, k8, k6, vn, hg0, hz, this]
    · rw [if_neg k6] at hg0
      by_cases hi : i = 0
      · subst hi
        rw [if_pos rfl] at hg0
        by_cases h200 : l.length > 200
        · have ht : textR k l = 4 := if_pos h200
          rw [ht] at hg0
          simp -implicitDefEqProofs (disch := omega) [a1, a2, a3, a4, k1, k8, k6, vn, hg0, h200]
        by_cases h7 : k = 7
        · subst h7
          by_cases hc : zeroIn l = true
          · have ht : textR 7 l = 5 := by unfold textR; rw [if_neg h200, if_pos ⟨rfl, hc⟩]
            rw [ht] at hg0
            simp -implicitDefEqProofs (disch := omega) [a1, a2, a3, a4, vn, hg0, h200, c_Zero, k_Zero, ha', hc]
          · have ht : textR 7 l = 0 := by unfold textR; rw [if_neg h200, if_neg (fun q => hc q.2)]
            have hc : zeroIn l = false := by simpa using hc
            rw [ht] at hg0
            simp -implicitDefEqProofs (disch := omega) [a1, a2, a3, a4, vn, hg0, h200, c_Zero, k_Zero, ha', hc]
        · have ht : textR k l = 0 := by unfold textR; rw [if_neg h200, if_neg (fun q => h7 q.1)]
          rw [ht] at hg0
          simp -implicitDefEqProofs (disch := omega) [a1, a2, a3, a4, k1, k8, k6, vn, hg0, h200, h7]
      · rw [if_neg hi] at hg0
        have hi' : (i != 0) = true := by simpa using hi
        simp -implicitDefEqProofs (disch := omega) [a1, a2, a3, a4, k1, k8, k6, vn, hg0, hi, hi'])

end Go.Proofs.Ytaibfjipombilaa.B
set_option maxRecDepth 20000
set_option maxHeartbeats 1000000
namespace Go.Proofs.Ytaibfjipombilaa.B
open Go Go.Ab
def cellV (g : CG) : V := .agg [.bool g.n, .int .i64 g.i, match g.b with | none => .nils | some l => .lst .frozen (ints .u8 l) l.length]
theorem checkN {k i : Int} (h1 : 1 ≤ k) (h6 : k ≤ 6) : checkR k true false i [] = if holdsR k i = true then 0 else 52 := by
  unfold checkR; rw [if_neg (by omega), if_neg (by simp), if_pos h6, if_pos rfl]
theorem checkT {k : Int} {S : List Int} (h6 : ¬ k ≤ 6) (h8 : k ≤ 8) : checkR k true false 0 S = textR k S := by
  unfold checkR; rw [if_neg (by omega), if_neg (by simp), if_neg h6, if_pos rfl]
theorem piece_eq5 (l : List Int) (q n m : Nat) (h : m = q + n) : pieceZ l (q : Int) ((m : Nat) : Int) = (l.drop q).take n := by
  subst h
  unfold pieceZ
  rw [Int.toNat_natCast, Int.toNat_natCast, List.drop_take]
  congr 1; omega
noncomputable def k_rCGet : Ab.Spec := con3 (ofInt .i64) (ofInts .u8) (ofInt .i64) fun k b p objs => bnd b.length 140737488353000 (if b8 b = true then some (.tup [cellV (cgetZ k b p), .int .i64 (cgetZ k b p).next, .int .i64 (cgetZ k b p).err], none) else none)
noncomputable def T_rCGet : CallF := withF T_rCheck 20 k_rCGet
theorem T_rCGet_ok : CallOk Try.prog T_rCGet := con_of (A := annOf [] [] [] false []) fit T_rCheck_ok (fn := Try.f20) (by kernel_rfl) (by kernel_rfl) (by
  intro args objs r h0
  have c_RGet : ∀ a o, T_rCheck 43 a o = k_RGet a o := fun _ _ => rfl
  have c_RUnfold : ∀ a o, T_rCheck 44 a o = k_RUnfold a o := fun _ _ => rfl
  have c_Piece : ∀ a o, T_rCheck 23 a o = k_Piece a o := fun _ _ => rfl
  have c_rCheck : ∀ a o, T_rCheck 12 a o = k_rCheck a o := fun _ _ => rfl
  obtain ⟨_, v, _, k, b, p, rfl, hk, ha, hp, hR⟩ := con3_inv h0
  obtain rfl := ofInt_inv hk
  obtain rfl := ofInt_inv hp
  obtain ⟨hl, hR⟩ := bnd_inv hR
  split at hR
  case isFalse => cases hR
  rename_i h8
  cases hR
  have hBy := b8_bytes h8
  obtain ⟨vd, vn, vi, -⟩ := bs ha
  have nlo : ¬ objs.length + 1 < objs.length := by omega
  refine .go _ rfl rfl ?_
  by_cases hk1 : k < 1
  · have hg : cgetZ k b p = .bad 1 := if_pos (by omega)
    simp (disch := omega) [hk1, hg, CG.bad, cellV, fitC0, setCells, getObj_last, nlo]
  by_cases hk8 : 8 < k
  · have hg : cgetZ k b p = .bad 1 := if_pos (by omega)
    simp (disch := omega) [hk1, hk8, hg, CG.bad, cellV, fitC0, setCells, getObj_last, nlo]
  by_cases h1 : p < 0
  · have hg : cgetZ k b p = .bad 1 := if_pos (by omega)
    simp (disch := omega) [hk1, hk8, h1, hg, CG.bad, cellV, fitC0, setCells, getObj_last, nlo]
  by_cases h2 : p > b.length
  · have hg : cgetZ k b p = .bad 1 := if_pos (by omega)
    simp (disch := omega) [hk1, hk8, vn, h1, h2, hg, CG.bad, cellV, fitC0, setCells, getObj_last, nlo]
  obtain ⟨q, rfl⟩ := Int.eq_ofNat_of_zero_le (show 0 ≤ p by omega)
  have h0' : ¬ (k < 1 ∨ k > 8 ∨ (q : Int) < 0 ∨ (q : Int) > b.length) := by omega
  have hqn : ¬ b.length < q := by omega
  by_cases h3 : q = b.length
  · subst h3
    have hg : cgetZ k b (b.length : Int) = .bad 2 := by unfold cgetZ; rw [if_neg h0', if_pos rfl]
    simp (disch := omega) [hk1, hk8, vn, hg, CG.bad, cellV, fitC0, setCells, getObj_last, nlo]
  have hql : q < b.length := by omega
  have h3' : ¬ (q : Int) = b.length := by omega
  have i1 := vi .i64 q (by omega) (by omega)
  rw [Int.toNat_natCast] at i1
  have en := ints_nth (k := .u8) hql
  have en' := of_get en
  obtain ⟨c, hc⟩ : ∃ c, c = nth b q := ⟨_, rfl⟩
  have hcr := hBy _ (nth_mem hql)
  have hg0 : cgetZ k b (q : Int) = if c > 1 then .bad 5 else if c = 0 then ⟨true, 0, none, (q : Int) + 1, 0, none⟩ else match M.getR b ((q : Int) + 1) with | (u, nx, e) => if e ≠ 0 then .bad e else cgetU k b u nx := by
    unfold cgetZ; rw [if_neg h0', if_neg h3', Int.toNat_natCast, ← hc]
  rw [← hc] at en en' hcr
  have wq : IntKind.i64.wrap ((q : Int) + 1) = (q : Int) + 1 := wrap_small (by omega) (by omega)
  by_cases h5 : c = 0
  · rw [if_neg (by omega), if_pos h5] at hg0
    rw [h5] at en en'
    simp (disch := omega) [hk1, hk8, vn, hqn, h3, h3', i1, en, en', hql, hg0, wq, cellV, fitC1, setCells, getObj_last, nlo]
  by_cases h4 : c > 1
  · rw [if_pos h4] at hg0
    have h41 : ¬ c = 1 := by omega
    simp (disch := omega) [hk1, hk8, vn, hqn, h3, h3', i1, en, en', hql, h5, h41, hg0, CG.bad, cellV, fitC0, setCells, getObj_last, nlo]
  rw [if_neg h4, if_neg h5] at hg0
  have h51 : c = 1 := by omega
  rw [h51] at en en'
  obtain ⟨u, nx, e, hg⟩ : ∃ u nx e, M.getR b ((q : Int) + 1) = (u, nx, e) := ⟨_, _, _, rfl⟩
  have gv : getVR b ((q : Int) + 1) = some (.tup [.int .u64 u, .int .i64 nx, .int .i64 e], none) := by unfold getVR; rw [hg]
  rw [hg] at hg0
  simp only at hg0
  by_cases he : e = 0
  case neg =>
    rw [if_pos he] at hg0
    have he' : (e != 0) = true := by simpa using he
    simp -implicitDefEqProofs (disch := omega) [hk1, hk8, vn, hqn, h3, h3', i1, en, en', hql, wq, vd, ha, c_RGet, k_RGet, h8, gv, he, he', hg0, CG.bad, cellV, fitC0, setCells, getObj_last, nlo]
  subst he
  rw [if_neg (by simp)] at hg0
  obtain ⟨g1, g2, g3, g4, g5, g6, -⟩ := M.getR_ok hBy hg
  have hur := unf_range g5 g6
  have hun : unfR u = some (.int .i64 (M.unfoldI u), none) := if_pos ⟨g5, g6⟩
  have n0 : ∀ O, ofIntsR .u8 O V.nils = some [] := fun _ => rfl
  have z0 : i64B 0 = true := rfl
  by_cases hk6 : k ≤ 6
  · have hch := checkN (k := k) (i := M.unfoldI u) (by omega) hk6
    unfold cgetU at hg0
    rw [if_pos hk6] at hg0
    by_cases hh : holdsR k (M.unfoldI u) = true
    · rw [if_pos hh] at hg0 hch
      simp -implicitDefEqProofs (disch := omega) [hk1, hk8, vn, hqn, h3, h3', i1, en, en', hql, wq, vd, ha, c_RGet, k_RGet, h8, gv, hk6, c_RUnfold, k_RUnfold, hun, c_rCheck, k_rCheck, n0, hur, hch, hg0, cellV, fitC0, setCells, getObj_last, nlo]
    · rw [if_neg hh] at hg0 hch
      simp -implicitDefEqProofs (disch := omega) [hk1, hk8, vn, hqn, h3, h3', i1, en, en', hql, wq, vd, ha, c_RGet, k_RGet, h8, gv, hk6, c_RUnfold, k_RUnfold, hun, c_rCheck, k_rCheck, n0, hur, hch, hg0, CG.bad, cellV, fitC0, setCells, getObj_last, nlo]
  unfold cgetU at hg0
  rw [if_neg hk6] at hg0
  by_cases hu : u > 200
  · rw [if_pos hu] at hg0
    simp -implicitDefEqProofs (disch := omega) [hk1, hk8, vn, hqn, h3, h3', i1, en, en', hql, wq, vd, ha, c_RGet, k_RGet, h8, gv, hk6, hu, hg0, CG.bad, cellV, fitC0, setCells, getObj_last, nlo]
  rw [if_neg hu] at hg0
  obtain ⟨U, rfl⟩ := Int.eq_ofNat_of_zero_le g5
  obtain ⟨nx, rfl⟩ := Int.eq_ofNat_of_zero_le (show 0 ≤ nx by omega)
  simp only [Int.toNat_natCast] at hg0
  have wu : IntKind.i64.wrap (U : Int) = U := wrap_small (by omega) (by omega)
  have wb : IntKind.i64.wrap ((b.length : Int) - nx) = ((b.length - nx : Nat) : Int) := by rw [wrap_small (by omega) (by omega)]; omega
  have wbu : IntKind.u64.wrap ((b.length - nx : Nat) : Int) = ((b.length - nx : Nat) : Int) := wrap_u64 (by omega) (by omega)
  have wnu : IntKind.i64.wrap ((nx : Int) + U) = (nx : Int) + U := wrap_small (by omega) (by omega)
  have hu' : ¬ 200 < U := by omega
  by_cases hs : (U : Int) > b.length - nx
  · rw [if_pos hs] at hg0
    have hs' : b.length - nx < U := by omega
    simp -implicitDefEqProofs (disch := omega) [hk1, hk8, vn, hqn, h3, h3', i1, en, en', hql, wq, vd, ha, c_RGet, k_RGet, h8, gv, hk6, hu', convV, wb, wbu, hs', hg0, CG.bad, cellV, fitC0, setCells, getObj_last, nlo]
  rw [if_neg hs] at hg0
  have hs' : ¬ b.length - nx < U := by omega
  have lt1 : (nx : Int) < 9223372036854775807 := by omega
  have p2 : pieceZ b (nx : Int) ((nx : Int) + U) = (b.drop nx).take U := by
    have := piece_eq5 b nx U (nx + U) rfl
    rwa [Int.natCast_add] at this
  obtain ⟨S, hS⟩ : ∃ S, S = (b.drop nx).take U := ⟨_, rfl⟩
  have hSl : S.length = U := by rw [hS, List.length_take, List.length_drop]; omega
  rw [← hS] at hg0 p2
  have eS : ∀ O : List AO, ofIntsR .u8 O (.lst .frozen (ints .u8 S) U) = some S := fun O => ofIntsR_of (ofInts_lst (by rw [hSl]))
  have hch := checkT (k := k) (S := S) hk6 (by omega)
  by_cases hx : textR k S = 0
  · rw [if_neg (by simp [hx])] at hg0
    rw [hx] at hch
    simp -implicitDefEqProofs (disch := omega) [hk1, hk8, vn, hqn, h3, h3', i1, en, en', hql, wq, vd, ha, c_RGet, k_RGet, h8, gv, hk6, hu', convV, wu, wb, wbu, wnu, hs', c_Piece, k_Piece, lt1, p2, hSl, c_rCheck, k_rCheck, eS, z0, hch, hg0, cellV, fitC0, setCells, getObj_last, nlo]
  · rw [if_pos hx] at hg0
    have hx' : (textR k S != 0) = true := by simpa using hx
    simp -implicitDefEqProofs (disch := omega) [hk1, hk8, vn, hqn, h3, h3', i1, en, en', hql, wq, vd, ha, c_RGet, k_RGet, h8, gv, hk6, hu', convV, wu, wb, wbu, wnu, hs', c_Piece, k_Piece, lt1, p2, hSl, c_rCheck, k_rCheck, eS, z0, hch, hx, hx', hg0, cellV, fitC0, setCells, getObj_last, nlo])

end Go.Proofs.Ytaibfjipombilaa.B
set_option maxRecDepth 20000
set_option maxHeartbeats 1000000
namespace Go.Proofs.Ytaibfjipombilaa.B
open Go Go.Ab
def AG : Ann := ⟨fun f d => if f = 12 then (annOf [] [] [] false []).mode f d else if f = 13 then (annOf [] [] [] false []).mode f d else if f = 14 then (annOf [] [] [] false []).mode f d else if f = 16 then (annOf [20,26] [] [] false []).mode f d else if f = 17 then (annOf [] [] [] false [38]).mode f d else if f = 18 then (annOf [] [17] [(6, [.ref])] false []).mode f d else if f = 19 then (annOf [999] [] [] false []).mode f d else if f = 20 then (annOf [] [] [] false []).mode f d else if f = 21 then (annOf [] [] [] false []).mode f d else if f = 22 then (annOf [8] [] [] false []).mode f d else if f = 23 then (annOf [9] [] [] false []).mode f d else if f = 24 then (annOf [] [5,18] [] false []).mode f d else if f = 25 then (annOf [] [] [] false []).mode f d else if f = 28 then (annOf [] [] [] false []).mode f d else if f = 29 then (annOf [] [] [] false []).mode f d else if f = 30 then (annOf [] [] [] false []).mode f d else if f = 31 then (annOf [] [] [] false []).mode f d else if f = 32 then (annOf [] [] [] false []).mode f d else if f = 33 then (annOf [] [] [] false []).mode f d else if f = 36 then (annOf [] [11,18] [] false []).mode f d else if f = 37 then (annOf [] [] [] false []).mode f d else if f = 38 then (annOf [] [] [] false []).mode f d else if f = 39 then (annOf [] [] [] false []).mode f d else if f = 40 then (annOf [] [] [] false []).mode f d else if f = 41 then (annOf [] [] [] false []).mode f d else if f = 42 then (annOf [5] [] [] false []).mode f d else if f = 43 then (annOf [] [] [] false []).mode f d else if f = 44 then (annOf [] [] [] false []).mode f d else if f = 47 then (annOf [] [] [] false []).mode f d else if f = 49 then (annOf [] [] [] false []).mode f d else if f = 50 then (annOf [] [] [] false []).mode f d else [], fun f => if f = 12 then (annOf [] [] [] false []).keep f else if f = 13 then (annOf [] [] [] false []).keep f else if f = 14 then (annOf [] [] [] false []).keep f else if f = 16 then (annOf [20,26] [] [] false []).keep f else if f = 17 then (annOf [] [] [] false [38]).keep f else if f = 18 then (annOf [] [17] [(6, [.ref])] false []).keep f else if f = 19 then (annOf [999] [] [] false []).keep f else if f = 20 then (annOf [] [] [] false []).keep f else if f = 21 then (annOf [] [] [] false []).keep f else if f = 22 then (annOf [8] [] [] false []).keep f else if f = 23 then (annOf [9] [] [] false []).keep f else if f = 24 then (annOf [] [5,18] [] false []).keep f else if f = 25 then (annOf [] [] [] false []).keep f else if f = 28 then (annOf [] [] [] false []).keep f else if f = 29 then (annOf [] [] [] false []).keep f else if f = 30 then (annOf [] [] [] false []).keep f else if f = 31 then (annOf [] [] [] false []).keep f else if f = 32 then (annOf [] [] [] false []).keep f else if f = 33 then (annOf [] [] [] false []).keep f else if f = 36 then (annOf [] [11,18] [] false []).keep f else if f = 37 then (annOf [] [] [] false []).keep f else if f = 38 then (annOf [] [] [] false []).keep f else if f = 39 then (annOf [] [] [] false []).keep f else if f = 40 then (annOf [] [] [] false []).keep f else if f = 41 then (annOf [] [] [] false []).keep f else if f = 42 then (annOf [5] [] [] false []).keep f else if f = 43 then (annOf [] [] [] false []).keep f else if f = 44 then (annOf [] [] [] false []).keep f else if f = 47 then (annOf [] [] [] false []).keep f else if f = 49 then (annOf [] [] [] false []).keep f else if f = 50 then (annOf [] [] [] false []).keep f else false, fun g => [38].contains g, fun _ => false⟩
noncomputable def XF : FuncId → Option (List V → List AO → Option V) := fun f => if f = 52 then some (fun a o => resOf (k_bCompare a o)) else if f = 54 then some (fun a o => resOf (k_bIndexByte a o)) else none
theorem xok : XOk Try.prog XF := xok_of (T := T_bIndexByte) T_bIndexByte_ok (by
  intro f g args objs v h1 h2
  unfold XF at h1
  split at h1
  · rename_i hf; subst hf; cases h1; exact resOf_inv h2
  split at h1
  · rename_i hf; subst hf; cases h1; exact resOf_inv h2
  cases h1)
theorem alive_run : runF Try.prog AG (callA Try.prog AG XF 400) 400 9 Try.f9 [] [] = some (.bool true, none) := by kernel_rfl
def k_alive : Ab.Spec := con0 fun objs => match objs with | [] => some (.bool true, none) | _ => none
noncomputable def T_alive : CallF := withF T_rCGet 9 k_alive
theorem T_alive_ok : CallOk Try.prog T_alive := con_by (A := AG) fit T_rCGet_ok (callA_ok (A := AG) fit xok 400) (fn := Try.f9) (by kernel_rfl) (by kernel_rfl) (by
  intro args objs r h0
  obtain ⟨rfl, hR⟩ := con0_inv h0
  split at hR <;> cases hR
  exact .run 400 alive_run)

end Go.Proofs.Ytaibfjipombilaa.B
set_option maxRecDepth 20000
set_option maxHeartbeats 1000000
namespace Go.Proofs.Ytaibfjipombilaa.B
open Go Go.Ab
theorem in_int {D M n : Nat} {v : V} {t : TypeId} {k : IntKind} (hu : Try.prog.underlying t = some (.int k)) (hg : Ab.isAgg Try.prog t = false) (h : ShpV Try.prog D M n t v) : ∃ i, v = .int k i ∧ (Lit.int k i).wf = true := by
  unfold ShpV at h
  rw [if_neg (by rw [hg]; simp)] at h
  exact shp_int hu h
theorem wf_u32 {c : Int} (h : (Lit.int .u32 c).wf = true) : 0 ≤ c ∧ c < 4294967296 := by
  simp [Lit.wf, IntKind.min, IntKind.max] at h; omega
theorem wf_u64 {c : Int} (h : (Lit.int .u64 c).wf = true) : 0 ≤ c ∧ c < 18446744073709551616 := by
  simp [Lit.wf, IntKind.min, IntKind.max] at h; omega
theorem wf_i64 {c : Int} (h : (Lit.int .i64 c).wf = true) : -9223372036854775808 ≤ c ∧ c < 9223372036854775808 := by
  simp [Lit.wf, IntKind.min, IntKind.max] at h; omega
theorem flat : laidFlat Try.prog = true := by kernel_rfl

theorem cgetU_b (k : Int) (b : List Int) (u nx : Int) : (cgetU k b u nx).b = none ∨ ∃ S, (cgetU k b u nx).b = some S ∧ (cgetU k b u nx).ex = some S ∧ S.length ≤ 200 := by
  unfold cgetU
  repeat' split
  all_goals first | exact .inl rfl | skip
  rename_i h1 h2 h3
  exact .inr ⟨_, rfl, rfl, by rw [List.length_take]; omega⟩
theorem cgetZ_b (k : Int) (b : List Int) (p : Int) : (cgetZ k b p).b = none ∨ ∃ S, (cgetZ k b p).b = some S ∧ (cgetZ k b p).ex = some S ∧ S.length ≤ 200 := by
  unfold cgetZ
  repeat' split
  all_goals first | exact .inl rfl | skip
  exact cgetU_b _ _ _ _
theorem cgetU_ex (k : Int) (b : List Int) (u nx : Int) : i64B (cgetU k b u nx).i = true ∨ (cgetU k b u nx).i = M.unfoldI u := by
  unfold cgetU
  repeat' split
  all_goals first | exact .inr rfl | exact .inl rfl
def cellsC (n : Bool) (i : Int) (S : List Int) (T : List Int) : List AO := [.cells [.bool n, .int .i64 i, .ref 1 0 0 S.length 1] 0, .cells (ints .u8 T) 0, .cells [.bool n, .int .i64 i, .ref 1 0 0 S.length 1] 0, .cells [.bool n, .int .i64 i, .ref 4 0 0 S.length 1] 0, .cells (ints .u8 S) 0, .cells [.bool n, .int .i64 i, .ref 4 0 0 S.length 1] 0, .cells [.bool n, .int .i64 i, .lst .frozen (ints .u8 S) S.length] 0]
theorem apart_cell {n : Bool} {i : Int} {S : List Int} (hl : S.length ≤ 200) : ∃ r, k_Apart [.ref 1 0 0 S.length 1, .ref 4 0 0 S.length 1, .lst .frozen (ints .u8 S) S.length] (cellsC n i S S) = some (.bool true, r) ∧ (r = none ∨ r = some (cellsC n i S (S.map spF), 1)) := by
  have hu : ofInts .u8 (.lst .frozen (ints .u8 S) S.length) = some S := ofInts_lst rfl
  have h1 : ∀ T, ofIntsR .u8 (cellsC n i S T) (.ref 4 0 0 S.length 1) = some S := fun T => ofIntsR_ref rfl rfl
  have h3 : clean 7 (cellsC n i S (S.map spF)) = true := by simp [clean, cellsC]
  have hg : Ab.getObj (cellsC n i S S) 1 0 = some (ints .u8 S) := rfl
  have hs : (cellsC n i S S).set 1 (.cells (ints .u8 (S.map spF)) 0) = cellsC n i S (S.map spF) := rfl
  have hlen : (cellsC n i S S).length = 7 := rfl
  by_cases hz : S = []
  · refine ⟨none, ?_, .inl rfl⟩
    subst hz
    have h2 : ofIntsR .u8 ((cellsC n i [] []).set 1 (.cells [] 0)) (.ref 4 0 0 0 1) = some [] := ofIntsR_ref rfl rfl
    have h1' := h1 []
    simp at h1' hg h2 hu
    simp [k_Apart, con3, hg, ofCellsI_ints, hlen, h1', h2, ofIntsR_of hu, bnd_pos, ofCellsI]
    exact h2
  · have hz2 : ¬ S.length = 0 := fun q => hz (List.eq_nil_of_length_eq_zero q)
    refine ⟨some (cellsC n i S (S.map spF), 1), ?_, .inr rfl⟩
    have hb : S.length < 140737488354000 := by omega
    simp [k_Apart, con3, hg, hs, hlen, ofCellsI_ints, hb, h1, h3, ofIntsR_of hu, hz, bnd_pos]
noncomputable def k_CellGets : Ab.Spec := con3 (ofInt .i64) (ofInts .u8) (ofInt .i64) fun k b p objs => match objs with | [] => bnd b.length 140737488352000 (if b8 b = true then some (.bool true, none) else none) | _ => none
noncomputable def T_CellGets : CallF := withF T_alive 5 k_CellGets
theorem T_CellGets_ok : CallOk Try.prog T_CellGets := con_of (A := annOf [] [] [] false [17, 19]) fit T_alive_ok (fn := Try.f5) (by kernel_rfl) (by kernel_rfl) (by
  intro args objs r h0
  have c_alive : ∀ a o, T_alive 9 a o = k_alive a o := fun _ _ => rfl
  have c_Wide : ∀ a o, T_alive 18 a o = k_Wide a o := fun _ _ => rfl
  have c_CGetK : ∀ a o, T_alive 19 a o = k_CGetK a o := fun _ _ => rfl
  have c_rCGet : ∀ a o, T_alive 20 a o = k_rCGet a o := fun _ _ => rfl
  have c_Alike : ∀ a o, T_alive 14 a o = k_Alike a o := fun _ _ => rfl
  have c_Apart : ∀ a o, T_alive 17 a o = k_Apart a o := fun _ _ => rfl
  have c_Intact : ∀ a o, T_alive 21 a o = k_Intact a o := fun _ _ => rfl
  obtain ⟨_, v, _, k, b, p, rfl, hk, ha, hp, hR⟩ := con3_inv h0
  obtain rfl := ofInt_inv hk
  obtain rfl := ofInt_inv hp
  split at hR
  case h_2 => cases hR
  obtain ⟨hl, hR⟩ := bnd_inv hR
  split at hR
  case isFalse => cases hR
  rename_i h8
  cases hR
  obtain ⟨vd, vn, vi, -⟩ := bs ha
  have hwl := wide_len b
  have hwt : (wide b).take b.length = b := by simp [wide]
  have e0 : ofInts .u8 (.lst .frozen (ints .u8 (wide b)) (b.length + 64)) = some (wide b) := ofInts_lst (by rw [hwl])
  have e1 : ofInts .u8 (.lst .frozen (ints .u8 b) b.length) = some b := ofInts_lst rfl
  have hgb := cgetZ_b k b p
  obtain ⟨g, hg⟩ : ∃ g, g = cgetZ k b p := ⟨_, rfl⟩
  rw [← hg] at hgb
  have hn0 : ∀ O, ofIntsR .u8 O V.nils = some [] := fun _ => rfl
  refine .go _ rfl rfl ?_
  rcases hgb with hb | ⟨S, hb, hx, hS⟩
  · have fk : ∀ o, cellK o g = .agg [.bool g.n, .int .i64 g.i, .nils] := fun o => by unfold cellK; rw [hb]
    have fv : cellV g = .agg [.bool g.n, .int .i64 g.i, .nils] := by unfold cellV; rw [hb]
    cases hx : g.ex with
    | none =>
      have fo : ∀ o, cellO o g = [.cells [.bool g.n, .int .i64 g.i, .nils] 0] := fun o => by unfold cellO; rw [hb, hx]
      have hap : k_Apart [.nils, .nils, .nils] [AO.cells [.bool g.n, .int .i64 g.i, .nils] 0, AO.cells [.bool g.n, .int .i64 g.i, .nils] 0, AO.cells [.bool g.n, .int .i64 g.i, .nils] 0, AO.cells [.bool g.n, .int .i64 g.i, .nils] 0, AO.cells [.bool g.n, .int .i64 g.i, .nils] 0] = some (.bool true, none) := by simp [k_Apart, con3, hn0]
      simp -implicitDefEqProofs (maxSteps := 1000000) (disch := omega) [c_alive, c_Wide, c_CGetK, c_rCGet, c_Alike, c_Apart, c_Intact, k_alive, k_Wide, k_CGetK, k_rCGet, k_Alike, hap, k_Intact, vd, vn, ha, e0, e1, hwl, hwt, h8, clean, ← hg, fk, fo, fv, hn0, setCells]
    | some T =>
      have fo : ∀ o, cellO o g = [.cells [.bool g.n, .int .i64 g.i, .nils] 0, .cells (ints .u8 T) 0] := fun o => by unfold cellO; rw [hb, hx]
      have hap : k_Apart [.nils, .nils, .nils] [AO.cells [.bool g.n, .int .i64 g.i, .nils] 0, .cells (ints .u8 T) 0, AO.cells [.bool g.n, .int .i64 g.i, .nils] 0, AO.cells [.bool g.n, .int .i64 g.i, .nils] 0, .cells (ints .u8 T) 0, AO.cells [.bool g.n, .int .i64 g.i, .nils] 0, AO.cells [.bool g.n, .int .i64 g.i, .nils] 0] = some (.bool true, none) := by simp [k_Apart, con3, hn0]
      simp -implicitDefEqProofs (maxSteps := 1000000) (disch := omega) [c_alive, c_Wide, c_CGetK, c_rCGet, c_Alike, c_Apart, c_Intact, k_alive, k_Wide, k_CGetK, k_rCGet, k_Alike, hap, k_Intact, vd, vn, ha, e0, e1, hwl, hwt, h8, clean, ← hg, fk, fo, fv, hn0, setCells]
  · have fk : ∀ o, cellK o g = .agg [.bool g.n, .int .i64 g.i, .ref (o + 1) 0 0 S.length 1] := fun o => by unfold cellK; rw [hb]
    have fv : cellV g = .agg [.bool g.n, .int .i64 g.i, .lst .frozen (ints .u8 S) S.length] := by unfold cellV; rw [hb]
    have fo : ∀ o, cellO o g = [.cells [.bool g.n, .int .i64 g.i, .ref (o + 1) 0 0 S.length 1] 0, .cells (ints .u8 S) 0] := fun o => by unfold cellO; rw [hb, hx]
    obtain ⟨r, hap, hr⟩ := apart_cell (n := g.n) (i := g.i) hS
    have r1 : ofIntsR .u8 (cellsC g.n g.i S S) (.ref 1 0 0 S.length 1) = some S := ofIntsR_ref rfl rfl
    have r4 : ofIntsR .u8 (cellsC g.n g.i S S) (.ref 4 0 0 S.length 1) = some S := ofIntsR_ref rfl rfl
    have r6 : ∀ O, ofIntsR .u8 O (.lst .frozen (ints .u8 S) S.length) = some S := fun O => ofIntsR_of (ofInts_lst rfl)
    simp only [cellsC] at hap hr r1 r4
    rcases hr with rfl | rfl
    · simp -implicitDefEqProofs (maxSteps := 1000000) (disch := omega) [c_alive, c_Wide, c_CGetK, c_rCGet, c_Alike, c_Apart, c_Intact, k_alive, k_Wide, k_CGetK, k_rCGet, k_Alike, hap, k_Intact, vd, vn, ha, e0, e1, hwl, hwt, h8, clean, ← hg, fk, fo, fv, r1, r4, r6, setCells]
    · simp -implicitDefEqProofs (maxSteps := 1000000) (disch := omega) [c_alive, c_Wide, c_CGetK, c_rCGet, c_Alike, c_Apart, c_Intact, k_alive, k_Wide, k_CGetK, k_rCGet, k_Alike, hap, k_Intact, vd, vn, ha, e0, e1, hwl, hwt, h8, clean, ← hg, fk, fo, fv, r1, r4, r6, setCells])
theorem in_bytes {D M n : Nat} {v : V} (h : ShpV Try.prog D M n 22 v) : ∃ l, ofInts .u8 v = some l ∧ b8 l = true ∧ l.length ≤ 140737488351232 ∧ (M = 0 ∨ l.length ≤ M) := by
  have hg : Ab.isAgg Try.prog 22 = false := by kernel_rfl
  have h2 : Shp Try.prog D M n 22 v := by unfold ShpV at h; rwa [if_neg (by rw [hg]; simp)] at h
  obtain ⟨l, l1, l2, l3, l4⟩ := shp_ints u22 u5 h2
  have hb : Try.prog.bytesOf 5 = 1 := by kernel_rfl
  rw [hb] at l3
  exact ⟨l, l1, wf_u8 l2, by omega, l4⟩
theorem walk_CellGets {D M n : Nat} {vs : List V} {args : Array Value} {W : World} (hS : ShpAll Try.prog D M n [3, 22, 3] vs) (hA : AR (top W) W vs args.toList) : Calls Try.prog 5 args W fun e W' => e = .returned (.bool true) ∧ Go.RowKit.Below W.heap.size W W' := by
  match vs, hS with
  | [v0, v1, v2], ⟨s0, s1, s2, _⟩ =>
    obtain ⟨i0, rfl, w0⟩ := in_int u3 (by kernel_rfl) s0
    obtain ⟨b, d1, b1, n1, -⟩ := in_bytes s1
    obtain ⟨i2, rfl, w2⟩ := in_int u3 (by kernel_rfl) s2
    refine whole fit T_CellGets_ok (fn := Try.f5) (by kernel_rfl) (by kernel_rfl) ?_ hA
    show k_CellGets [.int .i64 i0, v1, .int .i64 i2] [] = _
    simp (disch := omega) [k_CellGets, d1, b1]

end Go.Proofs.Ytaibfjipombilaa.B
