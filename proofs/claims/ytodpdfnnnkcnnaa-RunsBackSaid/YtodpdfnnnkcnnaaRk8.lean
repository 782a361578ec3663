import Derived.Test.YtodpdfnnnkcnnaaRk7
set_option linter.unusedSimpArgs false
set_option linter.unusedVariables false
set_option linter.unusedSectionVars false
set_option maxRecDepth 20000
set_option maxHeartbeats 1000000
namespace Go.Proofs.Ytodpdfnnnkcnnaa.B
open Go Go.Ab
/-! runs and numbers, plain mathematics -/
def expd (rs : List (Int × Int)) : List Int := rs.flatMap fun r => List.replicate r.2.toNat r.1
structure Runs (rs : List (Int × Int)) : Prop where
  pos : ∀ r ∈ rs, 1 ≤ r.2
  alt : ∀ j, 0 < j → j < rs.length → (nth rs j).1 ≠ (nth rs (j - 1)).1
  rng : ∀ r ∈ rs, -9223372036854775808 ≤ r.1 ∧ r.1 < 9223372036854775808
theorem expd_app (a b : List (Int × Int)) : expd (a ++ b) = expd a ++ expd b := by simp [expd]
theorem expd_one (r : Int × Int) : expd [r] = List.replicate r.2.toNat r.1 := by simp [expd]
theorem expd_succ {rs : List (Int × Int)} {j : Nat} (h : j < rs.length) : expd (rs.take (j + 1)) = expd (rs.take j) ++ List.replicate (nth rs j).2.toNat (nth rs j).1 := by
  rw [take_nth h, expd_app, expd_one]
theorem expd_le {rs : List (Int × Int)} (j : Nat) : (expd (rs.take j)).length ≤ (expd rs).length := by
  have : expd rs = expd (rs.take j) ++ expd (rs.drop j) := by rw [← expd_app, List.take_append_drop]
  rw [this, List.length_append]; omega
theorem expd_split (l : List Int) : ∀ i, i ≤ l.length → expd (splitI l i) = l.take i
  | 0, _ => by simp [splitI, expd]
  | i + 1, hi => by
    have ih := expd_split l i (by omega)
    have hF := few l i (by omega)
    rw [take_nth (show i < l.length by omega), ← ih]
    have e0 : splitI l (i + 1) = if brk l i = true then splitI l i ++ [(nth l i, 1)] else bump (splitI l i) := rfl
    rw [e0]
    split
    · rw [expd_app, expd_one]; rfl
    · rename_i hb
      have hi0 : 0 < i := by
        rcases Nat.eq_zero_or_pos i with z | z
        · exfalso; apply hb; simp [brk, z]
        · exact z
      have hpos := splitI_pos l i hi0
      have heq : nth l i = nth l (i - 1) := by simp [brk] at hb; exact hb.2
      have hlast := hF.last hi0
      obtain ⟨S, hS⟩ : ∃ S, S = splitI l i := ⟨_, rfl⟩
      have hcnt := hF.cnt
      rw [← hS] at hpos hlast hcnt ⊢
      obtain ⟨k, hk⟩ : ∃ k, S.length = k + 1 := ⟨S.length - 1, by omega⟩
      have hc := hcnt k (by omega)
      have e1 : S = S.take k ++ [nth S k] := by rw [← take_nth (by omega), ← hk, List.take_length]
      have e2 : bump S = S.take k ++ [((nth S k).1, (nth S k).2 + 1)] := by
        unfold bump
        rw [hk, Nat.add_sub_cancel, List.set_eq_take_append_cons_drop, if_pos (by omega), List.drop_eq_nil_of_le (by omega)]
      rw [hk, Nat.add_sub_cancel] at hlast
      have e3 : ((nth S k).2 + 1).toNat = (nth S k).2.toNat + 1 := by omega
      rw [e2, expd_app, expd_one]
      conv => rhs; rw [e1]
      rw [expd_app, expd_one, List.append_assoc, e3, List.replicate_succ', heq, ← hlast]
theorem runs_split {l : List Int} (hr : ∀ c ∈ l, -9223372036854775808 ≤ c ∧ c < 9223372036854775808) : Runs (splitI l l.length) := by
  have hF := few l l.length (Nat.le_refl _)
  refine ⟨fun r h => (splitI_cnt l l.length r h).1, hF.apart, splitI_val hr l.length (Nat.le_refl _)⟩
theorem jn_runs {rs : List (Int × Int)} (h : Runs rs) (hl : (expd rs).length ≤ 4096) : ∀ i, i ≤ rs.length → JnOk rs i (expd (rs.take i))
  | 0, _ => by simpa [expd] using jnOk_zero
  | i + 1, hi => by
    have ih := jn_runs h hl i (by omega)
    have hp := h.pos _ (nth_mem (l := rs) (i := i) (by omega))
    have he := expd_succ (rs := rs) (j := i) (by omega)
    have hle := expd_le (rs := rs) (i + 1)
    have hlen := congrArg List.length he
    rw [List.length_append, List.length_replicate] at hlen
    rw [he]
    refine ih.next (by omega) (fun q => h.alt i q.1 (by omega) q.2) (by omega)
theorem unfold_fold (v : Int) : M.unfoldI (M.foldI v) = v := by
  unfold M.unfoldI M.foldI; split <;> split <;> omega
theorem fold_unfold {u : Int} (h : 0 ≤ u) : M.foldI (M.unfoldI u) = u := by
  unfold M.unfoldI M.foldI; split <;> split <;> omega
theorem flat_split {rs : List (Int × Int)} {j : Nat} (h : j < rs.length) : rs.flatMap runB = (rs.take j).flatMap runB ++ runB (nth rs j) ++ (rs.drop (j + 1)).flatMap runB := by
  conv => lhs; rw [← List.take_append_drop (j + 1) rs]
  rw [List.flatMap_append, take_nth h, List.flatMap_append]
  simp
theorem dec_runs {rs : List (Int × Int)} {c : List Int} (h : Runs rs) (hl : (expd rs).length ≤ 4096) (hn : rs.length ≤ 4096) :
    ∀ i, i ≤ rs.length → DnOk (encL rs ++ c) (M.putL rs.length).length i (expd (rs.take i)) ((M.putL rs.length ++ (rs.take i).flatMap runB).length : Nat)
  | 0, _ => by
    refine ⟨by simp [dn, expd], by simp [expd], by simp [expd], by omega, by simp [encL]; omega⟩
  | i + 1, hi => by
    have ih := dec_runs (c := c) h hl hn i (by omega)
    have hj := jn_runs h hl i (by omega)
    have hp := h.pos _ (nth_mem (l := rs) (i := i) (by omega))
    have hv := h.rng _ (nth_mem (l := rs) (i := i) (by omega))
    have he := expd_succ (rs := rs) (j := i) (by omega)
    have hle := expd_le (rs := rs) (i + 1)
    have hlen := congrArg List.length he
    rw [List.length_append, List.length_replicate] at hlen
    have hfs := flat_split (rs := rs) (j := i) (by omega)
    have htk : (rs.take (i + 1)).flatMap runB = (rs.take i).flatMap runB ++ runB (nth rs i) := by rw [take_nth (by omega), List.flatMap_append]; simp
    have htest := hj.test
    obtain ⟨A, hA⟩ : ∃ A, A = M.putL rs.length ++ (rs.take i).flatMap runB := ⟨_, rfl⟩
    obtain ⟨X, hX⟩ : ∃ X, X = M.putL (M.foldI (nth rs i).1).toNat := ⟨_, rfl⟩
    obtain ⟨Y, hY⟩ : ∃ Y, Y = M.putL (nth rs i).2.toNat := ⟨_, rfl⟩
    have hrb : runB (nth rs i) = X ++ Y := by rw [hX, hY]; rfl
    have hb1 : encL rs ++ c = A ++ X ++ (Y ++ ((rs.drop (i + 1)).flatMap runB ++ c)) := by
      rw [encL, hfs, hrb, hA]; simp
    have hb2 : encL rs ++ c = (A ++ X) ++ Y ++ ((rs.drop (i + 1)).flatMap runB ++ c) := by
      rw [hb1]; simp
    have hfr := foldI_range hv.1 hv.2
    have g1 := M.getR_put A (Y ++ ((rs.drop (i + 1)).flatMap runB ++ c)) (u := (M.foldI (nth rs i).1).toNat) (by omega)
    have g2 := M.getR_put (A ++ X) ((rs.drop (i + 1)).flatMap runB ++ c) (u := (nth rs i).2.toNat) (by omega)
    rw [← hX, ← hb1] at g1
    rw [← hY, ← hb2] at g2
    rw [← hA] at ih
    have hAX : ((A.length : Int) + X.length) = ((A ++ X).length : Nat) := by simp
    rw [hAX] at g1
    have hu : (((M.foldI (nth rs i).1).toNat : Nat) : Int) = M.foldI (nth rs i).1 := by omega
    rw [hu] at g1
    have hk : (((nth rs i).2.toNat : Nat) : Int) = (nth rs i).2 := by omega
    rw [hk] at g2
    have hbl := congrArg List.length hb2
    simp only [List.length_append] at hbl
    have hx2 : (((A ++ X).length : Nat) : Int) + Y.length = ((A ++ X ++ Y).length : Nat) := by simp; omega
    rw [hx2] at g2
    have hnx := ih.next (by omega) (by simp only [List.length_append]; omega) (by omega) g1 g2 (by omega) (fun q => by
      rw [unfold_fold] at q
      have := htest.1 q
      exact h.alt i this.1 (by omega) this.2) (by omega)
    rw [unfold_fold, ← he] at hnx
    rw [htk, hrb]
    have : M.putL rs.length ++ (List.flatMap runB (rs.take i) ++ (X ++ Y)) = A ++ X ++ Y := by rw [hA]; simp
    rw [this]
    exact hnx
theorem decZ_enc {rs : List (Int × Int)} {c : List Int} (h : Runs rs) (hl : (expd rs).length ≤ 4096) (hn : rs.length ≤ 4096) : decZ (encL rs ++ c) = if c = [] then (0, expd rs) else (3, []) := by
  have g0 := M.getR_put [] (rs.flatMap runB ++ c) (u := rs.length) (by omega)
  have hb : [] ++ M.putL rs.length ++ (rs.flatMap runB ++ c) = encL rs ++ c := by simp [encL]
  rw [hb] at g0
  have e0 : (([] : List Int).length : Int) = 0 := rfl
  rw [e0, Int.zero_add] at g0
  have hD := (dec_runs (c := c) h hl hn rs.length (Nat.le_refl _)).eq
  rw [List.take_length] at hD
  unfold decZ
  rw [g0]
  simp only
  rw [if_neg (by simp), if_neg (by omega), Int.toNat_natCast, hD]
  simp only
  rw [if_neg (by simp)]
  have he : (M.putL rs.length ++ rs.flatMap runB) = encL rs := rfl
  rw [he]
  by_cases hc : c = []
  · subst hc; rw [if_pos rfl, if_neg (by simp)]
  · have := List.length_pos_iff.2 hc
    rw [if_neg hc, if_pos (by simp; omega)]

end Go.Proofs.Ytodpdfnnnkcnnaa.B
