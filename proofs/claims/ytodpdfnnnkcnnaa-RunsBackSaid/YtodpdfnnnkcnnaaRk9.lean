import Derived.Test.YtodpdfnnnkcnnaaRk8
set_option linter.unusedSimpArgs false
set_option linter.unusedVariables false
set_option linter.unusedSectionVars false
set_option maxRecDepth 20000
set_option maxHeartbeats 1000000
namespace Go.Proofs.Ytodpdfnnnkcnnaa.B
open Go Go.Ab
theorem last_expd {S : List (Int × Int)} (hp : ∀ r ∈ S, 1 ≤ r.2) (h : 0 < S.length) : expd S ≠ [] ∧ nth (expd S) ((expd S).length - 1) = (nth S (S.length - 1)).1 := by
  obtain ⟨k, hk⟩ : ∃ k, S.length = k + 1 := ⟨S.length - 1, by omega⟩
  have e1 : S = S.take k ++ [nth S k] := by rw [← take_nth (by omega), ← hk, List.take_length]
  have hc := hp _ (nth_mem (l := S) (i := k) (by omega))
  have e2 : expd S = expd (S.take k) ++ List.replicate (nth S k).2.toNat (nth S k).1 := by
    conv => lhs; rw [e1]
    rw [expd_app, expd_one]
  rw [hk, Nat.add_sub_cancel, e2]
  refine ⟨fun q => ?_, last_rep (by omega)⟩
  have := congrArg List.length q
  simp at this
  omega
theorem bump_snoc (S : List (Int × Int)) (r : Int × Int) : bump (S ++ [r]) = S ++ [(r.1, r.2 + 1)] := by
  unfold bump
  have hl : (S ++ [r]).length - 1 = S.length := by simp
  rw [hl, nth_app_r (Nat.le_refl _), Nat.sub_self, nth_cons_zero, List.set_append_right _ _ (Nat.le_refl _), Nat.sub_self]
  rfl
theorem split_expd {rs : List (Int × Int)} (h : Runs rs) : ∀ i, i ≤ rs.length → splitI (expd rs) (expd (rs.take i)).length = rs.take i
  | 0, _ => by simp [expd, splitI]
  | i + 1, hi => by
    have ih := split_expd h i (by omega)
    have hc := h.pos _ (nth_mem (l := rs) (i := i) (by omega))
    have ha := h.alt i
    have he := expd_succ (rs := rs) (j := i) (by omega)
    have hL : expd rs = expd (rs.take i) ++ List.replicate (nth rs i).2.toNat (nth rs i).1 ++ expd (rs.drop (i + 1)) := by
      rw [← he, ← expd_app, List.take_append_drop]
    have hlast : 0 < i → nth (expd (rs.take i)) ((expd (rs.take i)).length - 1) = (nth rs (i - 1)).1 ∧ expd (rs.take i) ≠ [] := fun h0 => by
      have hl : (rs.take i).length = i := by rw [List.length_take]; omega
      have q := last_expd (S := rs.take i) (fun r hr => h.pos r (List.mem_of_mem_take hr)) (by omega)
      rw [hl, nth_take (by omega)] at q
      exact ⟨q.2, q.1⟩
    have ht := take_nth (l := rs) (i := i) (by omega)
    have hz : i = 0 → expd (rs.take i) = [] := fun q => by rw [q]; rfl
    obtain ⟨r, hr⟩ : ∃ r, r = nth rs i := ⟨_, rfl⟩
    rw [← hr] at hc ha he hL ht
    obtain ⟨A, hA⟩ : ∃ A, A = expd (rs.take i) := ⟨_, rfl⟩
    rw [← hA] at ih he hL hlast hz
    obtain ⟨L, hLL⟩ : ∃ L, L = expd rs := ⟨_, rfl⟩
    rw [← hLL] at ih hL ⊢
    have hn : ∀ j, j < r.2.toNat → nth L (A.length + j) = r.1 := fun j hj => by
      rw [hL, List.append_assoc, nth_app_r (by omega), Nat.add_sub_cancel_left, nth_app_l (by simpa using hj), nth_lt (by simpa using hj)]
      simp
    have hn1 : 0 < A.length → nth L (A.length - 1) = nth A (A.length - 1) := fun h0 => by
      rw [hL, List.append_assoc, nth_app_l (by omega)]
    have main : ∀ m, m + 1 ≤ r.2.toNat → splitI L (A.length + m + 1) = rs.take i ++ [(r.1, ((m + 1 : Nat) : Int))] := by
      intro m
      induction m with
      | zero =>
        intro hm
        have hb : brk L A.length = true := by
          unfold brk
          apply decide_eq_true
          rcases Nat.eq_zero_or_pos i with q | q
          · left; rw [hz q]; rfl
          · right
            have hAp := List.length_pos_iff.2 (hlast q).2
            have e0 := hn 0 (by omega)
            rw [Nat.add_zero] at e0
            rw [e0, hn1 hAp, (hlast q).1]
            exact ha q (by omega)
        have e0 := hn 0 (by omega)
        rw [Nat.add_zero] at e0
        show splitI L (A.length + 1) = _
        rw [splitI, if_pos hb, ih, e0]; rfl
      | succ m im =>
        intro hm
        have hb : ¬ brk L (A.length + (m + 1)) = true := by
          unfold brk
          intro q
          have q := of_decide_eq_true q
          rw [hn (m + 1) (by omega)] at q
          have e2 := hn m (by omega)
          rw [show A.length + (m + 1) - 1 = A.length + m by omega, e2] at q
          rcases q with q | q
          · omega
          · exact q rfl
        have := im (by omega)
        show splitI L (A.length + (m + 1) + 1) = _
        rw [splitI, if_neg hb, show A.length + (m + 1) = A.length + m + 1 by omega, this, bump_snoc]
        simp
    have hfin := main (r.2.toNat - 1) (by omega)
    have hlen := congrArg List.length he
    rw [List.length_append, List.length_replicate] at hlen
    rw [hlen, show A.length + r.2.toNat = A.length + (r.2.toNat - 1) + 1 by omega, hfin, ht]
    have : (((r.2.toNat - 1 + 1 : Nat) : Int)) = r.2 := by omega
    rw [this]
theorem splitI_expd {rs : List (Int × Int)} (h : Runs rs) : splitI (expd rs) (expd rs).length = rs := by
  have := split_expd h rs.length (Nat.le_refl _)
  rwa [List.take_length] at this
theorem take_ext {b p : List Int} {a x : Int} (h0 : 0 ≤ a) (h : a ≤ x) (hp : p = (b.take x.toNat).drop a.toNat) : b.take x.toNat = b.take a.toNat ++ p := by
  have := List.take_append_drop a.toNat (b.take x.toNat)
  rw [List.take_take, Nat.min_eq_left (by omega)] at this
  rw [hp, this]
theorem unfoldI_range {u : Int} (h0 : 0 ≤ u) (h1 : u < 18446744073709551616) : -9223372036854775808 ≤ M.unfoldI u ∧ M.unfoldI u < 9223372036854775808 := by
  unfold M.unfoldI; split <;> omega
theorem dn_only {b : List Int} {a0 : Int} (hb : M.Bytes b) (h0 : 0 ≤ a0) (h1 : a0 ≤ b.length) : ∀ i, (dn b a0 i).1 = 0 → ∃ R l a, DnOk b a0 i l a ∧ R.length = i ∧ Runs R ∧ expd R = l ∧ a0 ≤ a ∧ b.take a.toNat = b.take a0.toNat ++ R.flatMap runB
  | 0, _ => ⟨[], [], a0, ⟨rfl, by simp, by simp, h0, h1⟩, rfl, ⟨fun r h => by simp at h, fun j _ h => by simp at h, fun r h => by simp at h⟩, rfl, Int.le_refl _, by simp⟩
  | i + 1, h => by
    by_cases hz : (dn b a0 i).1 = 0
    case neg => rw [dn, if_pos hz] at h; exact absurd h hz
    obtain ⟨R, l, a, hD, hR, hruns, hex, hle, hfl⟩ := dn_only hb h0 h1 i hz
    obtain ⟨u1, x1, z1, g1⟩ := trip (M.getR b a)
    by_cases hz1 : z1 ≠ 0
    · rw [hD.bad1 g1 hz1] at h; exact absurd h hz1
    replace hz1 := Decidable.byContradiction hz1
    subst hz1
    obtain ⟨q1, q2, q3, q4, q5, q6, q7⟩ := M.getR_ok hb g1
    obtain ⟨u2, x2, z2, g2⟩ := trip (M.getR b x1)
    by_cases hz2 : z2 ≠ 0
    · rw [hD.bad2 g1 g2 hz2] at h; exact absurd h hz2
    replace hz2 := Decidable.byContradiction hz2
    subst hz2
    obtain ⟨s1, s2, s3, s4, s5, s6, s7⟩ := M.getR_ok hb g2
    by_cases hu : u2 = 0
    · rw [hD.nil g1 g2 hu] at h; exact absurd h (by decide)
    by_cases hf : l ≠ [] ∧ nth l (l.length - 1) = M.unfoldI u1
    · rw [hD.form g1 g2 hu hf] at h; exact absurd h (by decide)
    by_cases hg : 4096 - (l.length : Int) < u2
    · rw [hD.long g1 g2 hu hf hg] at h; exact absurd h (by decide)
    have hnx := hD.next (by omega) s3 s5 g1 g2 hu hf hg
    have hur := unfoldI_range q5 q6
    have hl2 : (R ++ [(M.unfoldI u1, u2)]).length = i + 1 := by simp [hR]
    refine ⟨R ++ [(M.unfoldI u1, u2)], _, _, hnx, hl2, ⟨fun r hr => ?_, fun j hj0 hj => ?_, fun r hr => ?_⟩, ?_, by omega, ?_⟩
    · rcases List.mem_append.1 hr with q | q
      · exact hruns.pos r q
      · simp at q; rw [q]; simp only; omega
    · rw [hl2] at hj
      rcases Nat.lt_or_ge j R.length with q | q
      · rw [nth_app_l q, nth_app_l (by omega)]; exact hruns.alt j hj0 q
      · have hjR : j = R.length := by omega
        subst hjR
        rw [nth_app_r (Nat.le_refl _), Nat.sub_self, nth_cons_zero, nth_app_l (by omega)]
        have hL := last_expd hruns.pos hj0
        rw [hex] at hL
        intro q
        exact hf ⟨hL.1, by rw [hL.2]; exact q.symm⟩
    · rcases List.mem_append.1 hr with q | q
      · exact hruns.rng r q
      · simp at q; rw [q]; exact hur
    · rw [expd_app, expd_one, hex]
    · rw [take_ext (by omega) (by omega) s7, take_ext (by omega) (by omega) q7, hfl, List.flatMap_append]
      simp [runB, fold_unfold q5]
theorem decZ_only {b : List Int} (hb : M.Bytes b) (h : (decZ b).1 = 0) : ∃ R, Runs R ∧ expd R = (decZ b).2 ∧ R.length ≤ 4096 ∧ encL R = b := by
  obtain ⟨n, a0, z0, g0⟩ := trip (M.getR b 0)
  unfold decZ at h ⊢
  rw [g0] at h ⊢
  simp only at h ⊢
  by_cases hz0 : z0 ≠ 0
  · rw [if_pos hz0] at h; exact absurd h hz0
  rw [if_neg hz0] at h ⊢
  replace hz0 := Decidable.byContradiction hz0
  subst hz0
  obtain ⟨q1, q2, q3, q4, q5, q6, q7⟩ := M.getR_ok hb g0
  by_cases hn : 4096 < n
  · rw [if_pos hn] at h; exact absurd h (by decide)
  rw [if_neg hn] at h ⊢
  by_cases hd : (dn b a0 n.toNat).1 ≠ 0
  · rw [if_pos hd] at h; exact absurd h hd
  rw [if_neg hd] at h ⊢
  obtain ⟨R, l, a, hD, hR, hruns, hex, hle, hfl⟩ := dn_only hb (by omega) q3 n.toNat (Decidable.byContradiction hd)
  rw [hD.eq] at h ⊢
  simp only at h ⊢
  by_cases ha : a < b.length
  · rw [if_pos ha] at h; exact absurd h (by decide)
  rw [if_neg ha]
  refine ⟨R, hruns, hex, by omega, ?_⟩
  have e0 := take_ext (b := b) (by omega) (show (0 : Int) ≤ a0 by omega) q7
  have hlo := hD.hi
  have : b.take a.toNat = b := List.take_of_length_le (by omega)
  rw [this, e0] at hfl
  rw [encL, hR, hfl]
  simp

end Go.Proofs.Ytodpdfnnnkcnnaa.B
