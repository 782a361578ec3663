import Derived.Test.YtjjldepikokogaaPxg
set_option linter.unusedSimpArgs false
set_option linter.unusedVariables false
set_option linter.unusedSectionVars false
set_option maxRecDepth 20000
set_option maxHeartbeats 1000000
namespace Go.Proofs.Ytjjldepikokogaa.B
open Go Go.Ab
/-! what is encoded is decoded; what is decoded was encoded -/
theorem nth_app_last {l : List (List Int)} {s : List Int} : nth (l ++ [s]) l.length = s := by rw [nth_app_r (Nat.le_refl _), Nat.sub_self]; rfl
theorem b8_of {l : List Int} (h : M.Bytes l) : b8 l = true := b8_iff.2 h
theorem shared_take {last s : List Int} : s = last.take (sharedN last s) ++ s.drop (sharedN last s) := by
  induction last generalizing s with
  | nil => cases s <;> simp [sharedN]
  | cons a p ih =>
    cases s with
    | nil => simp [sharedN]
    | cons b q =>
      unfold sharedN
      by_cases h : a = b
      · subst h; rw [if_pos rfl]; simp only [List.take_succ_cons, List.drop_succ_cons, List.cons_append]; rw [← ih]
      · rw [if_neg h]; simp
/-- The text ahead of the i-th, and whether none is shared. -/
def lastT (ss : List (List Int)) (i : Nat) : List Int := if i = 0 then [] else nth ss (i - 1)
theorem sameAt_eq (ss : List (List Int)) (i : Nat) : sameAt ss i = if i % 16 = 0 then 0 else sharedN (lastT ss i) (nth ss i) := by
  unfold sameAt lastT
  by_cases h : i % 16 = 0
  · rw [if_pos h, if_pos h]
  · rw [if_neg h, if_neg h, if_neg (by intro q; subst q; exact h rfl)]
theorem sameAt_split (ss : List (List Int)) (i : Nat) : sameAt ss i ≤ (lastT ss i).length ∧ nth ss i = (lastT ss i).take (sameAt ss i) ++ (nth ss i).drop (sameAt ss i) := by
  rw [sameAt_eq]
  by_cases h : i % 16 = 0
  · rw [if_pos h]; simp
  · rw [if_neg h]; exact ⟨(sharedN_le _ _).1, shared_take⟩
theorem textZ_put {ss : List (List Int)} {i : Nat} (A C : List Int) (h : (nth ss i).length ≤ 200) : textZ (A ++ (entB ss i ++ C)) (lastT ss i) (A.length : Int) (decide (i % 16 = 0)) = ⟨nth ss i, ((A ++ entB ss i).length : Int), 0⟩ := by
  obtain ⟨s1, s2⟩ := sameAt_split ss i
  have s3 := sameAt_le ss i
  obtain ⟨k, hk⟩ : ∃ k, k = sameAt ss i := ⟨_, rfl⟩
  obtain ⟨n, hn⟩ : ∃ n, n = (nth ss i).length - k := ⟨_, rfl⟩
  obtain ⟨X, hX⟩ : ∃ X, X = (nth ss i).drop k := ⟨_, rfl⟩
  have hXl : X.length = n := by rw [hX, hn, List.length_drop]
  have he : entB ss i = M.putL k ++ (M.putL n ++ X) := by unfold entB; rw [← hk, ← hn, ← hX]
  rw [← hk] at s1 s2 s3
  rw [← hX] at s2
  obtain ⟨L, hL⟩ : ∃ L, L = lastT ss i := ⟨_, rfl⟩
  rw [← hL] at s1 s2 ⊢
  rw [he]
  have g1 : M.getR (A ++ (M.putL k ++ (M.putL n ++ X) ++ C)) (A.length : Int) = ((k : Int), (A.length : Int) + (M.putL k).length, 0) := by
    have := M.getR_put A (M.putL n ++ X ++ C) (u := k) (by omega)
    rwa [show A ++ M.putL k ++ (M.putL n ++ X ++ C) = A ++ (M.putL k ++ (M.putL n ++ X) ++ C) by simp] at this
  have g2 : M.getR (A ++ (M.putL k ++ (M.putL n ++ X) ++ C)) ((A.length : Int) + (M.putL k).length) = ((n : Int), ((A ++ M.putL k ++ M.putL n).length : Int), 0) := by
    have := M.getR_put (A ++ M.putL k) (X ++ C) (u := n) (by omega)
    rw [show A ++ M.putL k ++ M.putL n ++ (X ++ C) = A ++ (M.putL k ++ (M.putL n ++ X) ++ C) by simp, show ((A ++ M.putL k).length : Int) = (A.length : Int) + (M.putL k).length by simp] at this
    rw [this]; simp; omega
  rw [textZ_ok g1 g2]
  simp only [Int.toNat_natCast]
  have hd : (A ++ (M.putL k ++ (M.putL n ++ X) ++ C)).drop (A ++ M.putL k ++ M.putL n).length = X ++ C := by
    rw [show A ++ (M.putL k ++ (M.putL n ++ X) ++ C) = (A ++ M.putL k ++ M.putL n) ++ (X ++ C) by simp]; simp
  have hS : textS (A ++ (M.putL k ++ (M.putL n ++ X) ++ C)) L k n (A ++ M.putL k ++ M.putL n).length = nth ss i := by
    unfold textS
    have hx : (X ++ C).take n = X := by rw [← hXl]; simp
    rw [hd, hx, ← s2]
  unfold textW
  rw [if_neg (by
    rintro (q | ⟨q1, q2⟩)
    · omega
    · have hm : i % 16 = 0 := by simpa using q1
      have : k = 0 := by rw [hk, sameAt_eq, if_pos hm]
      omega), if_neg (by omega), if_neg (by simp; omega), if_neg (by
    rintro ⟨q1, q2⟩
    rw [hS] at q2
    have hm : ¬ i % 16 = 0 := by simpa using q1
    exact q2 (by rw [hk, sameAt_eq, if_neg hm, hL])), hS]
  simp only [List.length_append, hXl]
  congr 1; omega
theorem decI_enc {ss : List (List Int)} (h : ∀ i, i < ss.length → (nth ss i).length ≤ 200) (C : List Int) : ∀ i, i ≤ ss.length → decI (encP ss ++ C) ((M.putL ss.length).length : Int) i = ⟨ss.take i, ((encT ss i).length : Int), lastT ss i, 0⟩
  | 0, _ => by simp [decI, encT, lastT]
  | i + 1, hi => by
    have ih := decI_enc h C i (by omega)
    have hsp : encP ss ++ C = encT ss i ++ (entB ss i ++ ((List.range' (i + 1) (ss.length - (i + 1))).flatMap (entB ss) ++ C)) := by
      unfold encP encT
      have : List.range ss.length = List.range i ++ (i :: List.range' (i + 1) (ss.length - (i + 1))) := by
        rw [List.range_eq_range', List.range_eq_range', show ss.length = i + (ss.length - i) by omega, ← List.range'_append_1, show i + (ss.length - i) - (i + 1) = ss.length - i - 1 by omega]
        congr 1
        rw [show ss.length - i = (ss.length - i - 1) + 1 by omega, List.range'_succ]; simp
      rw [this]; simp
    have ht := textZ_put (ss := ss) (i := i) (encT ss i) ((List.range' (i + 1) (ss.length - (i + 1))).flatMap (entB ss) ++ C) (h i (by omega))
    rw [← hsp] at ht
    have h0 : (decI (encP ss ++ C) ((M.putL ss.length).length : Int) i).err = 0 := by rw [ih]
    have hz : textZ (encP ss ++ C) (decI (encP ss ++ C) ((M.putL ss.length).length : Int) i).last (decI (encP ss ++ C) ((M.putL ss.length).length : Int) i).p (decide (i % 16 = 0)) = ⟨nth ss i, ((encT ss i ++ entB ss i).length : Int), 0⟩ := by rw [ih]; exact ht
    rw [decI_ok h0 (by rw [hz]), hz, ih, encT_succ]
    simp only [lastT, take_nth (l := ss) (i := i) (by omega)]
    simp
theorem dec_enc {ss : List (List Int)} (h1 : ss.length ≤ 4096) (h : ∀ i, i < ss.length → (nth ss i).length ≤ 200) : decErr (encP ss) = 0 ∧ decTs (encP ss) = ss ∧ decErr (encP ss ++ [0]) = 3 := by
  have key : ∀ C, M.getR (encP ss ++ C) 0 = ((ss.length : Int), ((M.putL ss.length).length : Int), 0) := fun C => by
    have := M.getR_put [] ((List.range ss.length).flatMap (entB ss) ++ C) (u := ss.length) (by omega)
    rw [show ([] : List Int) ++ M.putL ss.length ++ ((List.range ss.length).flatMap (entB ss) ++ C) = encP ss ++ C by simp [encP, encT]] at this
    simpa using this
  have d := fun C => decI_enc h C ss.length (Nat.le_refl _)
  have e : ∀ C, decErr (encP ss ++ C) = if ((encP ss).length : Int) < (encP ss ++ C).length then 3 else 0 := fun C => by
    rw [decErr_of (key C), if_neg (by omega), Int.toNat_natCast, d C, if_neg (by simp)]
    rfl
  have e0 := e []
  have k0 := key []
  have d0 := d []
  rw [List.append_nil] at e0 k0 d0
  rw [if_neg (by omega)] at e0
  refine ⟨e0, ?_, ?_⟩
  · rw [decTs_of k0 e0, Int.toNat_natCast, d0]; simp
  · rw [e, if_pos (by simp; omega)]
theorem encT_snoc_eq {ss : List (List Int)} {s : List Int} : ∀ i, i ≤ ss.length → ((List.range i).flatMap (entB (ss ++ [s]))) = (List.range i).flatMap (entB ss) := by
  intro i hi
  have : ∀ j ∈ List.range i, entB (ss ++ [s]) j = entB ss j := fun j hj => by
    have hj := List.mem_range.1 hj
    unfold entB sameAt
    rw [nth_app_l (by omega), nth_app_l (by omega)]
  rw [List.flatMap_def, List.flatMap_def, List.map_congr_left this]
theorem encP_snoc {ss : List (List Int)} {s : List Int} : (List.range (ss ++ [s]).length).flatMap (entB (ss ++ [s])) = (List.range ss.length).flatMap (entB ss) ++ entB (ss ++ [s]) ss.length := by
  rw [List.length_append, List.length_singleton, List.range_succ, List.flatMap_append, encT_snoc_eq _ (Nat.le_refl _)]
  simp
theorem textZ_bytes {b last : List Int} {p : Int} {whole : Bool} (hb : M.Bytes b) (h0 : (textZ b last p whole).err = 0) : ∃ k m : Nat, k ≤ last.length ∧ (whole = true → k = 0) ∧ (whole = false → sharedN last (textZ b last p whole).s = k) ∧ (textZ b last p whole).s = last.take k ++ (textZ b last p whole).s.drop k ∧ (textZ b last p whole).s.length = k + m ∧ 0 ≤ p ∧ p ≤ (textZ b last p whole).next ∧ (textZ b last p whole).next ≤ b.length ∧ b.take (textZ b last p whole).next.toNat = b.take p.toNat ++ (M.putL k ++ (M.putL m ++ (textZ b last p whole).s.drop k)) := by
  obtain ⟨k, n1, m, to, g1, g2, h3, h4⟩ := textZ_cases h0
  obtain ⟨c1, c2, c3, c4, c5, c6⟩ := textW_cases _ _ _ _ _ _ h4
  obtain ⟨a1, a2, a3, a4, a5, a6, a7⟩ := M.getR_ok hb g1
  obtain ⟨b1, b2, b3, b4, b5, b6, b7⟩ := M.getR_ok hb g2
  have hl := textS_len (b := b) (last := last) (k := k.toNat) (m := m.toNat) (to := to.toNat) c1 c4
  rw [h3, c6]
  have hd : (textS b last k.toNat m.toNat to.toNat).drop k.toNat = (b.drop to.toNat).take m.toNat := by
    unfold textS
    rw [List.drop_append, List.length_take, Nat.min_eq_left c1, Nat.sub_self, List.drop_zero, List.drop_of_length_le (by simp; omega), List.nil_append]
  have ht : (textS b last k.toNat m.toNat to.toNat) = last.take k.toNat ++ (textS b last k.toNat m.toNat to.toNat).drop k.toNat := by rw [hd]; rfl
  refine ⟨k.toNat, m.toNat, c1, c2, c5, ht, hl, a1, by simp only; omega, by simp only; omega, ?_⟩
  simp only [Int.toNat_natCast]
  rw [a7, b7, hd]
  have x1 : b.take (to.toNat + m.toNat) = b.take to.toNat ++ (b.drop to.toNat).take m.toNat := List.take_add
  have x2 : b.take to.toNat = b.take n1.toNat ++ (b.take to.toNat).drop n1.toNat := by
    have := (List.take_append_drop n1.toNat (b.take to.toNat)).symm
    rwa [List.take_take, Nat.min_eq_left (by omega)] at this
  have x3 : b.take n1.toNat = b.take p.toNat ++ (b.take n1.toNat).drop p.toNat := by
    have := (List.take_append_drop p.toNat (b.take n1.toNat)).symm
    rwa [List.take_take, Nat.min_eq_left (by omega)] at this
  rw [x1, ← List.append_assoc (b.take p.toNat), ← x3, ← List.append_assoc, ← x2]
theorem dec_facts {b : List Int} (hb : M.Bytes b) {p0 : Int} (h0 : 0 ≤ p0 ∧ p0 ≤ b.length) : ∀ i, (decI b p0 i).err = 0 → p0 ≤ (decI b p0 i).p ∧ (decI b p0 i).p ≤ b.length ∧ (decI b p0 i).last = lastT (decI b p0 i).ts i ∧ b.take (decI b p0 i).p.toNat = b.take p0.toNat ++ (List.range i).flatMap (entB (decI b p0 i).ts)
  | 0, _ => ⟨by simp [decI], h0.2, by simp [decI, lastT], by simp [decI]⟩
  | i + 1, h => by
    by_cases he : (decI b p0 i).err = 0
    case neg => rw [decI, if_pos he] at h; exact absurd h he
    obtain ⟨f1, f2, f3, f4⟩ := dec_facts hb h0 i he
    have fl := (decI_facts h0 i he).1
    by_cases ht : (textZ b (decI b p0 i).last (decI b p0 i).p (decide (i % 16 = 0))).err = 0
    case neg => rw [decI, if_neg (by simp [he]), if_pos ht] at h; exact absurd h ht
    obtain ⟨k, m, q1, q2, q3, q4, q5, q6, q7, q8, q9⟩ := textZ_bytes hb ht
    rw [decI_ok he ht]
    obtain ⟨D, hD⟩ : ∃ D, D = decI b p0 i := ⟨_, rfl⟩
    rw [← hD] at f1 f2 f3 f4 fl he ht q1 q3 q4 q5 q6 q7 q8 q9 ⊢
    obtain ⟨Z, hZ⟩ : ∃ Z, Z = textZ b D.last D.p (decide (i % 16 = 0)) := ⟨_, rfl⟩
    rw [← hZ] at ht q3 q4 q5 q7 q8 q9 ⊢
    refine ⟨by simp only; omega, q8, ?_, ?_⟩
    · simp only [lastT]
      rw [if_neg (by omega), Nat.add_sub_cancel, ← fl, nth_app_last]
    · have hk : sameAt (D.ts ++ [Z.s]) i = k := by
        rw [sameAt_eq]
        by_cases hm : i % 16 = 0
        · rw [if_pos hm, q2 (by simpa using hm)]
        · rw [if_neg hm]
          have hla : lastT (D.ts ++ [Z.s]) i = D.last := by
            rw [f3]; unfold lastT
            by_cases z : i = 0
            · rw [if_pos z, if_pos z]
            · rw [if_neg z, if_neg z, nth_app_l (by omega)]
          rw [hla, ← fl, nth_app_last]
          exact q3 (by simpa using hm)
      have hn : nth (D.ts ++ [Z.s]) i = Z.s := by rw [← fl, nth_app_last]
      have hent : entB (D.ts ++ [Z.s]) i = M.putL k ++ (M.putL m ++ Z.s.drop k) := by
        unfold entB
        rw [hk, hn, q5, Nat.add_sub_cancel_left]
      simp only
      rw [q9, f4, List.range_succ, List.flatMap_append, encT_snoc_eq i (by omega)]
      simp [hent]
theorem enc_dec {b : List Int} (hb : M.Bytes b) (h : decErr b = 0) : encBad (decTs b) = false ∧ encP (decTs b) = b := by
  obtain ⟨n, p0, e, hg⟩ : ∃ n p0 e, M.getR b 0 = (n, p0, e) := ⟨_, _, _, rfl⟩
  by_cases he : e = 0
  case neg => rw [decErr_e hg he] at h; exact absurd h he
  subst he
  have hd := decErr_of hg
  rw [h] at hd
  have ht := decTs_of hg h
  obtain ⟨g1, g2, g3, g4, g5, g6, g7⟩ := M.getR_ok hb hg
  split at hd
  · cases hd
  rename_i hbig
  split at hd
  · rename_i q; exact absurd hd.symm q
  rename_i he
  split at hd
  · cases hd
  rename_i hlt
  have he : (decI b p0 n.toNat).err = 0 := Decidable.byContradiction he
  obtain ⟨f1, f2, f3, f4⟩ := dec_facts hb ⟨by omega, g3⟩ n.toNat he
  obtain ⟨d1, d2, d3, d4, d5, d6⟩ := decI_facts ⟨by omega, g3⟩ n.toNat he
  rw [ht]
  refine ⟨?_, ?_⟩
  · unfold encBad
    simp only [Bool.or_eq_false_iff, decide_eq_false_iff_not, List.any_eq_false, decide_eq_true_eq]
    exact ⟨by omega, fun s hs => by have := d5 s hs; omega⟩
  · unfold encP encT
    rw [d1, g7, show Int.toNat 0 = 0 from rfl, List.drop_zero, ← f4]
    exact List.take_of_length_le (by omega)

end Go.Proofs.Ytjjldepikokogaa.B
