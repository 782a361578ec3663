import Derived.Test.YtodpdfnnnkcnnaaRk0
set_option linter.unusedSimpArgs false
set_option linter.unusedVariables false
set_option linter.unusedSectionVars false
set_option maxRecDepth 20000
set_option maxHeartbeats 1000000
namespace Go.Proofs.Ytodpdfnnnkcnnaa.B
open Go Go.Ab
/-! getting a number -/
theorem b8_bytes {l : List Int} (h : b8 l = true) : M.Bytes l := b8_iff.1 h
def resG (b : List Int) (a i : Nat) (u : Int) : Int × Int × Int := match M.getL (b.drop (a + i)) i with | .ok (v, n) => (u + v * 2 ^ (7 * i), (a : Int) + i + n, 0) | .error e => (0, 0, e)
theorem resG_zero {b : List Int} {a : Nat} (h : a ≤ b.length) : resG b a 0 0 = M.getR b a := by
  unfold resG M.getR
  rw [if_neg (by omega), Nat.add_zero, Int.toNat_natCast]
  cases M.getL (b.drop a) 0 with
  | error e => rfl
  | ok p => simp
theorem resG_end {b : List Int} {a i : Nat} {u : Int} (h : b.length ≤ a + i) : resG b a i u = (0, 0, 2) := by
  unfold resG; rw [List.drop_eq_nil_of_le h]; rfl
theorem drop_nth {b : List Int} {j : Nat} (h : j < b.length) : b.drop j = nth b j :: b.drop (j + 1) := by rw [nth_lt h]; exact List.drop_eq_getElem_cons h
theorem resG_wide {b : List Int} {a i : Nat} {u : Int} (h : a + i < b.length) (h9 : i = 9 ∧ nth b (a + i) > 1) : resG b a i u = (0, 0, 20) := by
  unfold resG; rw [drop_nth h, M.getL, if_pos h9]
theorem resG_more {b : List Int} {a i : Nat} {u : Int} (h : a + i < b.length) (h9 : ¬ (i = 9 ∧ nth b (a + i) > 1)) (hc : nth b (a + i) ≥ 128) (hc2 : nth b (a + i) < 256) : resG b a i u = resG b a (i + 1) (u + nth b (a + i) % 128 * 2 ^ (7 * i)) := by
  unfold resG
  rw [drop_nth h, M.getL, if_neg h9, if_pos hc, show a + (i + 1) = a + i + 1 by omega]
  cases M.getL (b.drop (a + i + 1)) (i + 1) with
  | error e => rfl
  | ok p =>
    obtain ⟨v, n⟩ := p
    have e : (2 : Int) ^ (7 * (i + 1)) = 128 * 2 ^ (7 * i) := by rw [Nat.mul_add, Int.pow_add, Int.mul_comm]; rfl
    have e2 : nth b (a + i) % 128 = nth b (a + i) - 128 := by omega
    simp only [Prod.mk.injEq, and_true]
    constructor
    · rw [e, e2, Int.add_mul, Int.add_assoc]
      congr 2
      rw [← Int.mul_assoc, Int.mul_comm v 128]
    · omega
theorem resG_form {b : List Int} {a i : Nat} {u : Int} (h : a + i < b.length) (hc : nth b (a + i) = 0) (hi : 0 < i) : resG b a i u = (0, 0, 5) := by
  unfold resG; rw [drop_nth h, M.getL, if_neg (by omega), if_neg (by omega), if_pos ⟨hc, hi⟩]
theorem resG_done {b : List Int} {a i : Nat} {u : Int} (h : a + i < b.length) (h9 : ¬ (i = 9 ∧ nth b (a + i) > 1)) (hc : ¬ nth b (a + i) ≥ 128) (h0 : 0 ≤ nth b (a + i)) (hz : ¬ (nth b (a + i) = 0 ∧ 0 < i)) : resG b a i u = (u + nth b (a + i) % 128 * 2 ^ (7 * i), (a : Int) + i + 1, 0) := by
  unfold resG; rw [drop_nth h, M.getL, if_neg h9, if_neg hc, if_neg hz]
  have : nth b (a + i) % 128 = nth b (a + i) := by omega
  rw [this]; rfl
theorem fitG {i : Nat} {u c : Int} (hi : i ≤ 9) (h9 : ¬ (i = 9 ∧ c > 1)) (hc0 : 0 ≤ c) (hc : c < 256) (hu0 : 0 ≤ u) (hu1 : u < 2 ^ (7 * i)) : 0 ≤ c % 128 * 2 ^ (7 * i) ∧ c % 128 * 2 ^ (7 * i) < 2 ^ 64 ∧ u + c % 128 * 2 ^ (7 * i) < 2 ^ 64 ∧ (c ≥ 128 ∨ True → u + c % 128 * 2 ^ (7 * i) < 2 ^ (7 * (i + 1))) := by
  have hm : c % 128 < 2 ^ (64 - 7 * i) := by
    by_cases hi9 : i = 9
    · subst hi9; have : ¬ c > 1 := fun h => h9 ⟨rfl, h⟩; simp; omega
    · have : (2 : Int) ^ 8 ≤ 2 ^ (64 - 7 * i) := M.ipow_le (by decide) (by omega)
      omega
  have hpos : (0 : Int) < 2 ^ (7 * i) := Int.pow_pos (by decide)
  have e64 : (2 : Int) ^ 64 = 2 ^ (64 - 7 * i) * 2 ^ (7 * i) := by rw [← Int.pow_add]; congr 1; omega
  have hmul : c % 128 * 2 ^ (7 * i) ≤ (2 ^ (64 - 7 * i) - 1) * 2 ^ (7 * i) := Int.mul_le_mul_of_nonneg_right (by omega) (Int.le_of_lt hpos)
  have hfit : u + c % 128 * 2 ^ (7 * i) < 2 ^ 64 := by
    rw [e64]; rw [Int.sub_mul] at hmul; omega
  have hge : 0 ≤ c % 128 * 2 ^ (7 * i) := Int.mul_nonneg (by omega) (Int.le_of_lt hpos)
  refine ⟨hge, by omega, hfit, fun _ => ?_⟩
  have e : (2 : Int) ^ (7 * (i + 1)) = 128 * 2 ^ (7 * i) := by rw [Nat.mul_add, Int.pow_add, Int.mul_comm]; rfl
  have : c % 128 * 2 ^ (7 * i) ≤ 127 * 2 ^ (7 * i) := Int.mul_le_mul_of_nonneg_right (by omega) (Int.le_of_lt hpos)
  omega
def getVR (l : List Int) (a : Int) : Option Res := some (.tup [.int .u64 (M.getR l a).1, .int .i64 (M.getR l a).2.1, .int .i64 (M.getR l a).2.2], none)
noncomputable def k_VGet : Ab.Spec := con2 (ofInts .u8) (ofInt .i64) fun l a _ => bnd l.length 140737488355328 (if b8 l = true then getVR l a else none)
noncomputable def T_VGet : CallF := withF T_Apart8 34 k_VGet
theorem T_VGet_ok : CallOk Try.prog T_VGet := con_of (A := annOf [] [] [] false []) fit T_Apart8_ok (fn := Try.f34) (by kernel_rfl) (by kernel_rfl) (by
  intro args objs r h0
  obtain ⟨v, _, l, a, rfl, ha, hb, hR⟩ := con2_inv h0
  obtain rfl := ofInt_inv hb
  obtain ⟨hl, hR⟩ := bnd_inv hR
  split at hR
  case isFalse => cases hR
  rename_i hb8
  cases hR
  obtain ⟨vd, vn, vi, -⟩ := bs ha
  have hby := b8_bytes hb8
  refine .go _ rfl rfl ?_
  by_cases hn : a < 0
  · have e : M.getR l a = (0, 0, 1) := by unfold M.getR; rw [if_pos (.inl hn)]
    simp (disch := omega) [vn, hn, e]
  by_cases hb2 : (l.length : Int) < a
  · have e : M.getR l a = (0, 0, 1) := by unfold M.getR; rw [if_pos (.inr hb2)]
    simp (disch := omega) [vn, hn, hb2, e]
  obtain ⟨A, rfl⟩ := Int.eq_ofNat_of_zero_le (show 0 ≤ a by omega)
  have hz := resG_zero (b := l) (a := A) (by omega)
  obtain ⟨R, hR⟩ : ∃ R, R = M.getR l A := ⟨_, rfl⟩
  rw [← hR] at hz ⊢
  have hnn : ¬ (A : Int) < 0 := hn
  simp (disch := omega) [vn, hb2]
  refine .up 10 (fun i s => s.env 0 = v ∧ s.env 1 = .int .i64 A ∧ s.env 8 = .int .i64 i ∧ i ≤ 9 ∧ s.toks = [] ∧ s.objs = objs ∧ s.low = objs.length ∧ ∃ u, s.env 7 = .int .u64 u ∧ 0 ≤ u ∧ u < 2 ^ (7 * i) ∧ resG l A i u = R) (by simpa using hz) ?_
  rintro i s hi ⟨g0, g1, g8, hi9, ht, ho, hlo, u, g7, hu0, hu1, hres⟩
  have wd : IntKind.i64.wrap ((l.length : Int) - A) = (l.length : Int) - A := wrap_small (by omega) (by omega)
  rcases Nat.lt_or_ge (A + i) l.length with h | h
  case inr =>
    rw [resG_end h] at hres
    subst hres
    simp -implicitDefEqProofs (disch := omega) [g0, g1, g8, g7, ht, ho, hlo, vn, wd]
  have w1 : IntKind.i64.wrap ((A : Int) + i) = (A : Int) + i := wrap_small (by omega) (by omega)
  have e1 := vi .i64 ((A : Int) + i) (by omega) (by omega)
  rw [toNat_add] at e1
  have hc := hby _ (nth_mem h)
  have hw := @resG_wide l A i u h
  have hm := @resG_more l A i u h
  have hf := @resG_form l A i u h
  have hd := @resG_done l A i u h
  have en := of_get (ints_nth (k := .u8) h)
  have en0 := ints_nth (k := .u8) h
  obtain ⟨c, hcc⟩ : ∃ c, c = nth l (A + i) := ⟨_, rfl⟩
  rw [← hcc] at hc hw hm hf hd en en0
  have w7 : IntKind.i64.wrap (7 * (i : Int)) = 7 * (i : Int) := wrap_small (by omega) (by omega)
  have w7u : IntKind.u64.wrap (7 * (i : Int)) = 7 * (i : Int) := wrap_u64 (by omega) (by omega)
  have hand : Go.bits .and .u8 c 127 = c % 128 := M.and127 hc.1 hc.2
  have wc : IntKind.u64.wrap (c % 128) = c % 128 := wrap_u64 (by omega) (by omega)
  have wi : IntKind.i64.wrap ((i : Int) + 1) = (i : Int) + 1 := wrap_small (by omega) (by omega)
  by_cases h9 : i = 9 ∧ c > 1
  · have e := hw h9
    rw [hres] at e
    subst e
    obtain ⟨h9i, h91⟩ := h9
    simp -implicitDefEqProofs (disch := omega) [g0, g1, g8, g7, ht, ho, hlo, vn, wd, w1, e1, en, en0, h91]
  obtain ⟨f0, f1, f2, f3⟩ := fitG hi9 h9 hc.1 hc.2 hu0 hu1
  have hmin : min (7 * (i : Int)).toNat 64 = 7 * i := by omega
  have h7n : ¬ 7 * (i : Int) < 0 := by omega
  have wsh : IntKind.u64.wrap (c % 128 * 2 ^ (7 * i)) = c % 128 * 2 ^ (7 * i) := wrap_u64 f0 (by omega)
  have hor : Go.bits .or .u64 u (c % 128 * 2 ^ (7 * i)) = u + c % 128 * 2 ^ (7 * i) := M.or_low hu0 hu1 (by omega) f2
  by_cases h128 : c ≥ 128
  · have e := hm h9 h128 hc.2
    rw [hres] at e
    have hi99 : i ≠ 9 := fun q => h9 ⟨q, by omega⟩
    simp -implicitDefEqProofs (disch := omega) [g0, g1, g8, g7, ht, ho, hlo, vn, wd, w1, e1, en, en0, hand, wc, w7, w7u, hmin, wsh, hor, wi, convV, h7n]
    exact ⟨by omega, by omega, by omega, f3 (.inr trivial), e.symm⟩
  by_cases hz0 : c = 0 ∧ 0 < i
  · have e := hf hz0.1 hz0.2
    rw [hres] at e
    subst e
    obtain ⟨hz1, hz2⟩ := hz0
    have hi99 : i ≠ 9 ∨ ¬ c > 1 := by omega
    by_cases hi9 : i = 9
    · have hc1 : ¬ c > 1 := fun q => h9 ⟨hi9, q⟩
      simp -implicitDefEqProofs (disch := omega) [g0, g1, g8, g7, ht, ho, hlo, vn, wd, w1, e1, en, en0, hand, wc, w7, w7u, hmin, wsh, hor, wi, convV, h7n]
    · simp -implicitDefEqProofs (disch := omega) [g0, g1, g8, g7, ht, ho, hlo, vn, wd, w1, e1, en, en0, hand, wc, w7, w7u, hmin, wsh, hor, wi, convV, h7n]
  · have e := hd h9 h128 hc.1 hz0
    rw [hres] at e
    subst e
    have wa : IntKind.i64.wrap ((A : Int) + i + 1) = (A : Int) + i + 1 := wrap_small (by omega) (by omega)
    by_cases hi9 : i = 9
    · have hc1 : ¬ c > 1 := fun q => h9 ⟨hi9, q⟩
      simp -implicitDefEqProofs (disch := omega) [g0, g1, g8, g7, ht, ho, hlo, vn, wd, w1, e1, en, en0, hand, wc, w7, w7u, hmin, wsh, hor, wi, convV, h7n, wa]
    · by_cases hc0 : c = 0
      · simp -implicitDefEqProofs (disch := omega) [g0, g1, g8, g7, ht, ho, hlo, vn, wd, w1, e1, en, en0, hand, wc, w7, w7u, hmin, wsh, hor, wi, convV, h7n, wa]
      · simp -implicitDefEqProofs (disch := omega) [g0, g1, g8, g7, ht, ho, hlo, vn, wd, w1, e1, en, en0, hand, wc, w7, w7u, hmin, wsh, hor, wi, convV, h7n, wa])

end Go.Proofs.Ytodpdfnnnkcnnaa.B
