import Derived.Test.YtmoegiibdaomlaaFr3
set_option linter.unusedSimpArgs false
set_option linter.unusedVariables false
set_option linter.unusedSectionVars false
set_option maxRecDepth 20000
set_option maxHeartbeats 1000000
namespace Go.Proofs.Ytmoegiibdaomlaa.B
open Go Go.Ab
theorem ints_set {k : IntKind} {l : List Int} {i : Nat} {c : Int} (h : i < l.length) : setCells (ints k l) i [.int k c] = ints k (l.set i c) := by
  unfold setCells ints
  rw [← List.map_take, ← List.map_drop, List.set_eq_take_append_cons_drop, if_pos h]
  simp
/-- The bytes with one bit turned. -/
def flipZ (l : List Int) (k : Nat) : List Int := l.set (k / 8) (Go.bits .xor .u8 (nth l (k / 8)) (2 ^ (k % 8)))
theorem flipZ_len (l : List Int) (k : Nat) : (flipZ l k).length = l.length := by simp [flipZ]
def flipsZ (l : List Int) (k : Nat) (p : Int) : Nat → List Int
  | 0 => l
  | i + 1 => if p / 2 ^ i % 2 = 1 then flipZ (flipsZ l k p i) (k + i) else flipsZ l k p i
theorem flipsZ_len (l : List Int) (k : Nat) (p : Int) (i : Nat) : (flipsZ l k p i).length = l.length := by
  induction i with
  | zero => rfl
  | succ i ih => unfold flipsZ; split <;> simp [flipZ_len, ih]
theorem flipsZ_stop {l : List Int} {k : Nat} {p : Int} {i : Nat} (hp : 0 ≤ p) (h : p / 2 ^ i = 0) : ∀ j, flipsZ l k p (i + j) = flipsZ l k p i := by
  intro j
  induction j with
  | zero => rfl
  | succ j ih =>
    have : p / 2 ^ (i + j) = 0 := by
      rw [Int.pow_add, ← Int.ediv_ediv_of_nonneg (by exact Int.le_of_lt (Int.pow_pos (by omega))), h, Int.zero_ediv]
    show (if p / 2 ^ (i + j) % 2 = 1 then _ else flipsZ l k p (i + j)) = _
    rw [this, if_neg (by omega), ih]
def turnZ (l : List Int) (at_ p : Int) : List Int := if at_ < 0 ∨ 8 * (l.length : Int) ≤ at_ ∨ p / 2 ^ (8 * l.length - at_.toNat) ≠ 0 then l else flipsZ l at_.toNat p 32
theorem turnZ_len (l : List Int) (at_ p : Int) : (turnZ l at_ p).length = l.length := by
  unfold turnZ; split
  · rfl
  · exact flipsZ_len _ _ _ _
noncomputable def k_Turn : Ab.Spec := con3 (ofInts .u8) (ofInt .i64) (ofInt .u32) fun l k p _ => bnd l.length 140737488355000 (if 0 ≤ p ∧ p < 4294967296 then some (.lst (.fresh 1 true) (ints .u8 (turnZ l k p)) l.length, none) else none)
noncomputable def T_Turn : CallF := withF T_rSealed 27 k_Turn
theorem T_Turn_ok : CallOk Try.prog T_Turn := con_of (A := annOf [] [] [(13, [.ref]),(37, [.ref])] false []) fit T_rSealed_ok (fn := Try.f27) (by kernel_rfl) (by kernel_rfl) (by
  intro args objs r h0
  have c_Copy : ∀ a o, T_rSealed 24 a o = k_Copy a o := fun _ _ => rfl
  obtain ⟨v, _, _, l, k, p, rfl, ha, hb, hc, hR⟩ := con3_inv h0
  obtain rfl := ofInt_inv hb
  obtain rfl := ofInt_inv hc
  obtain ⟨hl, hR⟩ := bnd_inv hR
  split at hR
  case isFalse => cases hR
  rename_i hp
  obtain ⟨hp0, hp1⟩ := hp
  cases hR
  obtain ⟨vd, vn, vi, -⟩ := bs ha
  have w8 : IntKind.i64.wrap (8 * (l.length : Int)) = 8 * (l.length : Int) := wrap_small (by omega) (by omega)
  refine .go _ rfl rfl ?_
  by_cases hk0 : k < 0
  · have ht : turnZ l k p = l := by unfold turnZ; rw [if_pos (.inl hk0)]
    simp (disch := omega) [vd, vn, ha, c_Copy, k_Copy, ht, getObj_last]
  by_cases hk1 : 8 * (l.length : Int) ≤ k
  · have ht : turnZ l k p = l := by unfold turnZ; rw [if_pos (.inr (.inl hk1))]
    simp (disch := omega) [vd, vn, ha, c_Copy, k_Copy, ht, getObj_last, w8]
  obtain ⟨q, rfl⟩ := Int.eq_ofNat_of_zero_le (show 0 ≤ k by omega)
  have hturn : turnZ l (q : Int) p = if p / 2 ^ (8 * l.length - q) ≠ 0 then l else flipsZ l q p 32 := by
    unfold turnZ
    by_cases hh : p / 2 ^ (8 * l.length - q) ≠ 0
    · rw [if_pos (.inr (.inr (by simpa using hh))), if_pos hh]
    · rw [if_neg (by simp at hh ⊢; exact ⟨by omega, hh⟩), if_neg hh]; simp
  have wp : IntKind.u64.wrap p = p := wrap_u64 hp0 (by omega)
  have hpos : ∀ i : Nat, 0 ≤ p / 2 ^ i := fun i => Int.ediv_nonneg hp0 (Int.le_of_lt (Int.pow_pos (by omega)))
  have hle : ∀ i : Nat, p / 2 ^ i ≤ p := fun i => Int.ediv_le_self _ hp0
  simp (disch := omega) [vd, vn, ha, c_Copy, k_Copy, getObj_last, w8, convV, wp]
  refine .up 33 (fun i s => s.env 0 = v ∧ s.env 7 = .ref objs.length 0 0 l.length 1 ∧ s.env 8 = .int .u64 (p / 2 ^ i) ∧ s.env 9 = .int .i64 ((q + i : Nat) : Int) ∧ s.toks = [] ∧ s.objs = objs ++ [.cells (ints .u8 (flipsZ l q p i)) 0] ∧ s.low = objs.length ∧ (i = 0 ∨ q + i ≤ 8 * l.length)) (by simp [flipsZ]) ?_
  rintro i s hi ⟨h0, h7, h8, h9, ht, ho, hlo, hd⟩
  have hqi : q + i ≤ 8 * l.length := by omega
  have p0 := hpos i
  have p1 := hle i
  obtain ⟨z, hz⟩ : ∃ z, z = p / 2 ^ i := ⟨_, rfl⟩
  rw [← hz] at h8 p0 p1
  obtain ⟨m, hm⟩ : ∃ m, m = q + i := ⟨_, rfl⟩
  rw [← hm] at h9 hqi
  by_cases hzz : 0 < z
  · by_cases hend : 8 * l.length ≤ m
    · have hne : p / 2 ^ (8 * l.length - q) ≠ 0 := by
        rw [show 8 * l.length - q = i by omega, ← hz]; omega
      rw [if_pos hne] at hturn
      simp (disch := omega) [h0, h7, h8, h9, ht, ho, hlo, vd, vn, ha, c_Copy, k_Copy, hturn, w8]
      have hno : ¬ (objs.length + 1 < objs.length) := by omega
      simp [hno, getObj_two]
    · have hi32 : i < 32 := by
        rcases Nat.lt_or_ge i 32 with h | h
        · exact h
        · exfalso
          have : p / 2 ^ i = 0 := by
            apply Int.ediv_eq_zero_of_lt hp0
            have : (2 : Int) ^ 32 ≤ 2 ^ i := by
              have := Nat.pow_le_pow_right (n := 2) (by omega) h
              exact_mod_cast this
            omega
          omega
      have e2 : IntKind.u64.wrap (z.tdiv 2) = p / 2 ^ (i + 1) := by
        rw [Int.tdiv_eq_ediv_of_nonneg p0, wrap_u64 (by omega) (by omega), hz, Int.pow_succ, Int.ediv_ediv_of_nonneg (by exact Int.le_of_lt (Int.pow_pos (by omega)))]
      have w9 : IntKind.i64.wrap ((m : Int) + 1) = ((q + (i + 1) : Nat) : Int) := by rw [wrap_small (by omega) (by omega)]; omega
      have hm8 : m / 8 < l.length := by omega
      have ht8 : ((m : Int)).tdiv 8 = ((m / 8 : Nat) : Int) := by rw [Int.tdiv_eq_ediv_of_nonneg (by omega)]; omega
      have wt8 : IntKind.i64.wrap ((m / 8 : Nat) : Int) = ((m / 8 : Nat) : Int) := wrap_small (by omega) (by omega)
      have hr8 : ((m : Int)).tmod 8 = ((m % 8 : Nat) : Int) := by rw [Int.tmod_eq_emod_of_nonneg (by omega)]; omega
      have hz2 : z.tmod 2 = z % 2 := Int.tmod_eq_emod_of_nonneg p0
      have hlen := flipsZ_len l q p i
      by_cases hodd : z % 2 = 1
      · have e3 : flipsZ l q p (i + 1) = flipZ (flipsZ l q p i) m := by
          show (if p / 2 ^ i % 2 = 1 then _ else _) = _
          rw [← hz, if_pos hodd, hm]
        simp (disch := omega) [h0, h7, h8, h9, ht, ho, hlo, vn, w8, hz2, hodd]
        refine .up (m % 8) (fun j s' => s'.env 0 = v ∧ s'.env 7 = .ref objs.length 0 0 l.length 1 ∧ s'.env 8 = .int .u64 z ∧ s'.env 9 = .int .i64 (m : Int) ∧ s'.env 10 = .int .u8 (2 ^ j) ∧ s'.env 11 = .int .i64 j ∧ s'.toks = [] ∧ s'.objs = objs ++ [.cells (ints .u8 (flipsZ l q p i)) 0] ∧ s'.low = objs.length) (by simp [h0, h7, h8, h9]) ?_
        rintro j s' hj ⟨h0, h7, h8, h9, h10, h11, ht, ho, hlo⟩
        rcases Nat.lt_or_ge j (m % 8) with hj2 | hj2
        · have w10 : IntKind.u8.wrap (2 ^ j * 2) = 2 ^ (j + 1) := by
            rw [← Int.pow_succ]
            have h1 : (2 : Int) ^ (j + 1) ≤ 2 ^ 7 := by
              have := Nat.pow_le_pow_right (n := 2) (by omega) (show j + 1 ≤ 7 by omega)
              exact_mod_cast this
            exact wrap_u8 (Int.le_of_lt (Int.pow_pos (by omega))) (by omega)
          simp (disch := omega) [h0, h7, h8, h9, h10, h11, ht, ho, hlo, hr8, w10, wrap_small]
          exact hj2
        · obtain rfl : j = m % 8 := by omega
          have hm9 : m / 8 < (flipsZ l q p i).length := by omega
          have hI4 : m / 8 + 1 ≤ l.length := by omega
          have hI0 : 0 ≤ (m : Int) / 8 := by omega
          have hI1 : (m : Int) / 8 < l.length := by omega
          have hI2 : ((m : Int) / 8).toNat = m / 8 := by omega
          have hI3 : IntKind.i64.wrap ((m : Int) / 8) = (m : Int) / 8 := wrap_small (by omega) (by omega)
          have hx1 : i < 33 := by omega
          have hx2 : q + (i + 1) ≤ 8 * l.length := by omega
          simp (disch := omega) [h0, h7, h8, h9, h10, h11, ht, ho, hlo, hr8, hI4, hI0, hI1, hI2, hI3, getObj_last, ints_nth, ints_set, hm8, hm9, hlen, e2, w9, set_last, hx1]
          exact ⟨by rw [e3]; rfl, by omega⟩
      · have e3 : flipsZ l q p (i + 1) = flipsZ l q p i := by
          show (if p / 2 ^ i % 2 = 1 then _ else _) = _
          rw [← hz, if_neg hodd]
        have hx1 : i < 33 := by omega
        have hx2 : q + (i + 1) ≤ 8 * l.length := by omega
        simp (disch := omega) [h0, h7, h8, h9, ht, ho, hlo, vn, w8, hz2, hodd, e2, w9, e3, hx1]
        omega
  · have hz0 : p / 2 ^ i = 0 := by omega
    have hne : ¬ p / 2 ^ (8 * l.length - q) ≠ 0 := by
      intro hh
      apply hh
      rw [show 8 * l.length - q = i + (8 * l.length - q - i) by omega, Int.pow_add, ← Int.ediv_ediv_of_nonneg (by exact Int.le_of_lt (Int.pow_pos (by omega))), hz0, Int.zero_ediv]
    have hfin : flipsZ l q p i = flipsZ l q p 32 := by
      rcases Nat.lt_or_ge i 33 with h | h
      · have := flipsZ_stop (l := l) (k := q) hp0 hz0 (32 - i)
        rw [← this, show i + (32 - i) = 32 by omega]
      · obtain rfl : i = 33 := by omega
        have h32 : p / 2 ^ 32 = 0 := Int.ediv_eq_zero_of_lt hp0 (by omega)
        exact flipsZ_stop (l := l) (k := q) hp0 h32 1
    rw [if_neg hne] at hturn
    have hlen := flipsZ_len l q p 32
    simp (disch := omega) [h0, h7, h8, h9, ht, ho, hlo, getObj_last, hturn, hfin, hlen])

end Go.Proofs.Ytmoegiibdaomlaa.B
