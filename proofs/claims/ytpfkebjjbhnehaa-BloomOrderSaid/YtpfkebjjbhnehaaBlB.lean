import Derived.Test.YtpfkebjjbhnehaaBlA
import Derived.Laws.BitsLemmas
set_option linter.unusedSimpArgs false
set_option linter.unusedVariables false
set_option linter.unusedSectionVars false
set_option maxRecDepth 20000
set_option maxHeartbeats 1000000
namespace Go.Proofs.Ytpfkebjjbhnehaa.B
open Go Go.Ab
/-! numbers in few bytes, plain mathematics (turned from wip/blocks) -/
namespace M
open Go.RowKit
theorem w64 {x : Int} (h0 : -9223372036854775808 ≤ x) (h1 : x ≤ 9223372036854775807) : wrap64 x = x := by
  unfold wrap64; omega
theorem u64r (x : Int) : IntKind.u64.wrap x = x % 18446744073709551616 := by
  simp [IntKind.wrap, IntKind.bits, IntKind.signed]
theorem u32r (x : Int) : IntKind.u32.wrap x = x % 4294967296 := by
  simp [IntKind.wrap, IntKind.bits, IntKind.signed]
theorem u64w {x : Int} (h0 : 0 ≤ x) (h1 : x < 18446744073709551616) : IntKind.u64.wrap x = x := by
  rw [u64r]; omega
theorem wsucc {i : Nat} (h : i < 9223372036854775807) : wrap64 ((i : Int) + 1) = ((i + 1 : Nat) : Int) := by
  unfold wrap64; omega
theorem byteWf {x : Int} (h : (Lit.int .u8 x).wf = true) : 0 ≤ x ∧ x < 256 := by
  simp [Lit.wf, IntKind.min, IntKind.max, IntKind.signed, IntKind.bits] at h
  omega
theorem u64Wf {x : Int} (h : (Lit.int .u64 x).wf = true) : 0 ≤ x ∧ x < 18446744073709551616 := by
  simp [Lit.wf, IntKind.min, IntKind.max, IntKind.signed, IntKind.bits] at h
  omega
theorem i64Wf {x : Int} (h : (Lit.int .i64 x).wf = true) : -9223372036854775808 ≤ x ∧ x < 9223372036854775808 := by
  simp [Lit.wf, IntKind.min, IntKind.max, IntKind.signed, IntKind.bits] at h
  omega
def Bytes (l : List Int) : Prop := ∀ x ∈ l, 0 ≤ x ∧ x < 256
def U64s (l : List Int) : Prop := ∀ x ∈ l, 0 ≤ x ∧ x < 18446744073709551616
theorem bytesWf {l : List Int} (h : ∀ x ∈ l, (Lit.int .u8 x).wf = true) : Bytes l := fun x hx => byteWf (h x hx)
theorem u64sWf {l : List Int} (h : ∀ x ∈ l, (Lit.int .u64 x).wf = true) : U64s l := fun x hx => u64Wf (h x hx)
theorem Bytes.app {a b : List Int} (ha : Bytes a) (hb : Bytes b) : Bytes (a ++ b) := fun x hx => (List.mem_append.1 hx).elim (ha x) (hb x)
theorem Bytes.left {a b : List Int} (h : Bytes (a ++ b)) : Bytes a := fun x hx => h x (List.mem_append_left _ hx)
theorem Bytes.right {a b : List Int} (h : Bytes (a ++ b)) : Bytes b := fun x hx => h x (List.mem_append_right _ hx)
theorem Bytes.drop {a : List Int} (h : Bytes a) (n : Nat) : Bytes (a.drop n) := fun x hx => h x (List.mem_of_mem_drop hx)
theorem Bytes.take {a : List Int} (h : Bytes a) (n : Nat) : Bytes (a.take n) := fun x hx => h x (List.mem_of_mem_take hx)
theorem U64s.drop {a : List Int} (h : U64s a) (n : Nat) : U64s (a.drop n) := fun x hx => h x (List.mem_of_mem_drop hx)
theorem U64s.take {a : List Int} (h : U64s a) (n : Nat) : U64s (a.take n) := fun x hx => h x (List.mem_of_mem_take hx)
theorem drop_cons {l : List Int} {i : Nat} (h : i < l.length) : l.drop i = l[i] :: l.drop (i + 1) := List.drop_eq_getElem_cons h
theorem take_succ_snoc {l : List Int} {i : Nat} (h : i < l.length) : l.take (i + 1) = l.take i ++ [l[i]] := by rw [List.take_add_one, List.getElem?_eq_getElem h]; rfl
theorem pow_pos' (n : Nat) : (0 : Int) < 128 ^ n := Int.pow_pos (by decide)
theorem pow128 (n : Nat) : (128 : Int) ^ n = 2 ^ (7 * n) := by rw [Int.pow_mul]; rfl
theorem ipow_le {b : Int} (hb : 1 ≤ b) {m n : Nat} (h : m ≤ n) : b ^ m ≤ b ^ n := by
  obtain ⟨a, rfl⟩ := Int.eq_ofNat_of_zero_le (show 0 ≤ b by omega)
  exact_mod_cast Nat.pow_le_pow_right (by omega) h
theorem wraps_u64 (n : Int) (h0 : 0 ≤ n) (h1 : n < 2 ^ 64) : IntKind.u64.wrap n = n := by
  rw [u64r]; omega
theorem and127 {x : Int} (h0 : 0 ≤ x) (h1 : x < 256) : Go.bits .and .u8 x 127 = x % 128 := Go.bits_mask .u8 8 (by decide) Go.wraps_u8 7 (by decide) x h0 h1
theorem or_low {j : Nat} {x y : Int} (hx0 : 0 ≤ x) (hx : x < 2 ^ j) (hy0 : 0 ≤ y) (hb : x + y * 2 ^ j < 2 ^ 64) :
    Go.bits .or .u64 x (y * 2 ^ j) = x + y * 2 ^ j := by
  have hp : (0 : Int) < 2 ^ j := Int.pow_pos (by decide)
  obtain ⟨a, rfl⟩ := Int.eq_ofNat_of_zero_le hx0
  obtain ⟨b, rfl⟩ := Int.eq_ofNat_of_zero_le hy0
  have ha : a < 2 ^ j := by exact_mod_cast hx
  have hab : a + b * 2 ^ j < 2 ^ 64 := by exact_mod_cast hb
  have e : ((b : Int) * 2 ^ j) = ((2 ^ j * b : Nat) : Int) := by rw [Nat.mul_comm]; simp
  have hc : a + 2 ^ j * b < 2 ^ 64 := by rw [Nat.mul_comm]; exact hab
  rw [e, (Go.bits_nat .u64 64 (by decide) wraps_u64 a (2 ^ j * b) (by omega) (by omega)).2, Nat.or_comm, ← Nat.two_pow_add_eq_or_of_lt ha b]
  omega
def putL (u : Nat) : List Int := if u < 128 then [(u : Int)] else ((u % 128 + 128 : Nat) : Int) :: putL (u / 128)
theorem putL_small {u : Nat} (h : u < 128) : putL u = [(u : Int)] := by rw [putL, if_pos h]
theorem putL_big {u : Nat} (h : ¬ u < 128) : putL u = ((u % 128 + 128 : Nat) : Int) :: putL (u / 128) := by rw [putL, if_neg h]
def getL : List Int → Nat → Except Int (Int × Nat)
  | [], _ => .error 2
  | c :: r, i => if i = 9 ∧ c > 1 then .error 20 else if c ≥ 128 then (match getL r (i + 1) with | .ok (v, n) => .ok (c - 128 + 128 * v, n + 1) | .error e => .error e)
    else if c = 0 ∧ i > 0 then .error 5 else .ok (c, 1)
theorem putL_bytes (n : Nat) : ∀ u, u < n → Bytes (putL u) := by
  induction n with
  | zero => intro u h; omega
  | succ n ih =>
    intro u h
    by_cases hu : u < 128
    · rw [putL_small hu]; intro x hx; simp only [List.mem_singleton] at hx; omega
    · rw [putL_big hu]; intro x hx
      rcases List.mem_cons.1 hx with rfl | hx
      · omega
      · exact ih (u / 128) (by omega) x hx
theorem putL_pos (u : Nat) : 1 ≤ (putL u).length := by
  by_cases hu : u < 128
  · rw [putL_small hu]; simp
  · rw [putL_big hu]; simp
theorem putL_len (n : Nat) : ∀ u, u < n → u < 2 ^ (7 * (putL u).length) ∧ (2 ≤ (putL u).length → 2 ^ (7 * ((putL u).length - 1)) ≤ u) := by
  induction n with
  | zero => intro u h; omega
  | succ n ih =>
    intro u h
    by_cases hu : u < 128
    · rw [putL_small hu]; simp; omega
    · rw [putL_big hu]
      obtain ⟨h1, h2⟩ := ih (u / 128) (by omega)
      have hp := putL_pos (u / 128)
      simp only [List.length_cons, Nat.add_sub_cancel]
      have e : 2 ^ (7 * ((putL (u / 128)).length + 1)) = 2 ^ (7 * (putL (u / 128)).length) * 128 := by rw [Nat.mul_add, Nat.pow_add]
      refine ⟨by rw [e]; omega, fun _ => ?_⟩
      by_cases hl : 2 ≤ (putL (u / 128)).length
      · have h3 := h2 hl
        have e2 : 2 ^ (7 * (putL (u / 128)).length) = 2 ^ (7 * ((putL (u / 128)).length - 1)) * 128 := by
          rw [show 7 * (putL (u / 128)).length = 7 * ((putL (u / 128)).length - 1) + 7 by omega, Nat.pow_add]
        rw [e2]; omega
      · rw [show (putL (u / 128)).length = 1 by omega]; omega
theorem putL_len_le {u j : Nat} (hj : 1 ≤ j) (h : u < 2 ^ (7 * j)) : (putL u).length ≤ j := by
  obtain ⟨_, h2⟩ := putL_len (u + 1) u (by omega)
  refine Decidable.byContradiction fun hc => ?_
  have h3 := h2 (by omega)
  have : 2 ^ (7 * j) ≤ 2 ^ (7 * ((putL u).length - 1)) := Nat.pow_le_pow_right (by decide) (by omega)
  omega
theorem putL_len10 {u : Nat} (h : u < 18446744073709551616) : (putL u).length ≤ 10 :=
  putL_len_le (by decide) (Nat.lt_trans h (by decide))
theorem putL_mono {u v : Nat} (h : u ≤ v) : (putL u).length ≤ (putL v).length := by
  obtain ⟨h1, _⟩ := putL_len (v + 1) v (by omega)
  exact putL_len_le (putL_pos v) (by omega)
theorem getL_ok : ∀ (b : List Int) (i : Nat) (v : Int) (n : Nat), Bytes b → i ≤ 9 → getL b i = .ok (v, n) →
    0 ≤ v ∧ v < 2 ^ (64 - 7 * i) ∧ 1 ≤ n ∧ n ≤ b.length ∧ n + i ≤ 10 := by
  intro b
  induction b with
  | nil => intro i v n _ _ h; simp [getL] at h
  | cons c r ih =>
    intro i v n hb hi h
    have hc := hb c (List.mem_cons_self)
    have hr : Bytes r := fun x hx => hb x (List.mem_cons_of_mem _ hx)
    rw [getL] at h
    by_cases h9 : i = 9 ∧ c > 1
    · rw [if_pos h9] at h; simp at h
    rw [if_neg h9] at h
    by_cases h128 : c ≥ 128
    · rw [if_pos h128] at h
      have hi8 : i + 1 ≤ 9 := by omega
      cases hg : getL r (i + 1) with
      | error e => rw [hg] at h; simp at h
      | ok p =>
        obtain ⟨v', n'⟩ := p
        rw [hg] at h
        simp only [Except.ok.injEq, Prod.mk.injEq] at h
        obtain ⟨rfl, rfl⟩ := h
        obtain ⟨g1, g2, g3, g4, g5⟩ := ih (i + 1) v' n' hr hi8 hg
        have e : (2 : Int) ^ (64 - 7 * i) = 2 ^ (64 - 7 * (i + 1)) * 128 := by
          rw [show 64 - 7 * i = 64 - 7 * (i + 1) + 7 by omega, Int.pow_add]; rfl
        refine ⟨by omega, by rw [e]; omega, by omega, by simp only [List.length_cons]; omega, by omega⟩
    · rw [if_neg h128] at h
      by_cases h0 : c = 0 ∧ i > 0
      · rw [if_pos h0] at h; simp at h
      rw [if_neg h0] at h
      simp only [Except.ok.injEq, Prod.mk.injEq] at h
      obtain ⟨rfl, rfl⟩ := h
      refine ⟨by omega, ?_, by omega, by simp, by omega⟩
      by_cases hi9 : i = 9
      · subst hi9; have : ¬ c > 1 := fun h => h9 ⟨rfl, h⟩; simp; omega
      · have : (2 : Int) ^ 8 ≤ 2 ^ (64 - 7 * i) := ipow_le (by decide) (by omega)
        omega
theorem getL_putL (n : Nat) : ∀ (u i : Nat) (rest : List Int), u < n → i ≤ 9 → u < 2 ^ (64 - 7 * i) → (i > 0 → u > 0) → getL (putL u ++ rest) i = .ok ((u : Int), (putL u).length) := by
  induction n with
  | zero => intro u i rest h; omega
  | succ n ih =>
    intro u i rest h hi hu hp
    by_cases hs : u < 128
    · rw [putL_small hs]
      simp only [List.singleton_append, getL, List.length_singleton]
      rw [if_neg, if_neg (by omega), if_neg (by omega)]
      rintro ⟨rfl, h1⟩
      simp at hu; omega
    · rw [putL_big hs]
      simp only [List.cons_append, getL, List.length_cons]
      have hi8 : i + 1 ≤ 9 := by
        refine Decidable.byContradiction fun hc => ?_
        have : i = 9 := by omega
        subst this; simp at hu; omega
      have e : (2 : Nat) ^ (64 - 7 * i) = 2 ^ (64 - 7 * (i + 1)) * 128 := by
        rw [show 64 - 7 * i = 64 - 7 * (i + 1) + 7 by omega, Nat.pow_add]
      rw [if_neg (by omega), if_pos (by omega), ih (u / 128) (i + 1) rest (by omega) hi8 (by omega) (by omega)]
      simp only [Except.ok.injEq, Prod.mk.injEq, and_true]
      omega
theorem getL_short (n : Nat) : ∀ (u i m : Nat), u < n → i ≤ 9 → u < 2 ^ (64 - 7 * i) → m < (putL u).length → getL ((putL u).take m) i = .error 2 := by
  induction n with
  | zero => intro u i m h; omega
  | succ n ih =>
    intro u i m h hi hu hm
    cases m with
    | zero => simp [getL]
    | succ m =>
      by_cases hs : u < 128
      · rw [putL_small hs] at hm; simp at hm
      · rw [putL_big hs] at hm ⊢
        simp only [List.length_cons] at hm
        simp only [List.take_succ_cons, getL]
        have hi8 : i + 1 ≤ 9 := by
          refine Decidable.byContradiction fun hc => ?_
          have : i = 9 := by omega
          subst this; simp at hu; omega
        have e : (2 : Nat) ^ (64 - 7 * i) = 2 ^ (64 - 7 * (i + 1)) * 128 := by
          rw [show 64 - 7 * i = 64 - 7 * (i + 1) + 7 by omega, Nat.pow_add]
        rw [if_neg (by omega), if_pos (by omega), ih (u / 128) (i + 1) m (by omega) hi8 (by omega) (by omega)]
theorem getL_only : ∀ (b : List Int) (i : Nat) (v : Int) (n : Nat), Bytes b → i ≤ 9 → getL b i = .ok (v, n) → putL v.toNat = b.take n ∧ (i > 0 → 0 < v) := by
  intro b
  induction b with
  | nil => intro i v n _ _ h; simp [getL] at h
  | cons c r ih =>
    intro i v n hb hi h
    have hc := hb c (List.mem_cons_self)
    have hr : Bytes r := fun x hx => hb x (List.mem_cons_of_mem _ hx)
    rw [getL] at h
    by_cases h9 : i = 9 ∧ c > 1
    · rw [if_pos h9] at h; simp at h
    rw [if_neg h9] at h
    by_cases h128 : c ≥ 128
    · rw [if_pos h128] at h
      have hi8 : i + 1 ≤ 9 := by omega
      cases hg : getL r (i + 1) with
      | error e => rw [hg] at h; simp at h
      | ok p =>
        obtain ⟨v', n'⟩ := p
        rw [hg] at h
        simp only [Except.ok.injEq, Prod.mk.injEq] at h
        obtain ⟨rfl, rfl⟩ := h
        obtain ⟨g1, g2⟩ := ih (i + 1) v' n' hr hi8 hg
        obtain ⟨q1, _⟩ := getL_ok r (i + 1) v' n' hr hi8 hg
        have g3 := g2 (by omega)
        refine ⟨?_, fun _ => by omega⟩
        rw [putL_big (by omega), show (c - 128 + 128 * v').toNat / 128 = v'.toNat by omega, g1, List.take_succ_cons]
        congr 1; omega
    · rw [if_neg h128] at h
      by_cases h0 : c = 0 ∧ i > 0
      · rw [if_pos h0] at h; simp at h
      rw [if_neg h0] at h
      simp only [Except.ok.injEq, Prod.mk.injEq] at h
      obtain ⟨rfl, rfl⟩ := h
      refine ⟨?_, by omega⟩
      rw [putL_small (by omega)]; simp; omega
def getR (b : List Int) (at_ : Int) : Int × Int × Int :=
  if at_ < 0 ∨ at_ > b.length then (0, 0, 1) else match getL (b.drop at_.toNat) 0 with
    | .ok (v, n) => (v, at_ + n, 0)
    | .error e => (0, 0, e)
theorem getL_err : ∀ (b : List Int) (i : Nat) (e : Int), getL b i = .error e → e = 2 ∨ e = 20 ∨ e = 5 := by
  intro b
  induction b with
  | nil => intro i e h; simp only [getL, Except.error.injEq] at h; omega
  | cons c r ih =>
    intro i e h
    rw [getL] at h
    split at h
    · simp only [Except.error.injEq] at h; omega
    split at h
    · split at h
      · simp at h
      · rename_i e' hg; simp only [Except.error.injEq] at h; subst h; exact ih _ _ hg
    split at h
    · simp only [Except.error.injEq] at h; omega
    · simp at h
theorem getR_ok {b : List Int} {at_ v nx : Int} (hb : Bytes b) (h : getR b at_ = (v, nx, 0)) :
    0 ≤ at_ ∧ at_ < nx ∧ nx ≤ b.length ∧ nx ≤ at_ + 10 ∧ 0 ≤ v ∧ v < 18446744073709551616 ∧ putL v.toNat = (b.take nx.toNat).drop at_.toNat := by
  unfold getR at h
  split at h
  · simp at h
  rename_i ha
  split at h
  · rename_i v' n hg
    simp only [Prod.mk.injEq, and_true] at h
    obtain ⟨rfl, rfl⟩ := h
    obtain ⟨g1, g2, g3, g4, g5⟩ := getL_ok _ 0 _ _ (hb.drop _) (by decide) hg
    obtain ⟨q1, _⟩ := getL_only _ 0 _ _ (hb.drop _) (by decide) hg
    rw [List.length_drop] at g4
    refine ⟨by omega, by omega, by omega, by omega, g1, by simpa using g2, ?_⟩
    rw [q1, List.drop_take, show (at_ + (n : Int)).toNat - at_.toNat = n by omega]
  · rename_i e hg
    have := getL_err _ _ _ hg
    simp only [Prod.mk.injEq] at h
    omega
theorem getR_bad {b : List Int} {at_ v nx e : Int} (h : getR b at_ = (v, nx, e)) (he : e ≠ 0) : v = 0 ∧ nx = 0 := by
  unfold getR at h
  split at h
  · simp only [Prod.mk.injEq] at h; omega
  split at h
  · simp only [Prod.mk.injEq] at h; omega
  · simp only [Prod.mk.injEq] at h; omega
theorem getR_put (a c : List Int) {u : Nat} (hu : u < 18446744073709551616) : getR (a ++ putL u ++ c) (a.length : Int) = ((u : Int), (a.length : Int) + (putL u).length, 0) := by
  unfold getR
  rw [if_neg (by simp only [List.length_append]; omega), Int.toNat_natCast, List.append_assoc, List.drop_left, getL_putL (u + 1) u 0 c (by omega) (by decide) (by simpa using hu) (by omega)]
theorem getR_bad2 {b : List Int} {at_ : Int} (he : (getR b at_).2.2 ≠ 0) : (getR b at_).1 = 0 ∧ (getR b at_).2.1 = 0 := getR_bad (b := b) (at_ := at_) (v := (getR b at_).1) (nx := (getR b at_).2.1) (e := (getR b at_).2.2) rfl he
theorem i64_and7 {x : Int} (h0 : 0 ≤ x) (h1 : x < 9223372036854775808) : Go.bits .and .i64 x 7 = x % 8 :=
  Go.bits_mask .i64 63 (by decide) (fun n h0 h1 => by rw [Go.IntKind.wrap_i64]; omega) 3 (by decide) x h0 (by simpa using h1)
theorem u64_mask {x : Int} (h0 : 0 ≤ x) (h1 : x < 18446744073709551616) {i : Nat} (hi : i ≤ 64) : Go.bits .and .u64 x (2 ^ i - 1) = x % 2 ^ i :=
  Go.bits_mask .u64 64 (by decide) wraps_u64 i hi x h0 (by simpa using h1)
theorem or_low8 {j : Nat} {x y : Int} (hx0 : 0 ≤ x) (hx : x < 2 ^ j) (hy0 : 0 ≤ y) (hb : x + y * 2 ^ j < 2 ^ 8) :
    Go.bits .or .u8 x (y * 2 ^ j) = x + y * 2 ^ j := by
  have hp : (0 : Int) < 2 ^ j := Int.pow_pos (by decide)
  obtain ⟨a, rfl⟩ := Int.eq_ofNat_of_zero_le hx0
  obtain ⟨b, rfl⟩ := Int.eq_ofNat_of_zero_le hy0
  have ha : a < 2 ^ j := by exact_mod_cast hx
  have hab : a + b * 2 ^ j < 2 ^ 8 := by exact_mod_cast hb
  have e : ((b : Int) * 2 ^ j) = ((2 ^ j * b : Nat) : Int) := by rw [Nat.mul_comm]; simp
  have hc : a + 2 ^ j * b < 2 ^ 8 := by rw [Nat.mul_comm]; exact hab
  rw [e, (Go.bits_nat .u8 8 (by decide) Go.wraps_u8 a (2 ^ j * b) (by omega) (by omega)).2, Nat.or_comm, ← Nat.two_pow_add_eq_or_of_lt ha b]
  omega
theorem toNat_div2 {x : Int} (h0 : 0 ≤ x) (n : Nat) : (x / 2 ^ n).toNat = x.toNat / 2 ^ n := by
  obtain ⟨a, rfl⟩ := Int.eq_ofNat_of_zero_le h0
  rw [show (2 : Int) ^ n = ((2 ^ n : Nat) : Int) by simp, ← Int.natCast_ediv, Int.toNat_natCast, Int.toNat_natCast]
theorem toNat_mod2 {x : Int} (h0 : 0 ≤ x) (n : Nat) : (x % 2 ^ n).toNat = x.toNat % 2 ^ n := by
  obtain ⟨a, rfl⟩ := Int.eq_ofNat_of_zero_le h0
  rw [show (2 : Int) ^ n = ((2 ^ n : Nat) : Int) by simp, ← Int.natCast_emod, Int.toNat_natCast, Int.toNat_natCast]
theorem divmod2 {x : Int} (h0 : 0 ≤ x) (s t : Nat) : x / 2 ^ s % 2 ^ t = ((x.toNat / 2 ^ s % 2 ^ t : Nat) : Int) := by
  obtain ⟨a, rfl⟩ := Int.eq_ofNat_of_zero_le h0
  simp
theorem nat_xor_top {x : Nat} (j : Nat) (h : x < 2 ^ j) : x ^^^ 2 ^ j = x + 2 ^ j := by
  apply Nat.eq_of_testBit_eq
  intro i
  rw [Nat.testBit_xor, Nat.testBit_two_pow]
  rcases Nat.lt_trichotomy i j with hi | hi | hi
  · rw [Nat.add_comm, Nat.testBit_two_pow_add_gt hi, decide_eq_false (by omega)]; simp
  · subst hi
    rw [Nat.add_comm, Nat.testBit_two_pow_add_eq]; simp
  · have h1 : x + 2 ^ j < 2 ^ i := by
      have : 2 ^ (j + 1) ≤ 2 ^ i := Nat.pow_le_pow_right (by decide) hi
      rw [Nat.pow_succ] at this; omega
    rw [Nat.testBit_lt_two_pow h1, Nat.testBit_lt_two_pow (show x < 2 ^ i by omega), decide_eq_false (by omega)]; rfl
theorem nat_xor_top' {x : Nat} (j : Nat) (h : x < 2 ^ j) : (x + 2 ^ j) ^^^ 2 ^ j = x := by
  rw [← nat_xor_top j h, Nat.xor_assoc, Nat.xor_self, Nat.xor_zero]
theorem xor_u64_nat (a b : Nat) (ha : a < 2 ^ 64) (hb : b < 2 ^ 64) : Go.bits .xor .u64 (a : Int) (b : Int) = ((a ^^^ b : Nat) : Int) := by
  have hx := Nat.xor_lt_two_pow ha hb
  rw [show Go.bits .xor .u64 (a : Int) (b : Int) = IntKind.u64.wrap ((BitVec.ofInt 64 (a : Int) ^^^ BitVec.ofInt 64 (b : Int)).toNat : Int) from rfl, BitVec.ofInt_natCast, BitVec.ofInt_natCast, BitVec.toNat_xor, BitVec.toNat_ofNat, BitVec.toNat_ofNat, Nat.mod_eq_of_lt ha, Nat.mod_eq_of_lt hb]
  exact wraps_u64 _ (Int.natCast_nonneg _) (by exact_mod_cast hx)
theorem xor_zero {x : Int} (h0 : 0 ≤ x) (h1 : x < 18446744073709551616) : Go.bits .xor .u64 x 0 = x := by
  obtain ⟨a, rfl⟩ := Int.eq_ofNat_of_zero_le h0
  have := xor_u64_nat a 0 (by omega) (by decide)
  simpa using this
theorem xor_all {x : Int} (h0 : 0 ≤ x) (h1 : x < 18446744073709551616) : Go.bits .xor .u64 x 18446744073709551615 = 18446744073709551615 - x := by
  obtain ⟨a, rfl⟩ := Int.eq_ofNat_of_zero_le h0
  have e : BitVec.ofInt 64 18446744073709551615 = BitVec.allOnes 64 := by decide
  rw [show Go.bits .xor .u64 (a : Int) 18446744073709551615 = IntKind.u64.wrap ((BitVec.ofInt 64 (a : Int) ^^^ BitVec.ofInt 64 18446744073709551615).toNat : Int) from rfl, e, BitVec.ofInt_natCast, BitVec.xor_allOnes, BitVec.toNat_not, BitVec.toNat_ofNat,
    Nat.mod_eq_of_lt (show a < 2 ^ 64 by omega), wraps_u64 _ (by omega) (by omega)]; omega
theorem xor_top {x : Int} (h0 : 0 ≤ x) (h1 : x < 18446744073709551616) : Go.bits .xor .u64 x 9223372036854775808 = if x < 9223372036854775808 then x + 9223372036854775808 else x - 9223372036854775808 := by
  obtain ⟨a, rfl⟩ := Int.eq_ofNat_of_zero_le h0
  have h := xor_u64_nat a (2 ^ 63) (by omega) (by decide)
  rw [show ((2 ^ 63 : Nat) : Int) = 9223372036854775808 from rfl] at h
  rw [h]
  by_cases hc : a < 2 ^ 63
  · rw [nat_xor_top 63 hc, if_pos (by omega)]; omega
  · have := nat_xor_top' (x := a - 2 ^ 63) 63 (by omega)
    rw [show a - 2 ^ 63 + 2 ^ 63 = a by omega] at this
    rw [this, if_neg (by omega)]; omega
theorem i64_wrap_nat {n : Nat} (h : n < 2 ^ 64) : IntKind.i64.wrap (n : Int) = if n < 2 ^ 63 then (n : Int) else (n : Int) - 18446744073709551616 := by
  rw [Go.IntKind.wrap_i64]; split <;> omega
theorem xor_i64_zero {x : Int} (h0 : 0 ≤ x) (h1 : x < 9223372036854775808) : Go.bits .xor .i64 x 0 = x := by
  obtain ⟨a, rfl⟩ := Int.eq_ofNat_of_zero_le h0
  have e : BitVec.ofInt 64 0 = 0#64 := by decide
  rw [show Go.bits .xor .i64 (a : Int) 0 = IntKind.i64.wrap ((BitVec.ofInt 64 (a : Int) ^^^ BitVec.ofInt 64 0).toNat : Int) from rfl, e, BitVec.ofInt_natCast, BitVec.xor_zero, BitVec.toNat_ofNat, Nat.mod_eq_of_lt (show a < 2 ^ 64 by omega), i64_wrap_nat (by omega), if_pos (by omega)]
theorem xor_i64_all {x : Int} (h0 : 0 ≤ x) (h1 : x < 9223372036854775808) : Go.bits .xor .i64 x (-1) = -1 - x := by
  obtain ⟨a, rfl⟩ := Int.eq_ofNat_of_zero_le h0
  have e : BitVec.ofInt 64 (-1) = BitVec.allOnes 64 := by decide
  rw [show Go.bits .xor .i64 (a : Int) (-1) = IntKind.i64.wrap ((BitVec.ofInt 64 (a : Int) ^^^ BitVec.ofInt 64 (-1)).toNat : Int) from rfl, e, BitVec.ofInt_natCast, BitVec.xor_allOnes, BitVec.toNat_not, BitVec.toNat_ofNat, Nat.mod_eq_of_lt (show a < 2 ^ 64 by omega), i64_wrap_nat (by omega), if_neg (by omega)]; omega
def foldI (v : Int) : Int := if 0 ≤ v then 2 * v else -2 * v - 1
def unfoldI (u : Int) : Int := if u % 2 = 0 then u / 2 else -(u / 2) - 1
end M

/-! getting a number -/
theorem b8_bytes {l : List Int} (h : b8 l = true) : M.Bytes l := b8_iff.1 h
def resG (b : List Int) (a i : Nat) (u : Int) : Int × Int × Int := match M.getL (b.drop (a + i)) i with | .ok (v, n) => (u + v * 2 ^ (7 * i), (a : Int) + i + n, 0) | .error e => (0, 0, e)
theorem resG_zero {b : List Int} {a : Nat} (h : a ≤ b.length) : resG b a 0 0 = M.getR b a := by
  unfold resG M.getR
  rw [if_neg (by omega), Nat.add_zero, Int.toNat_natCast]
  cases M.getL (b.drop a) 0 with
  | error e => rfl
  | ok p => simp
theorem resG_end {b : List Int} {a i : Nat} {u : Int} (h : b.length ≤ a + i) : resG b a i u = (0, 0, 2) := by
  unfold resG; rw [List.drop_eq_nil_of_le h]; rfl
theorem drop_nth {b : List Int} {j : Nat} (h : j < b.length) : b.drop j = nth b j :: b.drop (j + 1) := by rw [nth_lt h]; exact List.drop_eq_getElem_cons h
theorem resG_wide {b : List Int} {a i : Nat} {u : Int} (h : a + i < b.length) (h9 : i = 9 ∧ nth b (a + i) > 1) : resG b a i u = (0, 0, 20) := by
  unfold resG; rw [drop_nth h, M.getL, if_pos h9]
theorem resG_more {b : List Int} {a i : Nat} {u : Int} (h : a + i < b.length) (h9 : ¬ (i = 9 ∧ nth b (a + i) > 1)) (hc : nth b (a + i) ≥ 128) (hc2 : nth b (a + i) < 256) : resG b a i u = resG b a (i + 1) (u + nth b (a + i) % 128 * 2 ^ (7 * i)) := by
  unfold resG
  rw [drop_nth h, M.getL, if_neg h9, if_pos hc, show a + (i + 1) = a + i + 1 by omega]
  cases M.getL (b.drop (a + i + 1)) (i + 1) with
  | error e => rfl
  | ok p =>
    obtain ⟨v, n⟩ := p
    have e : (2 : Int) ^ (7 * (i + 1)) = 128 * 2 ^ (7 * i) := by rw [Nat.mul_add, Int.pow_add, Int.mul_comm]; rfl
    have e2 : nth b (a + i) % 128 = nth b (a + i) - 128 := by omega
    simp only [Prod.mk.injEq, and_true]
    constructor
    · rw [e, e2, Int.add_mul, Int.add_assoc]
      congr 2
      rw [← Int.mul_assoc, Int.mul_comm v 128]
    · omega
theorem resG_form {b : List Int} {a i : Nat} {u : Int} (h : a + i < b.length) (hc : nth b (a + i) = 0) (hi : 0 < i) : resG b a i u = (0, 0, 5) := by
  unfold resG; rw [drop_nth h, M.getL, if_neg (by omega), if_neg (by omega), if_pos ⟨hc, hi⟩]
theorem resG_done {b : List Int} {a i : Nat} {u : Int} (h : a + i < b.length) (h9 : ¬ (i = 9 ∧ nth b (a + i) > 1)) (hc : ¬ nth b (a + i) ≥ 128) (h0 : 0 ≤ nth b (a + i)) (hz : ¬ (nth b (a + i) = 0 ∧ 0 < i)) : resG b a i u = (u + nth b (a + i) % 128 * 2 ^ (7 * i), (a : Int) + i + 1, 0) := by
  unfold resG; rw [drop_nth h, M.getL, if_neg h9, if_neg hc, if_neg hz]
  have : nth b (a + i) % 128 = nth b (a + i) := by omega
  rw [this]; rfl
theorem fitG {i : Nat} {u c : Int} (hi : i ≤ 9) (h9 : ¬ (i = 9 ∧ c > 1)) (hc0 : 0 ≤ c) (hc : c < 256) (hu0 : 0 ≤ u) (hu1 : u < 2 ^ (7 * i)) : 0 ≤ c % 128 * 2 ^ (7 * i) ∧ c % 128 * 2 ^ (7 * i) < 2 ^ 64 ∧ u + c % 128 * 2 ^ (7 * i) < 2 ^ 64 ∧ (c ≥ 128 ∨ True → u + c % 128 * 2 ^ (7 * i) < 2 ^ (7 * (i + 1))) := by
  have hm : c % 128 < 2 ^ (64 - 7 * i) := by
    by_cases hi9 : i = 9
    · subst hi9; have : ¬ c > 1 := fun h => h9 ⟨rfl, h⟩; simp; omega
    · have : (2 : Int) ^ 8 ≤ 2 ^ (64 - 7 * i) := M.ipow_le (by decide) (by omega)
      omega
  have hpos : (0 : Int) < 2 ^ (7 * i) := Int.pow_pos (by decide)
  have e64 : (2 : Int) ^ 64 = 2 ^ (64 - 7 * i) * 2 ^ (7 * i) := by rw [← Int.pow_add]; congr 1; omega
  have hmul : c % 128 * 2 ^ (7 * i) ≤ (2 ^ (64 - 7 * i) - 1) * 2 ^ (7 * i) := Int.mul_le_mul_of_nonneg_right (by omega) (Int.le_of_lt hpos)
  have hfit : u + c % 128 * 2 ^ (7 * i) < 2 ^ 64 := by
    rw [e64]; rw [Int.sub_mul] at hmul; omega
  have hge : 0 ≤ c % 128 * 2 ^ (7 * i) := Int.mul_nonneg (by omega) (Int.le_of_lt hpos)
  refine ⟨hge, by omega, hfit, fun _ => ?_⟩
  have e : (2 : Int) ^ (7 * (i + 1)) = 128 * 2 ^ (7 * i) := by rw [Nat.mul_add, Int.pow_add, Int.mul_comm]; rfl
  have : c % 128 * 2 ^ (7 * i) ≤ 127 * 2 ^ (7 * i) := Int.mul_le_mul_of_nonneg_right (by omega) (Int.le_of_lt hpos)
  omega
def getVR (l : List Int) (a : Int) : Option Res := some (.tup [.int .u64 (M.getR l a).1, .int .i64 (M.getR l a).2.1, .int .i64 (M.getR l a).2.2], none)
noncomputable def k_VGet : Ab.Spec := con2 (ofInts .u8) (ofInt .i64) fun l a _ => bnd l.length 140737488355328 (if b8 l = true then getVR l a else none)
noncomputable def T_VGet : CallF := withF T_rSealed 42 k_VGet
theorem T_VGet_ok : CallOk Try.prog T_VGet := con_of (A := annOf [] [] [] false []) fit T_rSealed_ok (fn := Try.f42) (by kernel_rfl) (by kernel_rfl) (by
  intro args objs r h0
  obtain ⟨v, _, l, a, rfl, ha, hb, hR⟩ := con2_inv h0
  obtain rfl := ofInt_inv hb
  obtain ⟨hl, hR⟩ := bnd_inv hR
  split at hR
  case isFalse => cases hR
  rename_i hb8
  cases hR
  obtain ⟨vd, vn, vi, -⟩ := bs ha
  have hby := b8_bytes hb8
  refine .go _ rfl rfl ?_
  by_cases hn : a < 0
  · have e : M.getR l a = (0, 0, 1) := by unfold M.getR; rw [if_pos (.inl hn)]
    simp (disch := omega) [vn, hn, e]
  by_cases hb2 : (l.length : Int) < a
  · have e : M.getR l a = (0, 0, 1) := by unfold M.getR; rw [if_pos (.inr hb2)]
    simp (disch := omega) [vn, hn, hb2, e]
  obtain ⟨A, rfl⟩ := Int.eq_ofNat_of_zero_le (show 0 ≤ a by omega)
  have hz := resG_zero (b := l) (a := A) (by omega)
  obtain ⟨R, hR⟩ : ∃ R, R = M.getR l A := ⟨_, rfl⟩
  rw [← hR] at hz ⊢
  have hnn : ¬ (A : Int) < 0 := hn
  simp (disch := omega) [vn, hb2]
  refine .up 10 (fun i s => s.env 0 = v ∧ s.env 1 = .int .i64 A ∧ s.env 8 = .int .i64 i ∧ i ≤ 9 ∧ s.toks = [] ∧ s.objs = objs ∧ s.low = objs.length ∧ ∃ u, s.env 7 = .int .u64 u ∧ 0 ≤ u ∧ u < 2 ^ (7 * i) ∧ resG l A i u = R) (by simpa using hz) ?_
  rintro i s hi ⟨g0, g1, g8, hi9, ht, ho, hlo, u, g7, hu0, hu1, hres⟩
  have wd : IntKind.i64.wrap ((l.length : Int) - A) = (l.length : Int) - A := wrap_small (by omega) (by omega)
  rcases Nat.lt_or_ge (A + i) l.length with h | h
  case inr =>
    rw [resG_end h] at hres
    subst hres
    simp -implicitDefEqProofs (disch := omega) [g0, g1, g8, g7, ht, ho, hlo, vn, wd]
  have w1 : IntKind.i64.wrap ((A : Int) + i) = (A : Int) + i := wrap_small (by omega) (by omega)
  have e1 := vi .i64 ((A : Int) + i) (by omega) (by omega)
  rw [toNat_add] at e1
  have hc := hby _ (nth_mem h)
  have hw := @resG_wide l A i u h
  have hm := @resG_more l A i u h
  have hf := @resG_form l A i u h
  have hd := @resG_done l A i u h
  have en := of_get (ints_nth (k := .u8) h)
  have en0 := ints_nth (k := .u8) h
  obtain ⟨c, hcc⟩ : ∃ c, c = nth l (A + i) := ⟨_, rfl⟩
  rw [← hcc] at hc hw hm hf hd en en0
  have w7 : IntKind.i64.wrap (7 * (i : Int)) = 7 * (i : Int) := wrap_small (by omega) (by omega)
  have w7u : IntKind.u64.wrap (7 * (i : Int)) = 7 * (i : Int) := wrap_u64 (by omega) (by omega)
  have hand : Go.bits .and .u8 c 127 = c % 128 := M.and127 hc.1 hc.2
  have wc : IntKind.u64.wrap (c % 128) = c % 128 := wrap_u64 (by omega) (by omega)
  have wi : IntKind.i64.wrap ((i : Int) + 1) = (i : Int) + 1 := wrap_small (by omega) (by omega)
  by_cases h9 : i = 9 ∧ c > 1
  · have e := hw h9
    rw [hres] at e
    subst e
    obtain ⟨h9i, h91⟩ := h9
    simp -implicitDefEqProofs (disch := omega) [g0, g1, g8, g7, ht, ho, hlo, vn, wd, w1, e1, en, en0, h91]
  obtain ⟨f0, f1, f2, f3⟩ := fitG hi9 h9 hc.1 hc.2 hu0 hu1
  have hmin : min (7 * (i : Int)).toNat 64 = 7 * i := by omega
  have h7n : ¬ 7 * (i : Int) < 0 := by omega
  have wsh : IntKind.u64.wrap (c % 128 * 2 ^ (7 * i)) = c % 128 * 2 ^ (7 * i) := wrap_u64 f0 (by omega)
  have hor : Go.bits .or .u64 u (c % 128 * 2 ^ (7 * i)) = u + c % 128 * 2 ^ (7 * i) := M.or_low hu0 hu1 (by omega) f2
  by_cases h128 : c ≥ 128
  · have e := hm h9 h128 hc.2
    rw [hres] at e
    have hi99 : i ≠ 9 := fun q => h9 ⟨q, by omega⟩
    simp -implicitDefEqProofs (disch := omega) [g0, g1, g8, g7, ht, ho, hlo, vn, wd, w1, e1, en, en0, hand, wc, w7, w7u, hmin, wsh, hor, wi, convV, h7n]
    exact ⟨by omega, by omega, by omega, f3 (.inr trivial), e.symm⟩
  by_cases hz0 : c = 0 ∧ 0 < i
  · have e := hf hz0.1 hz0.2
    rw [hres] at e
    subst e
    obtain ⟨hz1, hz2⟩ := hz0
    have hi99 : i ≠ 9 ∨ ¬ c > 1 := by omega
    by_cases hi9 : i = 9
    · have hc1 : ¬ c > 1 := fun q => h9 ⟨hi9, q⟩
      simp -implicitDefEqProofs (disch := omega) [g0, g1, g8, g7, ht, ho, hlo, vn, wd, w1, e1, en, en0, hand, wc, w7, w7u, hmin, wsh, hor, wi, convV, h7n]
    · simp -implicitDefEqProofs (disch := omega) [g0, g1, g8, g7, ht, ho, hlo, vn, wd, w1, e1, en, en0, hand, wc, w7, w7u, hmin, wsh, hor, wi, convV, h7n]
  · have e := hd h9 h128 hc.1 hz0
    rw [hres] at e
    subst e
    have wa : IntKind.i64.wrap ((A : Int) + i + 1) = (A : Int) + i + 1 := wrap_small (by omega) (by omega)
    by_cases hi9 : i = 9
    · have hc1 : ¬ c > 1 := fun q => h9 ⟨hi9, q⟩
      simp -implicitDefEqProofs (disch := omega) [g0, g1, g8, g7, ht, ho, hlo, vn, wd, w1, e1, en, en0, hand, wc, w7, w7u, hmin, wsh, hor, wi, convV, h7n, wa]
    · by_cases hc0 : c = 0
      · simp -implicitDefEqProofs (disch := omega) [g0, g1, g8, g7, ht, ho, hlo, vn, wd, w1, e1, en, en0, hand, wc, w7, w7u, hmin, wsh, hor, wi, convV, h7n, wa]
      · simp -implicitDefEqProofs (disch := omega) [g0, g1, g8, g7, ht, ho, hlo, vn, wd, w1, e1, en, en0, hand, wc, w7, w7u, hmin, wsh, hor, wi, convV, h7n, wa])

/-! putting a number -/
theorem or128 {x : Int} (h0 : 0 ≤ x) (h1 : x < 256) : Go.bits .or .u8 x 128 = x % 128 + 128 := by
  have : ∀ n : Fin 256, Go.bits .or .u8 ((n.val : Nat) : Int) 128 = ((n.val : Nat) : Int) % 128 + 128 := by decide +kernel
  have h := this ⟨x.toNat, by omega⟩
  rwa [show ((x.toNat : Nat) : Int) = x by omega] at h
def putVR (u : Int) : Option Res := if 0 ≤ u ∧ u < 18446744073709551616 then some (.lst (.fresh 1 true) (ints .u8 (M.putL u.toNat)) (M.putL u.toNat).length, none) else none
theorem putVR_nat {u : Nat} (h : u < 18446744073709551616) : putVR u = some (.lst (.fresh 1 true) (ints .u8 (M.putL u)) (M.putL u).length, none) := by
  unfold putVR; rw [if_pos (by omega), Int.toNat_natCast]
noncomputable def k_VPut : Ab.Spec := con1 (ofInt .u64) fun u _ => putVR u
noncomputable def T_VPut : CallF := withF T_VGet 37 k_VPut
theorem T_VPut_ok : CallOk Try.prog T_VPut := con_of (A := annOf [] [11,18] [] false []) fit T_VGet_ok (fn := Try.f37) (by kernel_rfl) (by kernel_rfl) (by
  intro args objs r h0
  obtain ⟨_, u0, rfl, hb, hR⟩ := con1_inv h0
  obtain rfl := ofInt_inv hb
  unfold putVR at hR
  split at hR
  case isFalse => cases hR
  rename_i hu
  obtain ⟨hu0, hu1⟩ := hu
  cases hR
  obtain ⟨U, rfl⟩ := Int.eq_ofNat_of_zero_le hu0
  rw [Int.toNat_natCast]
  have hlen := M.putL_len10 (u := U) (by omega)
  obtain ⟨W, hW⟩ : ∃ W, W = M.putL U := ⟨_, rfl⟩
  rw [← hW] at hlen ⊢
  refine .go _ rfl rfl ?_
  simp
  refine .dn U (fun n s => n ≤ U ∧ s.env 0 = .int .u64 n ∧ s.toks = [] ∧ s.low = objs.length ∧ ∃ p, p ++ M.putL n = W ∧ (p = [] ∧ s.env 3 = .nils ∧ s.objs = objs ∨ p ≠ [] ∧ s.env 3 = .ref objs.length (p.length - 1) 0 p.length 1 ∧ s.objs = objs ++ [.cells (ints .u8 p) (p.length - 1)])) (by simp; exact hW.symm) ?_
  rintro n s ⟨hnU, g0, ht, hlo, p, hp, h3⟩
  have hpl := congrArg List.length hp
  rw [List.length_append] at hpl
  have hpos := M.putL_pos n
  have wu8 : IntKind.u8.wrap (n : Int) = (n : Int) % 256 := rfl
  have hfd : (n : Int).fdiv 128 = ((n / 128 : Nat) : Int) := by rw [Int.fdiv_eq_ediv_of_nonneg _ (by decide)]; omega
  by_cases hn : n < 128
  · rw [M.putL_small hn] at hp
    have hwb : IntKind.u8.wrap (n : Int) = n := wrap_u8 (by omega) (by omega)
    have hge : ¬ (128 : Int) ≤ n := by omega
    rcases h3 with ⟨rfl, g3, ho⟩ | ⟨hne, g3, ho⟩
    · have hpW : W = [(n : Int)] := hp.symm
      subst hpW
      simp -implicitDefEqProofs (disch := omega) [g0, g3, ht, hlo, ho, hge, convV, hwb, blit1, getObj_last]
      exact rfl
    · obtain ⟨k, hk⟩ : ∃ k, p.length = k + 1 := ⟨p.length - 1, by have := List.length_pos_iff.2 hne; omega⟩
      rw [hk] at g3 ho
      have hWl : W.length = k + 2 := by rw [← hp]; simp [hk]
      have es : ints .u8 p ++ [.int .u8 n] = ints .u8 W := by rw [← hp]; simp [ints]
      simp -implicitDefEqProofs (disch := omega) [g0, g3, ht, hlo, ho, hge, convV, hwb, blit1, getObj_last, set_last, hk, es, hWl]
  · have hge : (128 : Int) ≤ n := by omega
    rw [M.putL_big hn] at hp
    have hor : Go.bits .or .u8 ((n : Int) % 256) 128 = ((n % 128 + 128 : Nat) : Int) := by rw [or128 (by omega) (by omega)]; omega
    have hp' : p ++ [((n % 128 + 128 : Nat) : Int)] ++ M.putL (n / 128) = W := by rw [List.append_assoc]; exact hp
    have hlt : n / 128 < n := by omega
    have hle : n / 128 ≤ U := by omega
    rcases h3 with ⟨rfl, g3, ho⟩ | ⟨hne, g3, ho⟩
    · simp -implicitDefEqProofs (disch := omega) [g0, g3, ht, hlo, ho, hge, convV, wu8, hor, hfd, blit1, getObj_last]
      exact ⟨n / 128, hlt, hle, by omega, [((n % 128 + 128 : Nat) : Int)], hp', by simp, ⟨rfl, rfl⟩, by simp [ints], rfl⟩
    · obtain ⟨k, hk⟩ : ∃ k, p.length = k + 1 := ⟨p.length - 1, by have := List.length_pos_iff.2 hne; omega⟩
      rw [hk] at g3 ho
      have es : ints .u8 p ++ [.int .u8 ((n % 128 + 128 : Nat) : Int)] = ints .u8 (p ++ [((n % 128 + 128 : Nat) : Int)]) := by simp [ints]
      simp -implicitDefEqProofs (disch := omega) [g0, g3, ht, hlo, ho, hge, convV, wu8, hor, hfd, blit1, getObj_last, set_last, hk]
      exact ⟨n / 128, hlt, hle, by omega, p ++ [((n % 128 + 128 : Nat) : Int)], hp', by simp, ⟨by simp [hk], by simp [hk]⟩, by simp, by simp [hk]⟩)
noncomputable def k_RGet : Ab.Spec := con2 (ofInts .u8) (ofInt .i64) fun l a _ => bnd l.length 140737488355328 (if b8 l = true then getVR l a else none)
noncomputable def T_RGet : CallF := withF T_VPut 46 k_RGet
theorem T_RGet_ok : CallOk Try.prog T_RGet := con_of (A := annOf [] [] [] false []) fit T_VPut_ok (fn := Try.f46) (by kernel_rfl) (by kernel_rfl) (by
  intro args objs r h0
  obtain ⟨v, _, l, a, rfl, ha, hb, hR⟩ := con2_inv h0
  obtain rfl := ofInt_inv hb
  obtain ⟨hl, hR⟩ := bnd_inv hR
  split at hR
  case isFalse => cases hR
  rename_i hb8
  cases hR
  obtain ⟨vd, vn, vi, -⟩ := bs ha
  have hby := b8_bytes hb8
  refine .go _ rfl rfl ?_
  by_cases hn : a < 0
  · have e : M.getR l a = (0, 0, 1) := by unfold M.getR; rw [if_pos (.inl hn)]
    simp (disch := omega) [vn, hn, e]
  by_cases hb2 : (l.length : Int) < a
  · have e : M.getR l a = (0, 0, 1) := by unfold M.getR; rw [if_pos (.inr hb2)]
    simp (disch := omega) [vn, hn, hb2, e]
  obtain ⟨A, rfl⟩ := Int.eq_ofNat_of_zero_le (show 0 ≤ a by omega)
  have hz := resG_zero (b := l) (a := A) (by omega)
  obtain ⟨R, hR⟩ : ∃ R, R = M.getR l A := ⟨_, rfl⟩
  rw [← hR] at hz ⊢
  have hnn : ¬ (A : Int) < 0 := hn
  simp (disch := omega) [vn, hb2]
  refine .up 10 (fun i s => s.env 0 = v ∧ s.env 1 = .int .i64 A ∧ s.env 9 = .int .i64 (A + i) ∧ i ≤ 9 ∧ s.toks = [] ∧ s.objs = objs ∧ s.low = objs.length ∧ s.env 8 = .int .u64 (2 ^ (7 * i)) ∧ ∃ u, s.env 7 = .int .u64 u ∧ 0 ≤ u ∧ u < 2 ^ (7 * i) ∧ resG l A i u = R) (by simpa using hz) ?_
  rintro i s hi ⟨g0, g1, g9, hi9, ht, ho, hlo, g8, u, g7, hu0, hu1, hres⟩
  rcases Nat.lt_or_ge (A + i) l.length with h | h
  case inr =>
    rw [resG_end h] at hres
    subst hres
    simp -implicitDefEqProofs (disch := omega) [g0, g1, g8, g9, g7, ht, ho, hlo, vn]
  have e1 := vi .i64 ((A : Int) + i) (by omega) (by omega)
  rw [toNat_add] at e1
  have hc := hby _ (nth_mem h)
  have hw := @resG_wide l A i u h
  have hm := @resG_more l A i u h
  have hf := @resG_form l A i u h
  have hd := @resG_done l A i u h
  have en := of_get (ints_nth (k := .u8) h)
  have en0 := ints_nth (k := .u8) h
  obtain ⟨c, hcc⟩ : ∃ c, c = nth l (A + i) := ⟨_, rfl⟩
  rw [← hcc] at hc hw hm hf hd en en0
  have wcu : IntKind.u64.wrap c = c := wrap_u64 (by omega) (by omega)
  have wd : IntKind.i64.wrap ((A : Int) + i - A) = i := by rw [wrap_small (by omega) (by omega)]; omega
  have ht128 : c.tmod 128 = c % 128 := Int.tmod_eq_emod_of_nonneg hc.1
  have wi : IntKind.i64.wrap ((A : Int) + i + 1) = (A : Int) + (i + 1) := by rw [wrap_small (by omega) (by omega)]; omega
  have wi2 : IntKind.i64.wrap ((A : Int) + i + 1) = (A : Int) + i + 1 := wrap_small (by omega) (by omega)
  by_cases h9 : i = 9 ∧ c > 1
  · have e := hw h9
    rw [hres] at e
    subst e
    obtain ⟨h9i, h91⟩ := h9
    simp -implicitDefEqProofs (disch := omega) [g0, g1, g8, g9, g7, ht, ho, hlo, vn, wd, e1, en, en0, convV, wcu, h91]
  obtain ⟨f0, f1, f2, f3⟩ := fitG hi9 h9 hc.1 hc.2 hu0 hu1
  have wsh : IntKind.u64.wrap (c % 128 * 2 ^ (7 * i)) = c % 128 * 2 ^ (7 * i) := wrap_u64 f0 (by omega)
  have wad : IntKind.u64.wrap (u + c % 128 * 2 ^ (7 * i)) = u + c % 128 * 2 ^ (7 * i) := wrap_u64 (by omega) (by omega)
  by_cases h128 : c ≥ 128
  · have e := hm h9 h128 hc.2
    rw [hres] at e
    have hi99 : i ≠ 9 := fun q => h9 ⟨q, by omega⟩
    have hlt : ¬ c < 128 := by omega
    have hp : (2 : Int) ^ (7 * (i + 1)) = 2 ^ (7 * i) * 128 := by rw [Nat.mul_add, Int.pow_add]; rfl
    have hpb : (2 : Int) ^ (7 * (i + 1)) ≤ 2 ^ 63 := M.ipow_le (by decide) (by omega)
    have hpp : (0 : Int) < 2 ^ (7 * (i + 1)) := Int.pow_pos (by decide)
    have ww : IntKind.u64.wrap (2 ^ (7 * i) * 128) = 2 ^ (7 * (i + 1)) := by rw [← hp]; exact wrap_u64 (by omega) (by omega)
    simp -implicitDefEqProofs (disch := omega) [g0, g1, g8, g9, g7, ht, ho, hlo, vn, wd, e1, en, en0, convV, wcu, ht128, wsh, wad, wi, ww, hlt]
    exact ⟨by omega, by omega, by omega, f3 (.inr trivial), e.symm⟩
  have hlt : c < 128 := by omega
  by_cases hz0 : c = 0 ∧ 0 < i
  · have e := hf hz0.1 hz0.2
    rw [hres] at e
    subst e
    obtain ⟨hz1, hz2⟩ := hz0
    have hgt : (A : Int) + i > A := by omega
    by_cases hi9 : i = 9
    · simp -implicitDefEqProofs (disch := omega) [g0, g1, g8, g9, g7, ht, ho, hlo, vn, wd, e1, en, en0, convV, wcu, ht128, wsh, wad, hlt, hgt]
    · simp -implicitDefEqProofs (disch := omega) [g0, g1, g8, g9, g7, ht, ho, hlo, vn, wd, e1, en, en0, convV, wcu, ht128, wsh, wad, hlt, hgt]
  · have e := hd h9 h128 hc.1 hz0
    rw [hres] at e
    subst e
    by_cases hi9 : i = 9
    · have hc1 : ¬ c > 1 := fun q => h9 ⟨hi9, q⟩
      have hc0 : c ≠ 0 := fun q => hz0 ⟨q, by omega⟩
      simp -implicitDefEqProofs (disch := omega) [g0, g1, g8, g9, g7, ht, ho, hlo, vn, wd, e1, en, en0, convV, wcu, ht128, wsh, wad, wi2, hlt]
    · by_cases hc0 : c = 0
      · have hi0 : ¬ (A : Int) + i > A := by omega
        simp -implicitDefEqProofs (disch := omega) [g0, g1, g8, g9, g7, ht, ho, hlo, vn, wd, e1, en, en0, convV, wcu, ht128, wsh, wad, wi2, hlt, hi0]
      · simp -implicitDefEqProofs (disch := omega) [g0, g1, g8, g9, g7, ht, ho, hlo, vn, wd, e1, en, en0, convV, wcu, ht128, wsh, wad, wi2, hlt])
noncomputable def k_RPut : Ab.Spec := con1 (ofInt .u64) fun u _ => putVR u
noncomputable def T_RPut : CallF := withF T_RGet 38 k_RPut
theorem T_RPut_ok : CallOk Try.prog T_RPut := con_of (A := annOf [] [4,13,20] [] false []) fit T_RGet_ok (fn := Try.f38) (by kernel_rfl) (by kernel_rfl) (by
  intro args objs r h0
  obtain ⟨_, u0, rfl, hb, hR⟩ := con1_inv h0
  obtain rfl := ofInt_inv hb
  unfold putVR at hR
  split at hR
  case isFalse => cases hR
  rename_i hu
  obtain ⟨hu0, hu1⟩ := hu
  cases hR
  obtain ⟨U, rfl⟩ := Int.eq_ofNat_of_zero_le hu0
  rw [Int.toNat_natCast]
  have hlen := M.putL_len10 (u := U) (by omega)
  obtain ⟨W, hW⟩ : ∃ W, W = M.putL U := ⟨_, rfl⟩
  rw [← hW] at hlen ⊢
  refine .go _ rfl rfl ?_
  simp [blit0]
  obtain ⟨I, hI⟩ : ∃ I : Nat → St → Prop, I = (fun (n : Nat) (s : St) => n ≤ U ∧ s.env 0 = .int .u64 n ∧ s.toks = [] ∧ s.low = objs.length ∧ ∃ p, p ++ M.putL n = W ∧ s.env 3 = .ref objs.length p.length 0 p.length 1 ∧ s.objs = objs ++ [.cells (ints .u8 p) p.length]) := ⟨_, rfl⟩
  refine .dn U I (by rw [hI]; exact ⟨Nat.le_refl _, by simp, by simp, by simp, [], by simp [hW], by simp, by simp [ints_nil]⟩) ?_
  intro n s hs
  rw [hI] at hs
  obtain ⟨hnU, g0, ht, hlo, p, hp, h3, ho⟩ := hs
  have hpl := congrArg List.length hp
  rw [List.length_append] at hpl
  have hpos := M.putL_pos n
  by_cases hlt : n < 128
  · have hge : ¬ (127 : Int) < (n : Int) := by omega
    have wu8 : IntKind.u8.wrap (n : Int) = n := wrap_u8 (by omega) (by omega)
    rw [M.putL_small hlt] at hp
    have es : ints .u8 p ++ [.int .u8 (n : Int)] = ints .u8 W := by rw [← hp]; simp [ints]
    have hWl : W.length = p.length + 1 := by rw [← hp]; simp
    simp -implicitDefEqProofs (disch := omega) [g0, h3, ht, hlo, ho, hge, convV, wu8, blit1, getObj_last, set_last, es, hWl, Nat.mod_one]
  · have hge : (127 : Int) < (n : Int) := by omega
    have wr : (n : Int).tmod 128 = ((n % 128 : Nat) : Int) := by rw [Int.tmod_eq_emod_of_nonneg (by omega)]; omega
    have wa : IntKind.u64.wrap (((n % 128 : Nat) : Int) + 128) = ((n % 128 + 128 : Nat) : Int) := by rw [wrap_u64 (by omega) (by omega)]; omega
    have wu8 : IntKind.u8.wrap ((n % 128 + 128 : Nat) : Int) = ((n % 128 + 128 : Nat) : Int) := wrap_u8 (by omega) (by omega)
    have wq : IntKind.u64.wrap ((n : Int).tdiv 128) = ((n / 128 : Nat) : Int) := by rw [Int.tdiv_eq_ediv_of_nonneg (by omega), wrap_u64 (by omega) (by omega)]; omega
    have h0 : ((n : Int).tdiv 128) = ((n / 128 : Nat) : Int) := by rw [Int.tdiv_eq_ediv_of_nonneg (by omega)]; omega
    rw [M.putL_big hlt] at hp
    obtain ⟨c, hc⟩ : ∃ c : Int, c = ((n % 128 + 128 : Nat) : Int) := ⟨_, rfl⟩
    obtain ⟨m, hm⟩ : ∃ m : Nat, m = n % 128 := ⟨_, rfl⟩
    obtain ⟨q, hq⟩ : ∃ q : Nat, q = n / 128 := ⟨_, rfl⟩
    have hqn : q < n := by omega
    have hp' : (p ++ [c]) ++ M.putL q = W := by rw [hc, hq, ← hp]; simp
    rw [← hc] at wa wu8
    rw [← hm] at wr wa
    rw [← hq] at wq
    have wq2 : IntKind.u64.wrap ((n : Int) / 128) = (q : Int) := by rw [wrap_u64 (by omega) (by omega)]; omega
    simp -implicitDefEqProofs (disch := omega) [g0, h3, ht, hlo, ho, hge, convV, wr, wa, wu8, wq, wq2, blit1, getObj_last, set_last, Nat.mod_one]
    rw [hI]
    exact ⟨q, hqn, by omega, by simp, by simp, by simp, p ++ [c], hp', by simp, by simp [ints]⟩)
end Go.Proofs.Ytpfkebjjbhnehaa.B
set_option maxRecDepth 20000
set_option maxHeartbeats 1000000
namespace Go.Proofs.Ytpfkebjjbhnehaa.B
open Go Go.Ab
def isNils : V → Bool | .nils => true | _ => false
theorem srcR {objs : List AO} {v : V} {l : List Int} (h : ofIntsR .u8 objs v = some l) (e : TypeId) : srcOf (.slice e) objs 1 v = some (ints .u8 l) := by
  rcases ofIntsR_inv h with h | ⟨id, ver, off, cs, rfl, hg, hrow, hfit⟩
  · obtain ⟨-, -, -, va, -⟩ := bs h
    exact va objs e
  · simp [srcOf, rowOf, hg, hrow, hfit]
theorem cutR {objs : List AO} {v : V} {l : List Int} (h : ofIntsR .u8 objs v = some l) (lo hi mx : Option V) (a b : Nat) (ha : boundV lo 0 = some a) (hb : boundV hi l.length = some b) (hab : a ≤ b) (hl : b ≤ l.length) (hm : mx = none ∨ hi.isSome = true ∧ boundV mx 0 = some b) :
    ∃ w, (∀ O, cutV Try.prog 23 O v lo hi mx = some w) ∧ ofIntsR .u8 objs w = some ((l.take b).drop a) ∧ isNils w = isNils v ∧ demote w = w ∧ ntup w = some w := by
  have hmx : mx.isNone = true ∨ hi.isSome = true ∧ boundV mx 0 = some b := hm.imp (fun q => by rw [q]; rfl) id
  rcases ofIntsR_inv h with h | ⟨id, ver, off, cs, rfl, hg, hrow, hfit⟩
  · rcases ofInts_inv h with rfl | ⟨rfl, h1, h2⟩
    · refine ⟨.lst .frozen (ints .u8 ((l.take b).drop a)) (b - a), fun O => ?_, ?_, rfl, rfl, rfl⟩
      · simp [-boundV, cutV, sliceV, ha, hb, hab, hl, hmx, ints_take, ints_drop]
        exact fun q => hm.resolve_left q
      · exact ofIntsR_of (ofInts_lst (by simp; omega))
    · have hl0 : l = [] := List.eq_nil_of_length_eq_zero h2
      subst hl0
      obtain rfl : b = 0 := by simpa using hl
      obtain rfl : a = 0 := by omega
      refine ⟨.nils, fun O => ?_, by simp [ofIntsR, ofInts], rfl, rfl, rfl⟩
      have hb0 : boundV hi 0 = some 0 := hb
      simp [-boundV, cutV, sliceV, ha, hb0, hmx]
      exact fun q => hm.resolve_left q
  · refine ⟨.ref id ver (off + a) (b - a) 1, fun O => ?_, ?_, rfl, rfl, rfl⟩
    · simp [-boundV, cutV, sliceV, ha, hb, hab, hl, hmx]
      exact fun q => hm.resolve_left q
    · have e : (cs.drop (off + a)).take (b - a) = ints .u8 ((l.take b).drop a) := by
        rw [← ints_drop, ← ints_take, ← hrow, List.take_take, Nat.min_eq_left hl, List.drop_take, List.drop_drop]
      simp only [ofIntsR, hg, e, ofCellsI_ints, Option.bind_some]
      rw [if_pos ⟨by simp; omega, by omega⟩]
theorem ofIntsR_app {objs m : List AO} {v : V} {l : List Int} (h : ofIntsR .u8 objs v = some l) : ofIntsR .u8 (objs ++ m) v = some l := by
  rcases ofIntsR_inv h with h | ⟨id, ver, off, cs, rfl, hg, hrow, hfit⟩
  · exact ofIntsR_of h
  · have hg2 := getObj_app (m := m) (v := ver) (getObj_lt hg)
    rw [hg] at hg2
    simp only [ofIntsR, hg2, hrow, ofCellsI_ints, Option.bind_some]
    rw [if_pos ⟨trivial, hfit⟩]
noncomputable def k_CloneR : Ab.Spec := con1 some fun v objs => match ofIntsR .u8 objs v with | some l => bnd l.length 140737488355300 (some (if isNils v = true then .nils else .lst (.fresh 1 true) (ints .u8 l) l.length, none)) | none => none
noncomputable def T_CloneR : CallF := withF T_RPut 43 k_CloneR
theorem T_CloneR_ok : CallOk Try.prog T_CloneR := con_of (A := annOf [] [5,7] [] false []) fit T_RPut_ok (fn := Try.f43) (by kernel_rfl) (by kernel_rfl) (by
  intro args objs r h0
  obtain ⟨v, _, rfl, hv, hR⟩ := con1_inv h0
  cases hv
  split at hR
  case h_2 => cases hR
  rename_i l ha
  obtain ⟨hl, hR⟩ := bnd_inv hR
  cases hR
  obtain ⟨_, vd, vn, -⟩ := bsR ha
  have hsrc := fun m => srcR (objs := objs ++ [.cells [] m]) (v := v) (l := l)
  refine .go _ rfl rfl ?_
  rcases ofIntsR_inv ha with h | ⟨id, ver, off, cs, rfl, hg, hrow, hfit⟩
  · rcases ofInts_inv h with rfl | ⟨rfl, h1, h2⟩
    · simp (disch := omega) [nilFit, nilEq, blit0, Nat.mod_one, isNils]
    · simp [nilFit, nilEq, isNils]
  · have hid := getObj_lt hg
    have hg2 := getObj_app (m := [.cells [] 0]) (v := ver) hid
    rw [hg] at hg2
    simp (disch := omega) [nilFit, nilEq, blit0, Nat.mod_one, isNils, hg2, hrow, hfit])

end Go.Proofs.Ytpfkebjjbhnehaa.B
set_option maxRecDepth 20000
set_option maxHeartbeats 1000000
namespace Go.Proofs.Ytpfkebjjbhnehaa.B
open Go Go.Ab
/-! a key's hash -/
def hstep (h c : Int) : Int := IntKind.u64.wrap (Go.bits .xor .u64 h (IntKind.u64.wrap c) * 1099511628211)
def hashZ (l : List Int) : Int := l.foldl hstep 14695981039346656037
theorem hash_take {l : List Int} {i : Nat} (h : i < l.length) : (l.take (i + 1)).foldl hstep 14695981039346656037 = IntKind.u64.wrap (Go.bits .xor .u64 ((l.take i).foldl hstep 14695981039346656037) (IntKind.u64.wrap (nth l i)) * 1099511628211) := by
  rw [List.take_succ_eq_append_getElem h, List.foldl_append, nth_lt h]; rfl
noncomputable def k_Hash : Ab.Spec := con1 some fun v objs => match ofIntsR .u8 objs v with | some l => bnd l.length 140737488355328 (some (.int .u64 (hashZ l), none)) | none => none
noncomputable def T_Hash : CallF := withF T_CloneR 20 k_Hash
theorem T_Hash_ok : CallOk Try.prog T_Hash := con_of (A := annOf [] [] [] false []) fit T_CloneR_ok (fn := Try.f20) (by kernel_rfl) (by kernel_rfl) (by
  intro args objs r h0
  obtain ⟨v, _, rfl, hv, hR⟩ := con1_inv h0
  cases hv
  split at hR
  case h_2 => cases hR
  rename_i l ha
  obtain ⟨hl, hR⟩ := bnd_inv hR
  cases hR
  obtain ⟨pa, vd, vn, vi, vl⟩ := bsR ha
  refine .go _ rfl rfl ?_
  simp (disch := omega) [vd, vn]
  obtain ⟨I, hI⟩ : ∃ I : Nat → St → Prop, I = (fun (i : Nat) (z : St) => z.env 6 = v ∧ z.env 7 = .int .i64 l.length ∧ z.env 8 = .int .i64 i ∧ z.env 3 = .int .u64 ((l.take i).foldl hstep 14695981039346656037) ∧ z.toks = [] ∧ z.low = objs.length ∧ z.objs = objs) := ⟨_, rfl⟩
  refine .up l.length I (by rw [hI]; simp) ?_
  intro i z hi hz
  rw [hI] at hz
  obtain ⟨e6, e7, e8, e3, ht, hlo, ho⟩ := hz
  rcases Nat.lt_or_ge i l.length with h | h
  · have hs := hash_take h
    simp (disch := omega) [hI, e6, e7, e8, e3, ht, ho, hlo, vi, vl, h, wrap_small, hs, convV]
  · obtain rfl : i = l.length := by omega
    simp [e6, e7, e8, e3, ht, ho, hlo, List.take_length, hashZ])
noncomputable def k_rHash : Ab.Spec := con1 some fun v objs => match ofIntsR .u8 objs v with | some l => bnd l.length 140737488355328 (some (.int .u64 (hashZ l), none)) | none => none
noncomputable def T_rHash : CallF := withF T_Hash 21 k_rHash
theorem T_rHash_ok : CallOk Try.prog T_rHash := con_of (A := annOf [] [] [] false []) fit T_Hash_ok (fn := Try.f21) (by kernel_rfl) (by kernel_rfl) (by
  intro args objs r h0
  obtain ⟨v, _, rfl, hv, hR⟩ := con1_inv h0
  cases hv
  split at hR
  case h_2 => cases hR
  rename_i l ha
  obtain ⟨hl, hR⟩ := bnd_inv hR
  cases hR
  obtain ⟨pa, vd, vn, vi, vl⟩ := bsR ha
  refine .go _ rfl rfl ?_
  simp (disch := omega) [vd, vn]
  obtain ⟨I, hI⟩ : ∃ I : Nat → St → Prop, I = (fun (i : Nat) (z : St) => z.env 0 = v ∧ z.env 4 = .int .i64 i ∧ z.env 3 = .int .u64 ((l.take i).foldl hstep 14695981039346656037) ∧ z.toks = [] ∧ z.low = objs.length ∧ z.objs = objs) := ⟨_, rfl⟩
  refine .up l.length I (by rw [hI]; simp) ?_
  intro i z hi hz
  rw [hI] at hz
  obtain ⟨e0, e4, e3, ht, hlo, ho⟩ := hz
  rcases Nat.lt_or_ge i l.length with h | h
  · have hs := hash_take h
    simp (disch := omega) [hI, e0, e4, e3, ht, ho, hlo, vn, vi, vl, h, wrap_small, hs, convV]
  · obtain rfl : i = l.length := by omega
    simp [e0, e4, e3, ht, ho, hlo, vn, List.take_length, hashZ])

/-! bits, one by one -/
def bV (b : Bool) : List V := [.bool b]
def bD : List V → Option Bool
  | [.bool b] => some b
  | _ => none
theorem bV_len (b : Bool) : (bV b).length = 1 := rfl
theorem bD_inv (x : List V) (b : Bool) (h : bD x = some b) : x = bV b := by unfold bD at h; split at h <;> cases h; rfl
def bls (l : List Bool) : List V := l.map .bool
theorem flat_bls (l : List Bool) : flatV bV l = bls l := by
  induction l with
  | nil => rfl
  | cons a l ih => rw [flatV_cons, ih]; rfl
@[simp] theorem bls_len (l : List Bool) : (bls l).length = l.length := by simp [bls]
@[simp] theorem bls_nil : bls [] = [] := rfl
@[simp] theorem bls_snoc (l : List Bool) (b : Bool) : bls l ++ [.bool b] = bls (l ++ [b]) := by simp [bls]
@[simp] theorem bls_one (l : List Bool) : (bls l).all oneCell = true := by simp [bls]
@[simp] theorem bls_refs (l : List Bool) (b : Nat) : norefs b (bls l) = true := norefs_iff.2 fun v hv => by
  obtain ⟨a, -, rfl⟩ := List.mem_map.1 hv; rfl
theorem bls_set {l : List Bool} {i : Nat} (h : i < l.length) (b : Bool) : setCells (bls l) i [.bool b] = bls (l.set i b) := by
  unfold setCells bls
  rw [← List.map_take, ← List.map_drop, List.set_eq_take_append_cons_drop, if_pos h]
  simp
theorem bls_nth {l : List Bool} {i : Nat} (h : i < l.length) : (bls l)[i]? = some (.bool (nth l i)) := map_nth h
abbrev bR (objs : List AO) (v : V) : Option (List Bool) := recR bD 1 objs v
theorem bR_inv {objs : List AO} {v : V} {l : List Bool} (h : bR objs v = some l) : RowV objs 1 v (bls l) l.length := by have := recR_inv bV_len bD_inv h; rwa [flat_bls] at this
theorem bR_lst {objs : List AO} {l : List Bool} {n : Nat} (h : n = l.length) : bR objs (.lst .frozen (bls l) n) = some l := by rw [h, ← flat_bls]; exact recR_lst bV_len fun a _ => rfl
theorem bF {objs : List AO} {v : V} {l : List Bool} (h : bR objs v = some l) : demote v = v ∧ lenV Try.prog 27 v = some (.int .i64 l.length) ∧ (∀ (k : IntKind) (i : Nat), i < l.length → indexV Try.prog 27 v (.int k i) = some (ptAt v (bls l) i)) ∧
    (∀ i, i < l.length → loadV Try.prog 4 objs (ptAt v (bls l) i) = some (.bool (nth l i))) := by
  have w := bR_inv h
  refine ⟨w.dem, w.size u27, fun k i hi => ?_, fun i hi => ?_⟩
  · have := w.idx (P := Try.prog) u27 z4 k i (by omega) (by omega)
    rwa [Int.toNat_natCast, Nat.mul_one] at this
  · have := w.get (P := Try.prog) (t := 4) (fun cs off => by simp) (bls_nth hi)
    simpa using this
theorem lit1b (b : Bool) : listV Try.prog 27 1 [(0, .bool b)] = some ([.bool b], 1) := by simp [listV, fillV, zeros, setCells]
theorem lit0b : listV Try.prog 27 0 [] = some ([], 1) := by simp [listV, fillV, zeros]
/-- A key's bits. -/
def pA (h : Int) : Int := h % 4294967296
def pB (h : Int) : Int := if h / 4294967296 % 2 = 0 then h / 4294967296 + 1 else h / 4294967296
def plZ (h i m : Int) : Int := IntKind.u64.wrap (pA h + IntKind.u64.wrap (i * pB h)) % m
theorem u64_lt (n : Int) : 0 ≤ IntKind.u64.wrap n ∧ IntKind.u64.wrap n < 18446744073709551616 := by
  simp only [IntKind.wrap, IntKind.bits, IntKind.signed]
  have h1 : (0 : Int) < 2 ^ 64 := by decide
  have := Int.emod_nonneg n (Int.ne_of_gt h1)
  have := Int.emod_lt_of_pos n h1
  constructor
  · simpa using ‹0 ≤ n % 2 ^ 64›
  · simpa using ‹n % 2 ^ 64 < 2 ^ 64›
theorem wu {n : Int} (h : 0 ≤ n) (h2 : n < 18446744073709551616) : IntKind.u64.wrap n = n := by
  simp only [IntKind.wrap, IntKind.bits, IntKind.signed]
  have e : n % 2 ^ 64 = n := Int.emod_eq_of_lt h (by simpa using h2)
  simpa using e
theorem hash_u64 (l : List Int) : 0 ≤ hashZ l ∧ hashZ l < 18446744073709551616 := by
  unfold hashZ
  rcases List.eq_nil_or_concat l with rfl | ⟨l', c, rfl⟩
  · decide
  · rw [List.concat_eq_append, List.foldl_append]; exact u64_lt _
theorem plZ_lt {h i m : Int} (hm : 0 < m) : 0 ≤ plZ h i m ∧ plZ h i m < m := ⟨Int.emod_nonneg _ (by omega), Int.emod_lt_of_pos _ hm⟩
noncomputable def k_place : Ab.Spec := con3 some (ofInt .i64) (ofInt .i64) fun v i m objs => match ofIntsR .u8 objs v with | some l => bnd l.length 140737488355328 (if 0 ≤ i ∧ i < 6 ∧ 0 < m ∧ m < 140737488355328 then some (.int .i64 (plZ (hashZ l) i m), none) else none) | none => none
noncomputable def T_place : CallF := withF T_rHash 33 k_place
theorem T_place_ok : CallOk Try.prog T_place := con_of (A := annOf [] [] [] false []) fit T_rHash_ok (fn := Try.f33) (by kernel_rfl) (by kernel_rfl) (by
  intro args objs r h0
  have c_rHash : ∀ a o, T_rHash 21 a o = k_rHash a o := fun _ _ => rfl
  obtain ⟨v, _, _, _, i, m, rfl, hv, hi, hm, hR⟩ := con3_inv h0
  cases hv
  obtain rfl := ofInt_inv hi
  obtain rfl := ofInt_inv hm
  split at hR
  case h_2 => cases hR
  rename_i l ha
  obtain ⟨hl, hR⟩ := bnd_inv hR
  split at hR
  case isFalse => cases hR
  rename_i hc
  cases hR
  obtain ⟨pa, vd, vn, vi, vl⟩ := bsR ha
  obtain ⟨H, hH⟩ : ∃ H, H = hashZ l := ⟨_, rfl⟩
  obtain ⟨k1, k2⟩ := hash_u64 l
  rw [← hH] at k1 k2
  have t1 : H.tmod 4294967296 = H % 4294967296 := Int.tmod_eq_emod_of_nonneg k1
  have t2 : H.tdiv 4294967296 = H / 4294967296 := Int.tdiv_eq_ediv_of_nonneg k1
  have t3 : (H / 4294967296).tmod 2 = H / 4294967296 % 2 := Int.tmod_eq_emod_of_nonneg (by omega)
  have wi : IntKind.u64.wrap i = i := wu (by omega) (by omega)
  have wm : IntKind.u64.wrap m = m := wu (by omega) (by omega)
  have w1 : IntKind.u64.wrap (H % 4294967296) = H % 4294967296 := wu (by omega) (by omega)
  have w2 : IntKind.u64.wrap (H / 4294967296) = H / 4294967296 := wu (by omega) (by omega)
  have w3 : IntKind.u64.wrap (H / 4294967296 % 2) = H / 4294967296 % 2 := wu (by omega) (by omega)
  have w4 : IntKind.u64.wrap (H / 4294967296 + 1) = H / 4294967296 + 1 := wu (by omega) (by omega)
  obtain ⟨X, hX⟩ : ∃ X, X = plZ H i m := ⟨_, rfl⟩
  obtain ⟨x1, x2⟩ := plZ_lt (h := H) (i := i) (m := m) (by omega)
  rw [← hX] at x1 x2
  have wx : IntKind.u64.wrap X = X := wu (by omega) (by omega)
  have wx2 : IntKind.i64.wrap X = X := wrap_small (by omega) (by omega)
  have hmn : ¬ m = 0 := by omega
  have tm : ∀ z, (IntKind.u64.wrap z).tmod m = IntKind.u64.wrap z % m := fun z => Int.tmod_eq_emod_of_nonneg (u64_lt z).1
  refine .go _ rfl rfl ?_
  by_cases hb : H / 4294967296 % 2 = 0
  · have hX2 : X = IntKind.u64.wrap (H % 4294967296 + IntKind.u64.wrap (i * (H / 4294967296 + 1))) % m := by rw [hX, plZ, pA, pB, if_pos hb]
    simp -implicitDefEqProofs (disch := omega) [vd, ha, c_rHash, k_rHash, ← hH, t1, t2, t3, wi, wm, w1, w2, w3, w4, hb, convV, hmn, tm, ← hX2, wx, wx2, ← hX]
  · have hb2 : H / 4294967296 % 2 = 1 := by omega
    have hX2 : X = IntKind.u64.wrap (H % 4294967296 + IntKind.u64.wrap (i * (H / 4294967296))) % m := by rw [hX, plZ, pA, pB, if_neg hb]
    simp -implicitDefEqProofs (disch := omega) [vd, ha, c_rHash, k_rHash, ← hH, t1, t2, t3, wi, wm, w1, w2, w3, w4, hb2, convV, hmn, tm, ← hX2, wx, wx2, ← hX])

end Go.Proofs.Ytpfkebjjbhnehaa.B
set_option maxRecDepth 20000
set_option maxHeartbeats 1000000
namespace Go.Proofs.Ytpfkebjjbhnehaa.B
open Go Go.Ab
/-! the document's filter -/
def clampN (n : Int) : Int := if n < 0 then 0 else if 4096 < n then 4096 else n
def mB (n : Int) : Nat := ((max (10 * clampN n) 64 + 7) / 8).toNat
theorem clampN_le (n : Int) : 0 ≤ clampN n ∧ clampN n ≤ 4096 := by unfold clampN; split <;> (try split) <;> omega
theorem mB_le (n : Int) : 8 ≤ mB n ∧ mB n ≤ 5120 := by have := clampN_le n; unfold mB; omega
def noB (k : Nat) : List Bool := List.replicate k false
theorem noB_succ (k : Nat) : noB (k + 1) = noB k ++ [false] := by simp [noB, List.replicate_succ']
theorem noB_len (k : Nat) : (noB k).length = k := by simp [noB]
noncomputable def k_rNew : Ab.Spec := con1 (ofInt .i64) fun n _ => some (.lst (.fresh 1 false) (bls (noB (8 * mB n))) (8 * mB n), none)
noncomputable def T_rNew : CallF := withF T_place 9 k_rNew
theorem T_rNew_ok : CallOk Try.prog T_rNew := con_of (A := annOf [9] [] [] false []) fit T_place_ok (fn := Try.f9) (by kernel_rfl) (by kernel_rfl) (by
  intro args objs r h0
  obtain ⟨_, n, rfl, hn, hR⟩ := con1_inv h0
  obtain rfl := ofInt_inv hn
  cases hR
  have hm := mB_le n
  obtain ⟨c1, c2⟩ := clampN_le n
  obtain ⟨N, hN⟩ : ∃ N, N = clampN n := ⟨_, rfl⟩
  obtain ⟨M, hM⟩ : ∃ M, M = mB n := ⟨_, rfl⟩
  have hMN : M = ((max (10 * N) 64 + 7) / 8).toNat := by rw [hM, hN, mB]
  rw [← hN] at c1 c2
  rw [← hM] at hm ⊢
  have w10 : IntKind.i64.wrap (10 * N) = 10 * N := wrap_small (by omega) (by omega)
  have hcase : (n < 0 ∧ N = 0) ∨ (¬ n < 0 ∧ 4096 < n ∧ N = 4096) ∨ (¬ n < 0 ∧ ¬ 4096 < n ∧ N = n) := by
    rw [hN]; unfold clampN
    by_cases h1 : n < 0
    · left; rw [if_pos h1]; exact ⟨h1, rfl⟩
    · by_cases h2 : 4096 < n
      · right; left; rw [if_neg h1, if_pos h2]; exact ⟨h1, h2, rfl⟩
      · right; right; rw [if_neg h1, if_neg h2]; exact ⟨h1, h2, rfl⟩
  obtain ⟨I, hI⟩ : ∃ I : Nat → St → Prop, I = (fun (i : Nat) (z : St) => z.env 0 = .int .i64 N ∧ z.env 3 = .lst (.tok 0 1) (bls (noB (8 * i))) (8 * i) ∧ z.toks = [8 * i] ∧ z.low = objs.length ∧ z.objs = objs) := ⟨_, rfl⟩
  clear hN hM
  refine .go _ rfl rfl ?_
  rcases hcase with ⟨h1, h2⟩ | ⟨h1, h2, h3⟩ | ⟨h1, h2, h3⟩
  · simp (disch := omega) [h1, lit0b]
    refine .up M I (by rw [hI]; exact ⟨by simp [h2], by simp [noB], rfl, rfl, rfl⟩) ?_
    intro i z hi hz
    rw [hI] at hz
    obtain ⟨e0, e3, ht, hlo, ho⟩ := hz
    have key : (8 * (i : Int) < 64 ∨ 8 * (i : Int) < 10 * N) ↔ i < M := by omega
    have hl8 : (noB (8 * i)).length = 8 * i := noB_len _
    have ec : ((8 * i : Nat) : Int) = 8 * (i : Int) := by omega
    rcases Nat.lt_or_ge i M with h | h
    · have hk := key.2 h
      obtain ⟨J, hJ⟩ : ∃ J : Nat → St → Prop, J = (fun (j : Nat) (z : St) => z.env 0 = .int .i64 N ∧ z.env 3 = .lst (.tok 0 1) (bls (noB (8 * i + j))) (8 * i + j) ∧ z.env 4 = .int .i64 j ∧ z.toks = [8 * i + j] ∧ z.low = objs.length ∧ z.objs = objs) := ⟨_, rfl⟩
      by_cases q : 8 * (i : Int) < 64
      · simp (disch := omega) [e0, e3, ht, hlo, ho, w10, q, hl8, ec]
        refine .up 8 J (by rw [hJ]; exact ⟨by simp [e0], by simp [e3], by simp, by simp [ht], by simp [hlo], by simp [ho]⟩) ?_
        intro j z hj hz
        rw [hJ] at hz
        obtain ⟨f0, f3, f4, ft, flo, fo⟩ := hz
        have hlj : (noB (8 * i + j)).length = 8 * i + j := noB_len _
        rcases Nat.lt_or_ge j 8 with g | g
        · have gz : (j : Int) < 8 := by omega
          have hsn := noB_succ (8 * i + j)
          simp (disch := omega) [f0, f3, f4, ft, flo, fo, gz, lit1b, hlj, wrap_small, Nat.mod_one, ← hsn, Nat.add_assoc]
          rw [hJ]
          exact ⟨g, by simp [f0], by simp, by simp, by simp, by simp, by simp⟩
        · obtain rfl : j = 8 := by omega
          simp (disch := omega) [f0, f3, f4, ft, flo, fo]
          rw [hI]
          exact ⟨h, by simp [f0], by simp [f3, Nat.mul_add], by simp [Nat.mul_add], by simp, by simp⟩
      · exfalso; omega
    · obtain rfl : i = M := by omega
      have k1 : ¬ (8 * (i : Int) < 64) := by omega
      have k2 : ¬ (8 * (i : Int) < 10 * N) := by omega
      simp (disch := omega) [e0, e3, ht, hlo, ho, w10, k1, k2, hl8, ec]
  · simp (disch := omega) [h1, h2, lit0b]
    refine .up M I (by rw [hI]; exact ⟨by simp [h3], by simp [noB], rfl, rfl, rfl⟩) ?_
    intro i z hi hz
    rw [hI] at hz
    obtain ⟨e0, e3, ht, hlo, ho⟩ := hz
    have key : (8 * (i : Int) < 64 ∨ 8 * (i : Int) < 10 * N) ↔ i < M := by omega
    have hl8 : (noB (8 * i)).length = 8 * i := noB_len _
    have ec : ((8 * i : Nat) : Int) = 8 * (i : Int) := by omega
    rcases Nat.lt_or_ge i M with h | h
    · have hk := key.2 h
      obtain ⟨J, hJ⟩ : ∃ J : Nat → St → Prop, J = (fun (j : Nat) (z : St) => z.env 0 = .int .i64 N ∧ z.env 3 = .lst (.tok 0 1) (bls (noB (8 * i + j))) (8 * i + j) ∧ z.env 4 = .int .i64 j ∧ z.toks = [8 * i + j] ∧ z.low = objs.length ∧ z.objs = objs) := ⟨_, rfl⟩
      by_cases q : 8 * (i : Int) < 64
      · simp (disch := omega) [e0, e3, ht, hlo, ho, w10, q, hl8, ec]
        refine .up 8 J (by rw [hJ]; exact ⟨by simp [e0], by simp [e3], by simp, by simp [ht], by simp [hlo], by simp [ho]⟩) ?_
        intro j z hj hz
        rw [hJ] at hz
        obtain ⟨f0, f3, f4, ft, flo, fo⟩ := hz
        have hlj : (noB (8 * i + j)).length = 8 * i + j := noB_len _
        rcases Nat.lt_or_ge j 8 with g | g
        · have gz : (j : Int) < 8 := by omega
          have hsn := noB_succ (8 * i + j)
          simp (disch := omega) [f0, f3, f4, ft, flo, fo, gz, lit1b, hlj, wrap_small, Nat.mod_one, ← hsn, Nat.add_assoc]
          rw [hJ]
          exact ⟨g, by simp [f0], by simp, by simp, by simp, by simp, by simp⟩
        · obtain rfl : j = 8 := by omega
          simp (disch := omega) [f0, f3, f4, ft, flo, fo]
          rw [hI]
          exact ⟨h, by simp [f0], by simp [f3, Nat.mul_add], by simp [Nat.mul_add], by simp, by simp⟩
      · have q2 : 8 * (i : Int) < 10 * N := by omega
        simp (disch := omega) [e0, e3, ht, hlo, ho, w10, q, q2, hl8, ec]
        refine .up 8 J (by rw [hJ]; exact ⟨by simp [e0], by simp [e3], by simp, by simp [ht], by simp [hlo], by simp [ho]⟩) ?_
        intro j z hj hz
        rw [hJ] at hz
        obtain ⟨f0, f3, f4, ft, flo, fo⟩ := hz
        have hlj : (noB (8 * i + j)).length = 8 * i + j := noB_len _
        rcases Nat.lt_or_ge j 8 with g | g
        · have gz : (j : Int) < 8 := by omega
          have hsn := noB_succ (8 * i + j)
          simp (disch := omega) [f0, f3, f4, ft, flo, fo, gz, lit1b, hlj, wrap_small, Nat.mod_one, ← hsn, Nat.add_assoc]
          rw [hJ]
          exact ⟨g, by simp [f0], by simp, by simp, by simp, by simp, by simp⟩
        · obtain rfl : j = 8 := by omega
          simp (disch := omega) [f0, f3, f4, ft, flo, fo]
          rw [hI]
          exact ⟨h, by simp [f0], by simp [f3, Nat.mul_add], by simp [Nat.mul_add], by simp, by simp⟩
    · obtain rfl : i = M := by omega
      have k1 : ¬ (8 * (i : Int) < 64) := by omega
      have k2 : ¬ (8 * (i : Int) < 10 * N) := by omega
      simp (disch := omega) [e0, e3, ht, hlo, ho, w10, k1, k2, hl8, ec]
  · simp (disch := omega) [h1, h2, lit0b]
    refine .up M I (by rw [hI]; exact ⟨by simp [h3], by simp [noB], rfl, rfl, rfl⟩) ?_
    intro i z hi hz
    rw [hI] at hz
    obtain ⟨e0, e3, ht, hlo, ho⟩ := hz
    have key : (8 * (i : Int) < 64 ∨ 8 * (i : Int) < 10 * N) ↔ i < M := by omega
    have hl8 : (noB (8 * i)).length = 8 * i := noB_len _
    have ec : ((8 * i : Nat) : Int) = 8 * (i : Int) := by omega
    rcases Nat.lt_or_ge i M with h | h
    · have hk := key.2 h
      obtain ⟨J, hJ⟩ : ∃ J : Nat → St → Prop, J = (fun (j : Nat) (z : St) => z.env 0 = .int .i64 N ∧ z.env 3 = .lst (.tok 0 1) (bls (noB (8 * i + j))) (8 * i + j) ∧ z.env 4 = .int .i64 j ∧ z.toks = [8 * i + j] ∧ z.low = objs.length ∧ z.objs = objs) := ⟨_, rfl⟩
      by_cases q : 8 * (i : Int) < 64
      · simp (disch := omega) [e0, e3, ht, hlo, ho, w10, q, hl8, ec]
        refine .up 8 J (by rw [hJ]; exact ⟨by simp [e0], by simp [e3], by simp, by simp [ht], by simp [hlo], by simp [ho]⟩) ?_
        intro j z hj hz
        rw [hJ] at hz
        obtain ⟨f0, f3, f4, ft, flo, fo⟩ := hz
        have hlj : (noB (8 * i + j)).length = 8 * i + j := noB_len _
        rcases Nat.lt_or_ge j 8 with g | g
        · have gz : (j : Int) < 8 := by omega
          have hsn := noB_succ (8 * i + j)
          simp (disch := omega) [f0, f3, f4, ft, flo, fo, gz, lit1b, hlj, wrap_small, Nat.mod_one, ← hsn, Nat.add_assoc]
          rw [hJ]
          exact ⟨g, by simp [f0], by simp, by simp, by simp, by simp, by simp⟩
        · obtain rfl : j = 8 := by omega
          simp (disch := omega) [f0, f3, f4, ft, flo, fo]
          rw [hI]
          exact ⟨h, by simp [f0], by simp [f3, Nat.mul_add], by simp [Nat.mul_add], by simp, by simp⟩
      · have q2 : 8 * (i : Int) < 10 * N := by omega
        simp (disch := omega) [e0, e3, ht, hlo, ho, w10, q, q2, hl8, ec]
        refine .up 8 J (by rw [hJ]; exact ⟨by simp [e0], by simp [e3], by simp, by simp [ht], by simp [hlo], by simp [ho]⟩) ?_
        intro j z hj hz
        rw [hJ] at hz
        obtain ⟨f0, f3, f4, ft, flo, fo⟩ := hz
        have hlj : (noB (8 * i + j)).length = 8 * i + j := noB_len _
        rcases Nat.lt_or_ge j 8 with g | g
        · have gz : (j : Int) < 8 := by omega
          have hsn := noB_succ (8 * i + j)
          simp (disch := omega) [f0, f3, f4, ft, flo, fo, gz, lit1b, hlj, wrap_small, Nat.mod_one, ← hsn, Nat.add_assoc]
          rw [hJ]
          exact ⟨g, by simp [f0], by simp, by simp, by simp, by simp, by simp⟩
        · obtain rfl : j = 8 := by omega
          simp (disch := omega) [f0, f3, f4, ft, flo, fo]
          rw [hI]
          exact ⟨h, by simp [f0], by simp [f3, Nat.mul_add], by simp [Nat.mul_add], by simp, by simp⟩
    · obtain rfl : i = M := by omega
      have k1 : ¬ (8 * (i : Int) < 64) := by omega
      have k2 : ¬ (8 * (i : Int) < 10 * N) := by omega
      simp (disch := omega) [e0, e3, ht, hlo, ho, w10, k1, k2, hl8, ec])

end Go.Proofs.Ytpfkebjjbhnehaa.B
set_option maxRecDepth 20000
set_option maxHeartbeats 1000000
namespace Go.Proofs.Ytpfkebjjbhnehaa.B
open Go Go.Ab
theorem bR_old {objs O : List AO} {v : V} {l : List Bool} (h : bR objs v = some l) (ho : Old objs O) : bR O v = some l := by
  have w := (bR_inv h).old ho
  rw [← flat_bls] at w
  exact w.rec bV_len fun a _ => rfl
def addB (B : List Bool) (h : Int) : Nat → List Bool
  | 0 => B
  | k + 1 => (addB B h k).set (plZ h k B.length).toNat true
theorem addB_len (B : List Bool) (h : Int) : ∀ k, (addB B h k).length = B.length
  | 0 => rfl
  | k + 1 => by simp [addB, addB_len B h k]
def hasB (B : List Bool) (h : Int) : Bool := (List.range 6).all fun k : Nat => nth B (plZ h k B.length).toNat
noncomputable def k_rAdd : Ab.Spec := con2 some some fun f v objs => match bR objs f, ofIntsR .u8 objs v with | some B, some l => bnd l.length 140737488355328 (if 0 < B.length ∧ B.length < 1099511627776 then some (.lst (.fresh 1 true) (bls (addB B (hashZ l) 6)) B.length, none) else none) | _, _ => none
noncomputable def T_rAdd : CallF := withF T_rNew 14 k_rAdd
theorem T_rAdd_ok : CallOk Try.prog T_rAdd := con_of (A := annOf [] [8,21] [] false []) fit T_rNew_ok (fn := Try.f14) (by kernel_rfl) (by kernel_rfl) (by
  intro args objs r h0
  have c_place : ∀ a o, T_rNew 33 a o = k_place a o := fun _ _ => rfl
  obtain ⟨f, v, _, _, rfl, hf, hv, hR⟩ := con2_inv h0
  cases hf; cases hv
  split at hR
  case h_2 => cases hR
  rename_i B l hB ha
  obtain ⟨hl, hR⟩ := bnd_inv hR
  split at hR
  case isFalse => cases hR
  rename_i hc
  cases hR
  obtain ⟨pa, vd, -⟩ := bsR ha
  obtain ⟨fd, fn, fi, -⟩ := bF hB
  obtain ⟨H, hH⟩ : ∃ H, H = hashZ l := ⟨_, rfl⟩
  obtain ⟨n, hn⟩ : ∃ n, n = B.length := ⟨_, rfl⟩
  rw [← hn] at hc fn fi ⊢
  rw [← hH]
  refine .go _ rfl rfl ?_
  simp (disch := omega) [fd, vd, lit0b]
  obtain ⟨I, hI⟩ : ∃ I : Nat → St → Prop, I = (fun (i : Nat) (z : St) => z.env 0 = f ∧ z.env 1 = v ∧ z.env 5 = .ref objs.length i 0 i 1 ∧ z.env 6 = .int .i64 i ∧ z.toks = [] ∧ z.low = objs.length ∧ z.objs = objs ++ [.cells (bls (B.take i)) i]) := ⟨_, rfl⟩
  refine .up n I (by rw [hI]; exact ⟨by simp, by simp, by simp, by simp, rfl, rfl, by simp⟩) ?_
  intro i z hi hz
  rw [hI] at hz
  obtain ⟨e0, e1, e5, e6, ht, hlo, ho⟩ := hz
  rcases Nat.lt_or_ge i n with h | h
  · have hib : i < B.length := by omega
    have hld := (bF (bR_old hB (Old.ext objs [.cells (bls (B.take i)) i]))).2.2.2 i hib
    have fx := fi .i64 i h
    have ht1 : (B.take i).length = i := by rw [List.length_take]; omega
    have htk : B.take i ++ [nth B i] = B.take (i + 1) := by rw [List.take_succ_eq_append_getElem hib, nth_lt hib]
    simp (disch := omega) [e0, e1, e5, e6, ht, hlo, ho, fn, h, fx, hld, lit1b, getObj_last, Nat.mod_one, wrap_small, ht1, htk]
    rw [hI]
    exact ⟨by simp [e0], by simp [e1], by simp, by simp, by simp, by simp, by simp⟩
  obtain rfl : i = n := by omega
  have hfull : B.take i = B := List.take_of_length_le (by omega)
  rw [hfull] at ho
  simp (disch := omega) [e0, e1, e5, e6, ht, hlo, ho, fn]
  obtain ⟨J, hJ⟩ : ∃ J : Nat → St → Prop, J = (fun (j : Nat) (z : St) => z.env 0 = f ∧ z.env 1 = v ∧ z.env 5 = .ref objs.length i 0 i 1 ∧ z.env 7 = .int .i64 j ∧ z.toks = [] ∧ z.low = objs.length ∧ z.objs = objs ++ [.cells (bls (addB B H j)) i]) := ⟨_, rfl⟩
  refine .up 6 J (by rw [hJ]; exact ⟨by simp [e0], by simp [e1], by simp [e5], by simp, by simp [ht], by simp [hlo], by simp [ho, addB]⟩) ?_
  intro j z hj hz
  rw [hJ] at hz
  obtain ⟨e0, e1, e5, e7, ht, hlo, ho⟩ := hz
  have hal := addB_len B H j
  rcases Nat.lt_or_ge j 6 with g | g
  · have gz : (j : Int) < 6 := by omega
    have hv2 := ofIntsR_old ha (Old.ext objs [.cells (bls (addB B H j)) i])
    obtain ⟨p1, p2⟩ := plZ_lt (h := H) (i := j) (m := i) (by omega)
    obtain ⟨p, hp⟩ := Int.eq_ofNat_of_zero_le p1
    rw [hp] at p2
    have pl : p < i := by omega
    have hset : setCells (bls (addB B H j)) p [.bool true] = bls (addB B H (j + 1)) := by
      rw [bls_set (by omega), addB, ← hn, hp]; rfl
    have hi0 : 0 < i := by omega
    have hib : i < 140737488355328 := by omega
    have hib2 : (i : Int) < 140737488355328 := by omega
    have pl1 : p + 1 ≤ i := pl
    simp (disch := omega) [e0, e1, e5, e7, ht, hlo, ho, fn, fd, vd, gz, hi0, c_place, k_place, hv2, hib, hib2, pl1, ← hH, hp, pl, hal, ← hn, getObj_last, hset, wrap_small]
    rw [hJ]
    exact ⟨g, by simp [e0], by simp [e1], by simp [e5], by simp, by simp, by simp, by simp⟩
  · obtain rfl : j = 6 := by omega
    simp (disch := omega) [e0, e1, e5, e7, ht, hlo, ho, fn, hal, ← hn, getObj_last])
noncomputable def k_rHas : Ab.Spec := con2 some some fun f v objs => match bR objs f, ofIntsR .u8 objs v with | some B, some l => bnd l.length 140737488355328 (if 0 < B.length ∧ B.length < 1099511627776 then some (.bool (hasB B (hashZ l)), none) else none) | _, _ => none
noncomputable def T_rHas : CallF := withF T_rAdd 19 k_rHas
theorem T_rHas_ok : CallOk Try.prog T_rHas := con_of (A := annOf [] [] [] false []) fit T_rAdd_ok (fn := Try.f19) (by kernel_rfl) (by kernel_rfl) (by
  intro args objs r h0
  have c_place : ∀ a o, T_rAdd 33 a o = k_place a o := fun _ _ => rfl
  obtain ⟨f, v, _, _, rfl, hf, hv, hR⟩ := con2_inv h0
  cases hf; cases hv
  split at hR
  case h_2 => cases hR
  rename_i B l hB ha
  obtain ⟨hl, hR⟩ := bnd_inv hR
  split at hR
  case isFalse => cases hR
  rename_i hc
  cases hR
  obtain ⟨pa, vd, -⟩ := bsR ha
  obtain ⟨fd, fn, fi, hld⟩ := bF hB
  obtain ⟨H, hH⟩ : ∃ H, H = hashZ l := ⟨_, rfl⟩
  obtain ⟨n, hn⟩ : ∃ n, n = B.length := ⟨_, rfl⟩
  rw [← hn] at hc fn fi hld
  rw [← hH]
  refine .go _ rfl rfl ?_
  simp (disch := omega) [fd, vd]
  obtain ⟨J, hJ⟩ : ∃ J : Nat → St → Prop, J = (fun (j : Nat) (z : St) => z.env 0 = f ∧ z.env 1 = v ∧ z.env 5 = .int .i64 j ∧ z.toks = [] ∧ z.low = objs.length ∧ z.objs = objs ∧ ∀ k, k < j → nth B (plZ H k n).toNat = true) := ⟨_, rfl⟩
  refine .up 6 J (by rw [hJ]; exact ⟨by simp, by simp, by simp, by simp, by simp, by simp, fun k hk => by omega⟩) ?_
  intro j z hj hz
  rw [hJ] at hz
  obtain ⟨e0, e1, e5, ht, hlo, ho, hk⟩ := hz
  rcases Nat.lt_or_ge j 6 with g | g
  · have gz : (j : Int) < 6 := by omega
    obtain ⟨p1, p2⟩ := plZ_lt (h := H) (i := j) (m := n) (by omega)
    obtain ⟨p, hp⟩ := Int.eq_ofNat_of_zero_le p1
    rw [hp] at p2
    have pl : p < n := by omega
    have fx := fi .i64 p pl
    have lx := hld p pl
    have hi0 : 0 < n := by omega
    have hib : n < 140737488355328 := by omega
    have hib2 : (n : Int) < 140737488355328 := by omega
    have hn0 : ¬ (n : Int) = 0 := by omega
    have hn1 : ¬ n = 0 := by omega
    cases hb : nth B p with
    | true =>
      rw [hb] at lx
      simp (disch := omega) [e0, e1, e5, ht, hlo, ho, fn, fd, vd, gz, hi0, hn0, hn1, c_place, k_place, ha, hib, hib2, ← hH, hp, fx, lx, wrap_small]
      rw [hJ]
      refine ⟨g, by simp [e0], by simp [e1], by simp, by simp, by simp, by simp, fun k hk2 => ?_⟩
      rcases Nat.lt_or_ge k j with q | q
      · exact hk k q
      · obtain rfl : k = j := by omega
        rw [hp]; exact hb
    | false =>
      rw [hb] at lx
      have hno : hasB B H = false := by
        unfold hasB
        rw [List.all_eq_false]
        exact ⟨j, by simpa using g, by rw [← hn, hp]; simp [hb]⟩
      simp (disch := omega) [e0, e1, e5, ht, hlo, ho, fn, fd, vd, gz, hi0, hn0, hn1, c_place, k_place, ha, hib, hib2, ← hH, hp, fx, lx, wrap_small, hno]
  · obtain rfl : j = 6 := by omega
    have hyes : hasB B H = true := by
      unfold hasB
      rw [List.all_eq_true]
      intro k hk2
      rw [← hn]; exact hk k (by simpa using hk2)
    simp (disch := omega) [e0, e1, e5, ht, hlo, ho, fn, hyes])
def cntB (l : List Bool) : Nat := (l.filter id).length
theorem cntB_le (l : List Bool) : cntB l ≤ l.length := List.length_filter_le _ _
theorem cntB_take {l : List Bool} {i : Nat} (h : i < l.length) : cntB (l.take (i + 1)) = cntB (l.take i) + (nth l i).toNat := by
  unfold cntB
  rw [List.take_succ_eq_append_getElem h, List.filter_append, List.length_append, nth_lt h]
  cases l[i] <;> simp
noncomputable def k_rCount : Ab.Spec := con1 some fun f objs => match bR objs f with | some B => bnd B.length 1099511627776 (some (.int .i64 (cntB B), none)) | none => none
noncomputable def T_rCount : CallF := withF T_rHas 17 k_rCount
theorem T_rCount_ok : CallOk Try.prog T_rCount := con_of (A := annOf [] [] [] false []) fit T_rHas_ok (fn := Try.f17) (by kernel_rfl) (by kernel_rfl) (by
  intro args objs r h0
  obtain ⟨f, _, rfl, hf, hR⟩ := con1_inv h0
  cases hf
  split at hR
  case h_2 => cases hR
  rename_i B hB
  obtain ⟨hl, hR⟩ := bnd_inv hR
  cases hR
  obtain ⟨fd, fn, fi, hld⟩ := bF hB
  refine .go _ rfl rfl ?_
  simp (disch := omega) [fd]
  obtain ⟨J, hJ⟩ : ∃ J : Nat → St → Prop, J = (fun (i : Nat) (z : St) => z.env 0 = f ∧ z.env 4 = .int .i64 i ∧ z.env 3 = .int .i64 (cntB (B.take i)) ∧ z.toks = [] ∧ z.low = objs.length ∧ z.objs = objs) := ⟨_, rfl⟩
  refine .up B.length J (by rw [hJ]; exact ⟨by simp, by simp, by simp [cntB], by simp, by simp, by simp⟩) ?_
  intro i z hi hz
  rw [hJ] at hz
  obtain ⟨e0, e4, e3, ht, hlo, ho⟩ := hz
  have hcl := cntB_le (B.take i)
  rw [List.length_take] at hcl
  rcases Nat.lt_or_ge i B.length with h | h
  · have fx := fi .i64 i h
    have lx := hld i h
    have hct := cntB_take h
    cases hb : nth B i with
    | true =>
      rw [hb] at lx hct
      have w : IntKind.i64.wrap ((cntB (B.take i) : Int) + 1) = (cntB (B.take i) : Int) + 1 := wrap_small (by omega) (by omega)
      simp (disch := omega) [e0, e4, e3, ht, hlo, ho, fn, fd, h, fx, lx, wrap_small, w]
      rw [hJ]
      exact ⟨by simp [e0], by simp, by simp [hct], by simp, by simp, by simp⟩
    | false =>
      rw [hb] at lx hct
      simp (disch := omega) [e0, e4, e3, ht, hlo, ho, fn, fd, h, fx, lx, wrap_small]
      rw [hJ]
      exact ⟨by simp [e0], by simp, by simp [hct, e3], by simp, by simp, by simp⟩
  · obtain rfl : i = B.length := by omega
    simp (disch := omega) [e0, e4, e3, ht, hlo, ho, fn, fd])

end Go.Proofs.Ytpfkebjjbhnehaa.B
