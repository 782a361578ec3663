import Derived.Test.YtjjldepikokogaaPxA
import Derived.Laws.BitsLemmas
set_option linter.unusedSimpArgs false
set_option linter.unusedVariables false
set_option linter.unusedSectionVars false
set_option maxRecDepth 20000
set_option maxHeartbeats 1000000
namespace Go.Proofs.Ytjjldepikokogaa.B
open Go Go.Ab
/-! numbers in few bytes, plain mathematics (turned from wip/blocks) -/
namespace M
open Go.RowKit
theorem w64 {x : Int} (h0 : -9223372036854775808 ≤ x) (h1 : x ≤ 9223372036854775807) : wrap64 x = x := by
  unfold wrap64; omega
theorem u64r (x : Int) : IntKind.u64.wrap x = x % 18446744073709551616 := by
  simp [IntKind.wrap, IntKind.bits, IntKind.signed]
theorem u32r (x : Int) : IntKind.u32.wrap x = x % 4294967296 := by
  simp [IntKind.wrap, IntKind.bits, IntKind.signed]
theorem u64w {x : Int} (h0 : 0 ≤ x) (h1 : x < 18446744073709551616) : IntKind.u64.wrap x = x := by
  rw [u64r]; omega
theorem wsucc {i : Nat} (h : i < 9223372036854775807) : wrap64 ((i : Int) + 1) = ((i + 1 : Nat) : Int) := by
  unfold wrap64; omega
theorem byteWf {x : Int} (h : (Lit.int .u8 x).wf = true) : 0 ≤ x ∧ x < 256 := by
  simp [Lit.wf, IntKind.min, IntKind.max, IntKind.signed, IntKind.bits] at h
  omega
theorem u64Wf {x : Int} (h : (Lit.int .u64 x).wf = true) : 0 ≤ x ∧ x < 18446744073709551616 := by
  simp [Lit.wf, IntKind.min, IntKind.max, IntKind.signed, IntKind.bits] at h
  omega
theorem i64Wf {x : Int} (h : (Lit.int .i64 x).wf = true) : -9223372036854775808 ≤ x ∧ x < 9223372036854775808 := by
  simp [Lit.wf, IntKind.min, IntKind.max, IntKind.signed, IntKind.bits] at h
  omega
def Bytes (l : List Int) : Prop := ∀ x ∈ l, 0 ≤ x ∧ x < 256
def U64s (l : List Int) : Prop := ∀ x ∈ l, 0 ≤ x ∧ x < 18446744073709551616
theorem bytesWf {l : List Int} (h : ∀ x ∈ l, (Lit.int .u8 x).wf = true) : Bytes l := fun x hx => byteWf (h x hx)
theorem u64sWf {l : List Int} (h : ∀ x ∈ l, (Lit.int .u64 x).wf = true) : U64s l := fun x hx => u64Wf (h x hx)
theorem Bytes.app {a b : List Int} (ha : Bytes a) (hb : Bytes b) : Bytes (a ++ b) := fun x hx => (List.mem_append.1 hx).elim (ha x) (hb x)
theorem Bytes.left {a b : List Int} (h : Bytes (a ++ b)) : Bytes a := fun x hx => h x (List.mem_append_left _ hx)
theorem Bytes.right {a b : List Int} (h : Bytes (a ++ b)) : Bytes b := fun x hx => h x (List.mem_append_right _ hx)
theorem Bytes.drop {a : List Int} (h : Bytes a) (n : Nat) : Bytes (a.drop n) := fun x hx => h x (List.mem_of_mem_drop hx)
theorem Bytes.take {a : List Int} (h : Bytes a) (n : Nat) : Bytes (a.take n) := fun x hx => h x (List.mem_of_mem_take hx)
theorem U64s.drop {a : List Int} (h : U64s a) (n : Nat) : U64s (a.drop n) := fun x hx => h x (List.mem_of_mem_drop hx)
theorem U64s.take {a : List Int} (h : U64s a) (n : Nat) : U64s (a.take n) := fun x hx => h x (List.mem_of_mem_take hx)
theorem drop_cons {l : List Int} {i : Nat} (h : i < l.length) : l.drop i = l[i] :: l.drop (i + 1) := List.drop_eq_getElem_cons h
theorem take_succ_snoc {l : List Int} {i : Nat} (h : i < l.length) : l.take (i + 1) = l.take i ++ [l[i]] := by rw [List.take_add_one, List.getElem?_eq_getElem h]; rfl
theorem pow_pos' (n : Nat) : (0 : Int) < 128 ^ n := Int.pow_pos (by decide)
theorem pow128 (n : Nat) : (128 : Int) ^ n = 2 ^ (7 * n) := by rw [Int.pow_mul]; rfl
theorem ipow_le {b : Int} (hb : 1 ≤ b) {m n : Nat} (h : m ≤ n) : b ^ m ≤ b ^ n := by
  obtain ⟨a, rfl⟩ := Int.eq_ofNat_of_zero_le (show 0 ≤ b by omega)
  exact_mod_cast Nat.pow_le_pow_right (by omega) h
theorem wraps_u64 (n : Int) (h0 : 0 ≤ n) (h1 : n < 2 ^ 64) : IntKind.u64.wrap n = n := by
  rw [u64r]; omega
theorem and127 {x : Int} (h0 : 0 ≤ x) (h1 : x < 256) : Go.bits .and .u8 x 127 = x % 128 := Go.bits_mask .u8 8 (by decide) Go.wraps_u8 7 (by decide) x h0 h1
theorem or_low {j : Nat} {x y : Int} (hx0 : 0 ≤ x) (hx : x < 2 ^ j) (hy0 : 0 ≤ y) (hb : x + y * 2 ^ j < 2 ^ 64) :
    Go.bits .or .u64 x (y * 2 ^ j) = x + y * 2 ^ j := by
  have hp : (0 : Int) < 2 ^ j := Int.pow_pos (by decide)
  obtain ⟨a, rfl⟩ := Int.eq_ofNat_of_zero_le hx0
  obtain ⟨b, rfl⟩ := Int.eq_ofNat_of_zero_le hy0
  have ha : a < 2 ^ j := by exact_mod_cast hx
  have hab : a + b * 2 ^ j < 2 ^ 64 := by exact_mod_cast hb
  have e : ((b : Int) * 2 ^ j) = ((2 ^ j * b : Nat) : Int) := by rw [Nat.mul_comm]; simp
  have hc : a + 2 ^ j * b < 2 ^ 64 := by rw [Nat.mul_comm]; exact hab
  rw [e, (Go.bits_nat .u64 64 (by decide) wraps_u64 a (2 ^ j * b) (by omega) (by omega)).2, Nat.or_comm, ← Nat.two_pow_add_eq_or_of_lt ha b]
  omega
def putL (u : Nat) : List Int := if u < 128 then [(u : Int)] else ((u % 128 + 128 : Nat) : Int) :: putL (u / 128)
theorem putL_small {u : Nat} (h : u < 128) : putL u = [(u : Int)] := by rw [putL, if_pos h]
theorem putL_big {u : Nat} (h : ¬ u < 128) : putL u = ((u % 128 + 128 : Nat) : Int) :: putL (u / 128) := by rw [putL, if_neg h]
def getL : List Int → Nat → Except Int (Int × Nat)
  | [], _ => .error 2
  | c :: r, i => if i = 9 ∧ c > 1 then .error 20 else if c ≥ 128 then (match getL r (i + 1) with | .ok (v, n) => .ok (c - 128 + 128 * v, n + 1) | .error e => .error e)
    else if c = 0 ∧ i > 0 then .error 5 else .ok (c, 1)
theorem putL_bytes (n : Nat) : ∀ u, u < n → Bytes (putL u) := by
  induction n with
  | zero => intro u h; omega
  | succ n ih =>
    intro u h
    by_cases hu : u < 128
    · rw [putL_small hu]; intro x hx; simp only [List.mem_singleton] at hx; omega
    · rw [putL_big hu]; intro x hx
      rcases List.mem_cons.1 hx with rfl | hx
      · omega
      · exact ih (u / 128) (by omega) x hx
theorem putL_pos (u : Nat) : 1 ≤ (putL u).length := by
  by_cases hu : u < 128
  · rw [putL_small hu]; simp
  · rw [putL_big hu]; simp
theorem putL_len (n : Nat) : ∀ u, u < n → u < 2 ^ (7 * (putL u).length) ∧ (2 ≤ (putL u).length → 2 ^ (7 * ((putL u).length - 1)) ≤ u) := by
  induction n with
  | zero => intro u h; omega
  | succ n ih =>
    intro u h
    by_cases hu : u < 128
    · rw [putL_small hu]; simp; omega
    · rw [putL_big hu]
      obtain ⟨h1, h2⟩ := ih (u / 128) (by omega)
      have hp := putL_pos (u / 128)
      simp only [List.length_cons, Nat.add_sub_cancel]
      have e : 2 ^ (7 * ((putL (u / 128)).length + 1)) = 2 ^ (7 * (putL (u / 128)).length) * 128 := by rw [Nat.mul_add, Nat.pow_add]
      refine ⟨by rw [e]; omega, fun _ => ?_⟩
      by_cases hl : 2 ≤ (putL (u / 128)).length
      · have h3 := h2 hl
        have e2 : 2 ^ (7 * (putL (u / 128)).length) = 2 ^ (7 * ((putL (u / 128)).length - 1)) * 128 := by
          rw [show 7 * (putL (u / 128)).length = 7 * ((putL (u / 128)).length - 1) + 7 by omega, Nat.pow_add]
        rw [e2]; omega
      · rw [show (putL (u / 128)).length = 1 by omega]; omega
theorem putL_len_le {u j : Nat} (hj : 1 ≤ j) (h : u < 2 ^ (7 * j)) : (putL u).length ≤ j := by
  obtain ⟨_, h2⟩ := putL_len (u + 1) u (by omega)
  refine Decidable.byContradiction fun hc => ?_
  have h3 := h2 (by omega)
  have : 2 ^ (7 * j) ≤ 2 ^ (7 * ((putL u).length - 1)) := Nat.pow_le_pow_right (by decide) (by omega)
  omega
theorem putL_len10 {u : Nat} (h : u < 18446744073709551616) : (putL u).length ≤ 10 :=
  putL_len_le (by decide) (Nat.lt_trans h (by decide))
theorem putL_mono {u v : Nat} (h : u ≤ v) : (putL u).length ≤ (putL v).length := by
  obtain ⟨h1, _⟩ := putL_len (v + 1) v (by omega)
  exact putL_len_le (putL_pos v) (by omega)
theorem getL_ok : ∀ (b : List Int) (i : Nat) (v : Int) (n : Nat), Bytes b → i ≤ 9 → getL b i = .ok (v, n) →
    0 ≤ v ∧ v < 2 ^ (64 - 7 * i) ∧ 1 ≤ n ∧ n ≤ b.length ∧ n + i ≤ 10 := by
  intro b
  induction b with
  | nil => intro i v n _ _ h; simp [getL] at h
  | cons c r ih =>
    intro i v n hb hi h
    have hc := hb c (List.mem_cons_self)
    have hr : Bytes r := fun x hx => hb x (List.mem_cons_of_mem _ hx)
    rw [getL] at h
    by_cases h9 : i = 9 ∧ c > 1
    · rw [if_pos h9] at h; simp at h
    rw [if_neg h9] at h
    by_cases h128 : c ≥ 128
    · rw [if_pos h128] at h
      have hi8 : i + 1 ≤ 9 := by omega
      cases hg : getL r (i + 1) with
      | error e => rw [hg] at h; simp at h
      | ok p =>
        obtain ⟨v', n'⟩ := p
        rw [hg] at h
        simp only [Except.ok.injEq, Prod.mk.injEq] at h
        obtain ⟨rfl, rfl⟩ := h
        obtain ⟨g1, g2, g3, g4, g5⟩ := ih (i + 1) v' n' hr hi8 hg
        have e : (2 : Int) ^ (64 - 7 * i) = 2 ^ (64 - 7 * (i + 1)) * 128 := by
          rw [show 64 - 7 * i = 64 - 7 * (i + 1) + 7 by omega, Int.pow_add]; rfl
        refine ⟨by omega, by rw [e]; omega, by omega, by simp only [List.length_cons]; omega, by omega⟩
    · rw [if_neg h128] at h
      by_cases h0 : c = 0 ∧ i > 0
      · rw [if_pos h0] at h; simp at h
      rw [if_neg h0] at h
      simp only [Except.ok.injEq, Prod.mk.injEq] at h
      obtain ⟨rfl, rfl⟩ := h
      refine ⟨by omega, ?_, by omega, by simp, by omega⟩
      by_cases hi9 : i = 9
      · subst hi9; have : ¬ c > 1 := fun h => h9 ⟨rfl, h⟩; simp; omega
      · have : (2 : Int) ^ 8 ≤ 2 ^ (64 - 7 * i) := ipow_le (by decide) (by omega)
        omega
theorem getL_putL (n : Nat) : ∀ (u i : Nat) (rest : List Int), u < n → i ≤ 9 → u < 2 ^ (64 - 7 * i) → (i > 0 → u > 0) → getL (putL u ++ rest) i = .ok ((u : Int), (putL u).length) := by
  induction n with
  | zero => intro u i rest h; omega
  | succ n ih =>
    intro u i rest h hi hu hp
    by_cases hs : u < 128
    · rw [putL_small hs]
      simp only [List.singleton_append, getL, List.length_singleton]
      rw [if_neg, if_neg (by omega), if_neg (by omega)]
      rintro ⟨rfl, h1⟩
      simp at hu; omega
    · rw [putL_big hs]
      simp only [List.cons_append, getL, List.length_cons]
      have hi8 : i + 1 ≤ 9 := by
        refine Decidable.byContradiction fun hc => ?_
        have : i = 9 := by omega
        subst this; simp at hu; omega
      have e : (2 : Nat) ^ (64 - 7 * i) = 2 ^ (64 - 7 * (i + 1)) * 128 := by
        rw [show 64 - 7 * i = 64 - 7 * (i + 1) + 7 by omega, Nat.pow_add]
      rw [if_neg (by omega), if_pos (by omega), ih (u / 128) (i + 1) rest (by omega) hi8 (by omega) (by omega)]
      simp only [Except.ok.injEq, Prod.mk.injEq, and_true]
      omega
theorem getL_short (n : Nat) : ∀ (u i m : Nat), u < n → i ≤ 9 → u < 2 ^ (64 - 7 * i) → m < (putL u).length → getL ((putL u).take m) i = .error 2 := by
  induction n with
  | zero => intro u i m h; omega
  | succ n ih =>
    intro u i m h hi hu hm
    cases m with
    | zero => simp [getL]
    | succ m =>
      by_cases hs : u < 128
      · rw [putL_small hs] at hm; simp at hm
      · rw [putL_big hs] at hm ⊢
        simp only [List.length_cons] at hm
        simp only [List.take_succ_cons, getL]
        have hi8 : i + 1 ≤ 9 := by
          refine Decidable.byContradiction fun hc => ?_
          have : i = 9 := by omega
          subst this; simp at hu; omega
        have e : (2 : Nat) ^ (64 - 7 * i) = 2 ^ (64 - 7 * (i + 1)) * 128 := by
          rw [show 64 - 7 * i = 64 - 7 * (i + 1) + 7 by omega, Nat.pow_add]
        rw [if_neg (by omega), if_pos (by omega), ih (u / 128) (i + 1) m (by omega) hi8 (by omega) (by omega)]
theorem getL_only : ∀ (b : List Int) (i : Nat) (v : Int) (n : Nat), Bytes b → i ≤ 9 → getL b i = .ok (v, n) → putL v.toNat = b.take n ∧ (i > 0 → 0 < v) := by
  intro b
  induction b with
  | nil => intro i v n _ _ h; simp [getL] at h
  | cons c r ih =>
    intro i v n hb hi h
    have hc := hb c (List.mem_cons_self)
    have hr : Bytes r := fun x hx => hb x (List.mem_cons_of_mem _ hx)
    rw [getL] at h
    by_cases h9 : i = 9 ∧ c > 1
    · rw [if_pos h9] at h; simp at h
    rw [if_neg h9] at h
    by_cases h128 : c ≥ 128
    · rw [if_pos h128] at h
      have hi8 : i + 1 ≤ 9 := by omega
      cases hg : getL r (i + 1) with
      | error e => rw [hg] at h; simp at h
      | ok p =>
        obtain ⟨v', n'⟩ := p
        rw [hg] at h
        simp only [Except.ok.injEq, Prod.mk.injEq] at h
        obtain ⟨rfl, rfl⟩ := h
        obtain ⟨g1, g2⟩ := ih (i + 1) v' n' hr hi8 hg
        obtain ⟨q1, _⟩ := getL_ok r (i + 1) v' n' hr hi8 hg
        have g3 := g2 (by omega)
        refine ⟨?_, fun _ => by omega⟩
        rw [putL_big (by omega), show (c - 128 + 128 * v').toNat / 128 = v'.toNat by omega, g1, List.take_succ_cons]
        congr 1; omega
    · rw [if_neg h128] at h
      by_cases h0 : c = 0 ∧ i > 0
      · rw [if_pos h0] at h; simp at h
      rw [if_neg h0] at h
      simp only [Except.ok.injEq, Prod.mk.injEq] at h
      obtain ⟨rfl, rfl⟩ := h
      refine ⟨?_, by omega⟩
      rw [putL_small (by omega)]; simp; omega
def getR (b : List Int) (at_ : Int) : Int × Int × Int :=
  if at_ < 0 ∨ at_ > b.length then (0, 0, 1) else match getL (b.drop at_.toNat) 0 with
    | .ok (v, n) => (v, at_ + n, 0)
    | .error e => (0, 0, e)
theorem getL_err : ∀ (b : List Int) (i : Nat) (e : Int), getL b i = .error e → e = 2 ∨ e = 20 ∨ e = 5 := by
  intro b
  induction b with
  | nil => intro i e h; simp only [getL, Except.error.injEq] at h; omega
  | cons c r ih =>
    intro i e h
    rw [getL] at h
    split at h
    · simp only [Except.error.injEq] at h; omega
    split at h
    · split at h
      · simp at h
      · rename_i e' hg; simp only [Except.error.injEq] at h; subst h; exact ih _ _ hg
    split at h
    · simp only [Except.error.injEq] at h; omega
    · simp at h
theorem getR_ok {b : List Int} {at_ v nx : Int} (hb : Bytes b) (h : getR b at_ = (v, nx, 0)) :
    0 ≤ at_ ∧ at_ < nx ∧ nx ≤ b.length ∧ nx ≤ at_ + 10 ∧ 0 ≤ v ∧ v < 18446744073709551616 ∧ putL v.toNat = (b.take nx.toNat).drop at_.toNat := by
  unfold getR at h
  split at h
  · simp at h
  rename_i ha
  split at h
  · rename_i v' n hg
    simp only [Prod.mk.injEq, and_true] at h
    obtain ⟨rfl, rfl⟩ := h
    obtain ⟨g1, g2, g3, g4, g5⟩ := getL_ok _ 0 _ _ (hb.drop _) (by decide) hg
    obtain ⟨q1, _⟩ := getL_only _ 0 _ _ (hb.drop _) (by decide) hg
    rw [List.length_drop] at g4
    refine ⟨by omega, by omega, by omega, by omega, g1, by simpa using g2, ?_⟩
    rw [q1, List.drop_take, show (at_ + (n : Int)).toNat - at_.toNat = n by omega]
  · rename_i e hg
    have := getL_err _ _ _ hg
    simp only [Prod.mk.injEq] at h
    omega
theorem getR_bad {b : List Int} {at_ v nx e : Int} (h : getR b at_ = (v, nx, e)) (he : e ≠ 0) : v = 0 ∧ nx = 0 := by
  unfold getR at h
  split at h
  · simp only [Prod.mk.injEq] at h; omega
  split at h
  · simp only [Prod.mk.injEq] at h; omega
  · simp only [Prod.mk.injEq] at h; omega
theorem getR_put (a c : List Int) {u : Nat} (hu : u < 18446744073709551616) : getR (a ++ putL u ++ c) (a.length : Int) = ((u : Int), (a.length : Int) + (putL u).length, 0) := by
  unfold getR
  rw [if_neg (by simp only [List.length_append]; omega), Int.toNat_natCast, List.append_assoc, List.drop_left, getL_putL (u + 1) u 0 c (by omega) (by decide) (by simpa using hu) (by omega)]
theorem getR_bad2 {b : List Int} {at_ : Int} (he : (getR b at_).2.2 ≠ 0) : (getR b at_).1 = 0 ∧ (getR b at_).2.1 = 0 := getR_bad (b := b) (at_ := at_) (v := (getR b at_).1) (nx := (getR b at_).2.1) (e := (getR b at_).2.2) rfl he
theorem i64_and7 {x : Int} (h0 : 0 ≤ x) (h1 : x < 9223372036854775808) : Go.bits .and .i64 x 7 = x % 8 :=
  Go.bits_mask .i64 63 (by decide) (fun n h0 h1 => by rw [Go.IntKind.wrap_i64]; omega) 3 (by decide) x h0 (by simpa using h1)
theorem u64_mask {x : Int} (h0 : 0 ≤ x) (h1 : x < 18446744073709551616) {i : Nat} (hi : i ≤ 64) : Go.bits .and .u64 x (2 ^ i - 1) = x % 2 ^ i :=
  Go.bits_mask .u64 64 (by decide) wraps_u64 i hi x h0 (by simpa using h1)
theorem or_low8 {j : Nat} {x y : Int} (hx0 : 0 ≤ x) (hx : x < 2 ^ j) (hy0 : 0 ≤ y) (hb : x + y * 2 ^ j < 2 ^ 8) :
    Go.bits .or .u8 x (y * 2 ^ j) = x + y * 2 ^ j := by
  have hp : (0 : Int) < 2 ^ j := Int.pow_pos (by decide)
  obtain ⟨a, rfl⟩ := Int.eq_ofNat_of_zero_le hx0
  obtain ⟨b, rfl⟩ := Int.eq_ofNat_of_zero_le hy0
  have ha : a < 2 ^ j := by exact_mod_cast hx
  have hab : a + b * 2 ^ j < 2 ^ 8 := by exact_mod_cast hb
  have e : ((b : Int) * 2 ^ j) = ((2 ^ j * b : Nat) : Int) := by rw [Nat.mul_comm]; simp
  have hc : a + 2 ^ j * b < 2 ^ 8 := by rw [Nat.mul_comm]; exact hab
  rw [e, (Go.bits_nat .u8 8 (by decide) Go.wraps_u8 a (2 ^ j * b) (by omega) (by omega)).2, Nat.or_comm, ← Nat.two_pow_add_eq_or_of_lt ha b]
  omega
theorem toNat_div2 {x : Int} (h0 : 0 ≤ x) (n : Nat) : (x / 2 ^ n).toNat = x.toNat / 2 ^ n := by
  obtain ⟨a, rfl⟩ := Int.eq_ofNat_of_zero_le h0
  rw [show (2 : Int) ^ n = ((2 ^ n : Nat) : Int) by simp, ← Int.natCast_ediv, Int.toNat_natCast, Int.toNat_natCast]
theorem toNat_mod2 {x : Int} (h0 : 0 ≤ x) (n : Nat) : (x % 2 ^ n).toNat = x.toNat % 2 ^ n := by
  obtain ⟨a, rfl⟩ := Int.eq_ofNat_of_zero_le h0
  rw [show (2 : Int) ^ n = ((2 ^ n : Nat) : Int) by simp, ← Int.natCast_emod, Int.toNat_natCast, Int.toNat_natCast]
theorem divmod2 {x : Int} (h0 : 0 ≤ x) (s t : Nat) : x / 2 ^ s % 2 ^ t = ((x.toNat / 2 ^ s % 2 ^ t : Nat) : Int) := by
  obtain ⟨a, rfl⟩ := Int.eq_ofNat_of_zero_le h0
  simp
theorem nat_xor_top {x : Nat} (j : Nat) (h : x < 2 ^ j) : x ^^^ 2 ^ j = x + 2 ^ j := by
  apply Nat.eq_of_testBit_eq
  intro i
  rw [Nat.testBit_xor, Nat.testBit_two_pow]
  rcases Nat.lt_trichotomy i j with hi | hi | hi
  · rw [Nat.add_comm, Nat.testBit_two_pow_add_gt hi, decide_eq_false (by omega)]; simp
  · subst hi
    rw [Nat.add_comm, Nat.testBit_two_pow_add_eq]; simp
  · have h1 : x + 2 ^ j < 2 ^ i := by
      have : 2 ^ (j + 1) ≤ 2 ^ i := Nat.pow_le_pow_right (by decide) hi
      rw [Nat.pow_succ] at this; omega
    rw [Nat.testBit_lt_two_pow h1, Nat.testBit_lt_two_pow (show x < 2 ^ i by omega), decide_eq_false (by omega)]; rfl
theorem nat_xor_top' {x : Nat} (j : Nat) (h : x < 2 ^ j) : (x + 2 ^ j) ^^^ 2 ^ j = x := by
  rw [← nat_xor_top j h, Nat.xor_assoc, Nat.xor_self, Nat.xor_zero]
theorem xor_u64_nat (a b : Nat) (ha : a < 2 ^ 64) (hb : b < 2 ^ 64) : Go.bits .xor .u64 (a : Int) (b : Int) = ((a ^^^ b : Nat) : Int) := by
  have hx := Nat.xor_lt_two_pow ha hb
  rw [show Go.bits .xor .u64 (a : Int) (b : Int) = IntKind.u64.wrap ((BitVec.ofInt 64 (a : Int) ^^^ BitVec.ofInt 64 (b : Int)).toNat : Int) from rfl, BitVec.ofInt_natCast, BitVec.ofInt_natCast, BitVec.toNat_xor, BitVec.toNat_ofNat, BitVec.toNat_ofNat, Nat.mod_eq_of_lt ha, Nat.mod_eq_of_lt hb]
  exact wraps_u64 _ (Int.natCast_nonneg _) (by exact_mod_cast hx)
theorem xor_zero {x : Int} (h0 : 0 ≤ x) (h1 : x < 18446744073709551616) : Go.bits .xor .u64 x 0 = x := by
  obtain ⟨a, rfl⟩ := Int.eq_ofNat_of_zero_le h0
  have := xor_u64_nat a 0 (by omega) (by decide)
  simpa using this
theorem xor_all {x : Int} (h0 : 0 ≤ x) (h1 : x < 18446744073709551616) : Go.bits .xor .u64 x 18446744073709551615 = 18446744073709551615 - x := by
  obtain ⟨a, rfl⟩ := Int.eq_ofNat_of_zero_le h0
  have e : BitVec.ofInt 64 18446744073709551615 = BitVec.allOnes 64 := by decide
  rw [show Go.bits .xor .u64 (a : Int) 18446744073709551615 = IntKind.u64.wrap ((BitVec.ofInt 64 (a : Int) ^^^ BitVec.ofInt 64 18446744073709551615).toNat : Int) from rfl, e, BitVec.ofInt_natCast, BitVec.xor_allOnes, BitVec.toNat_not, BitVec.toNat_ofNat,
    Nat.mod_eq_of_lt (show a < 2 ^ 64 by omega), wraps_u64 _ (by omega) (by omega)]; omega
theorem xor_top {x : Int} (h0 : 0 ≤ x) (h1 : x < 18446744073709551616) : Go.bits .xor .u64 x 9223372036854775808 = if x < 9223372036854775808 then x + 9223372036854775808 else x - 9223372036854775808 := by
  obtain ⟨a, rfl⟩ := Int.eq_ofNat_of_zero_le h0
  have h := xor_u64_nat a (2 ^ 63) (by omega) (by decide)
  rw [show ((2 ^ 63 : Nat) : Int) = 9223372036854775808 from rfl] at h
  rw [h]
  by_cases hc : a < 2 ^ 63
  · rw [nat_xor_top 63 hc, if_pos (by omega)]; omega
  · have := nat_xor_top' (x := a - 2 ^ 63) 63 (by omega)
    rw [show a - 2 ^ 63 + 2 ^ 63 = a by omega] at this
    rw [this, if_neg (by omega)]; omega
theorem i64_wrap_nat {n : Nat} (h : n < 2 ^ 64) : IntKind.i64.wrap (n : Int) = if n < 2 ^ 63 then (n : Int) else (n : Int) - 18446744073709551616 := by
  rw [Go.IntKind.wrap_i64]; split <;> omega
theorem xor_i64_zero {x : Int} (h0 : 0 ≤ x) (h1 : x < 9223372036854775808) : Go.bits .xor .i64 x 0 = x := by
  obtain ⟨a, rfl⟩ := Int.eq_ofNat_of_zero_le h0
  have e : BitVec.ofInt 64 0 = 0#64 := by decide
  rw [show Go.bits .xor .i64 (a : Int) 0 = IntKind.i64.wrap ((BitVec.ofInt 64 (a : Int) ^^^ BitVec.ofInt 64 0).toNat : Int) from rfl, e, BitVec.ofInt_natCast, BitVec.xor_zero, BitVec.toNat_ofNat, Nat.mod_eq_of_lt (show a < 2 ^ 64 by omega), i64_wrap_nat (by omega), if_pos (by omega)]
theorem xor_i64_all {x : Int} (h0 : 0 ≤ x) (h1 : x < 9223372036854775808) : Go.bits .xor .i64 x (-1) = -1 - x := by
  obtain ⟨a, rfl⟩ := Int.eq_ofNat_of_zero_le h0
  have e : BitVec.ofInt 64 (-1) = BitVec.allOnes 64 := by decide
  rw [show Go.bits .xor .i64 (a : Int) (-1) = IntKind.i64.wrap ((BitVec.ofInt 64 (a : Int) ^^^ BitVec.ofInt 64 (-1)).toNat : Int) from rfl, e, BitVec.ofInt_natCast, BitVec.xor_allOnes, BitVec.toNat_not, BitVec.toNat_ofNat, Nat.mod_eq_of_lt (show a < 2 ^ 64 by omega), i64_wrap_nat (by omega), if_neg (by omega)]; omega
def foldI (v : Int) : Int := if 0 ≤ v then 2 * v else -2 * v - 1
def unfoldI (u : Int) : Int := if u % 2 = 0 then u / 2 else -(u / 2) - 1
end M

/-! getting a number -/
theorem b8_bytes {l : List Int} (h : b8 l = true) : M.Bytes l := b8_iff.1 h
def resG (b : List Int) (a i : Nat) (u : Int) : Int × Int × Int := match M.getL (b.drop (a + i)) i with | .ok (v, n) => (u + v * 2 ^ (7 * i), (a : Int) + i + n, 0) | .error e => (0, 0, e)
theorem resG_zero {b : List Int} {a : Nat} (h : a ≤ b.length) : resG b a 0 0 = M.getR b a := by
  unfold resG M.getR
  rw [if_neg (by omega), Nat.add_zero, Int.toNat_natCast]
  cases M.getL (b.drop a) 0 with
  | error e => rfl
  | ok p => simp
theorem resG_end {b : List Int} {a i : Nat} {u : Int} (h : b.length ≤ a + i) : resG b a i u = (0, 0, 2) := by
  unfold resG; rw [List.drop_eq_nil_of_le h]; rfl
theorem drop_nth {b : List Int} {j : Nat} (h : j < b.length) : b.drop j = nth b j :: b.drop (j + 1) := by rw [nth_lt h]; exact List.drop_eq_getElem_cons h
theorem resG_wide {b : List Int} {a i : Nat} {u : Int} (h : a + i < b.length) (h9 : i = 9 ∧ nth b (a + i) > 1) : resG b a i u = (0, 0, 20) := by
  unfold resG; rw [drop_nth h, M.getL, if_pos h9]
theorem resG_more {b : List Int} {a i : Nat} {u : Int} (h : a + i < b.length) (h9 : ¬ (i = 9 ∧ nth b (a + i) > 1)) (hc : nth b (a + i) ≥ 128) (hc2 : nth b (a + i) < 256) : resG b a i u = resG b a (i + 1) (u + nth b (a + i) % 128 * 2 ^ (7 * i)) := by
  unfold resG
  rw [drop_nth h, M.getL, if_neg h9, if_pos hc, show a + (i + 1) = a + i + 1 by omega]
  cases M.getL (b.drop (a + i + 1)) (i + 1) with
  | error e => rfl
  | ok p =>
    obtain ⟨v, n⟩ := p
    have e : (2 : Int) ^ (7 * (i + 1)) = 128 * 2 ^ (7 * i) := by rw [Nat.mul_add, Int.pow_add, Int.mul_comm]; rfl
    have e2 : nth b (a + i) % 128 = nth b (a + i) - 128 := by omega
    simp only [Prod.mk.injEq, and_true]
    constructor
    · rw [e, e2, Int.add_mul, Int.add_assoc]
      congr 2
      rw [← Int.mul_assoc, Int.mul_comm v 128]
    · omega
theorem resG_form {b : List Int} {a i : Nat} {u : Int} (h : a + i < b.length) (hc : nth b (a + i) = 0) (hi : 0 < i) : resG b a i u = (0, 0, 5) := by
  unfold resG; rw [drop_nth h, M.getL, if_neg (by omega), if_neg (by omega), if_pos ⟨hc, hi⟩]
theorem resG_done {b : List Int} {a i : Nat} {u : Int} (h : a + i < b.length) (h9 : ¬ (i = 9 ∧ nth b (a + i) > 1)) (hc : ¬ nth b (a + i) ≥ 128) (h0 : 0 ≤ nth b (a + i)) (hz : ¬ (nth b (a + i) = 0 ∧ 0 < i)) : resG b a i u = (u + nth b (a + i) % 128 * 2 ^ (7 * i), (a : Int) + i + 1, 0) := by
  unfold resG; rw [drop_nth h, M.getL, if_neg h9, if_neg hc, if_neg hz]
  have : nth b (a + i) % 128 = nth b (a + i) := by omega
  rw [this]; rfl
theorem fitG {i : Nat} {u c : Int} (hi : i ≤ 9) (h9 : ¬ (i = 9 ∧ c > 1)) (hc0 : 0 ≤ c) (hc : c < 256) (hu0 : 0 ≤ u) (hu1 : u < 2 ^ (7 * i)) : 0 ≤ c % 128 * 2 ^ (7 * i) ∧ c % 128 * 2 ^ (7 * i) < 2 ^ 64 ∧ u + c % 128 * 2 ^ (7 * i) < 2 ^ 64 ∧ (c ≥ 128 ∨ True → u + c % 128 * 2 ^ (7 * i) < 2 ^ (7 * (i + 1))) := by
  have hm : c % 128 < 2 ^ (64 - 7 * i) := by
    by_cases hi9 : i = 9
    · subst hi9; have : ¬ c > 1 := fun h => h9 ⟨rfl, h⟩; simp; omega
    · have : (2 : Int) ^ 8 ≤ 2 ^ (64 - 7 * i) := M.ipow_le (by decide) (by omega)
      omega
  have hpos : (0 : Int) < 2 ^ (7 * i) := Int.pow_pos (by decide)
  have e64 : (2 : Int) ^ 64 = 2 ^ (64 - 7 * i) * 2 ^ (7 * i) := by rw [← Int.pow_add]; congr 1; omega
  have hmul : c % 128 * 2 ^ (7 * i) ≤ (2 ^ (64 - 7 * i) - 1) * 2 ^ (7 * i) := Int.mul_le_mul_of_nonneg_right (by omega) (Int.le_of_lt hpos)
  have hfit : u + c % 128 * 2 ^ (7 * i) < 2 ^ 64 := by
    rw [e64]; rw [Int.sub_mul] at hmul; omega
  have hge : 0 ≤ c % 128 * 2 ^ (7 * i) := Int.mul_nonneg (by omega) (Int.le_of_lt hpos)
  refine ⟨hge, by omega, hfit, fun _ => ?_⟩
  have e : (2 : Int) ^ (7 * (i + 1)) = 128 * 2 ^ (7 * i) := by rw [Nat.mul_add, Int.pow_add, Int.mul_comm]; rfl
  have : c % 128 * 2 ^ (7 * i) ≤ 127 * 2 ^ (7 * i) := Int.mul_le_mul_of_nonneg_right (by omega) (Int.le_of_lt hpos)
  omega
def getVR (l : List Int) (a : Int) : Option Res := some (.tup [.int .u64 (M.getR l a).1, .int .i64 (M.getR l a).2.1, .int .i64 (M.getR l a).2.2], none)
noncomputable def k_VGet : Ab.Spec := con2 (ofInts .u8) (ofInt .i64) fun l a _ => bnd l.length 140737488355328 (if b8 l = true then getVR l a else none)
noncomputable def T_VGet : CallF := withF T_Compare 33 k_VGet
theorem T_VGet_ok : CallOk Try.prog T_VGet := con_of (A := annOf [] [] [] false []) fit T_Compare_ok (fn := Try.f33) (by kernel_rfl) (by kernel_rfl) (by
  intro args objs r h0
  obtain ⟨v, _, l, a, rfl, ha, hb, hR⟩ := con2_inv h0
  obtain rfl := ofInt_inv hb
  obtain ⟨hl, hR⟩ := bnd_inv hR
  split at hR
  case isFalse => cases hR
  rename_i hb8
  cases hR
  obtain ⟨vd, vn, vi, -⟩ := bs ha
  have hby := b8_bytes hb8
  refine .go _ rfl rfl ?_
  by_cases hn : a < 0
  · have e : M.getR l a = (0, 0, 1) := by unfold M.getR; rw [if_pos (.inl hn)]
    simp (disch := omega) [vn, hn, e]
  by_cases hb2 : (l.length : Int) < a
  · have e : M.getR l a = (0, 0, 1) := by unfold M.getR; rw [if_pos (.inr hb2)]
    simp (disch := omega) [vn, hn, hb2, e]
  obtain ⟨A, rfl⟩ := Int.eq_ofNat_of_zero_le (show 0 ≤ a by omega)
  have hz := resG_zero (b := l) (a := A) (by omega)
  obtain ⟨R, hR⟩ : ∃ R, R = M.getR l A := ⟨_, rfl⟩
  rw [← hR] at hz ⊢
  have hnn : ¬ (A : Int) < 0 := hn
  simp (disch := omega) [vn, hb2]
  refine .up 10 (fun i s => s.env 0 = v ∧ s.env 1 = .int .i64 A ∧ s.env 8 = .int .i64 i ∧ i ≤ 9 ∧ s.toks = [] ∧ s.objs = objs ∧ s.low = objs.length ∧ ∃ u, s.env 7 = .int .u64 u ∧ 0 ≤ u ∧ u < 2 ^ (7 * i) ∧ resG l A i u = R) (by simpa using hz) ?_
  rintro i s hi ⟨g0, g1, g8, hi9, ht, ho, hlo, u, g7, hu0, hu1, hres⟩
  have wd : IntKind.i64.wrap ((l.length : Int) - A) = (l.length : Int) - A := wrap_small (by omega) (by omega)
  rcases Nat.lt_or_ge (A + i) l.length with h | h
  case inr =>
    rw [resG_end h] at hres
    subst hres
    simp -implicitDefEqProofs (disch := omega) [g0, g1, g8, g7, ht, ho, hlo, vn, wd]
  have w1 : IntKind.i64.wrap ((A : Int) + i) = (A : Int) + i := wrap_small (by omega) (by omega)
  have e1 := vi .i64 ((A : Int) + i) (by omega) (by omega)
  rw [toNat_add] at e1
  have hc := hby _ (nth_mem h)
  have hw := @resG_wide l A i u h
  have hm := @resG_more l A i u h
  have hf := @resG_form l A i u h
  have hd := @resG_done l A i u h
  have en := of_get (ints_nth (k := .u8) h)
  have en0 := ints_nth (k := .u8) h
  obtain ⟨c, hcc⟩ : ∃ c, c = nth l (A + i) := ⟨_, rfl⟩
  rw [← hcc] at hc hw hm hf hd en en0
  have w7 : IntKind.i64.wrap (7 * (i : Int)) = 7 * (i : Int) := wrap_small (by omega) (by omega)
  have w7u : IntKind.u64.wrap (7 * (i : Int)) = 7 * (i : Int) := wrap_u64 (by omega) (by omega)
  have hand : Go.bits .and .u8 c 127 = c % 128 := M.and127 hc.1 hc.2
  have wc : IntKind.u64.wrap (c % 128) = c % 128 := wrap_u64 (by omega) (by omega)
  have wi : IntKind.i64.wrap ((i : Int) + 1) = (i : Int) + 1 := wrap_small (by omega) (by omega)
  by_cases h9 : i = 9 ∧ c > 1
  · have e := hw h9
    rw [hres] at e
    subst e
    obtain ⟨h9i, h91⟩ := h9
    simp -implicitDefEqProofs (disch := omega) [g0, g1, g8, g7, ht, ho, hlo, vn, wd, w1, e1, en, en0, h91]
  obtain ⟨f0, f1, f2, f3⟩ := fitG hi9 h9 hc.1 hc.2 hu0 hu1
  have hmin : min (7 * (i : Int)).toNat 64 = 7 * i := by omega
  have h7n : ¬ 7 * (i : Int) < 0 := by omega
  have wsh : IntKind.u64.wrap (c % 128 * 2 ^ (7 * i)) = c % 128 * 2 ^ (7 * i) := wrap_u64 f0 (by omega)
  have hor : Go.bits .or .u64 u (c % 128 * 2 ^ (7 * i)) = u + c % 128 * 2 ^ (7 * i) := M.or_low hu0 hu1 (by omega) f2
  by_cases h128 : c ≥ 128
  · have e := hm h9 h128 hc.2
    rw [hres] at e
    have hi99 : i ≠ 9 := fun q => h9 ⟨q, by omega⟩
    simp -implicitDefEqProofs (disch := omega) [g0, g1, g8, g7, ht, ho, hlo, vn, wd, w1, e1, en, en0, hand, wc, w7, w7u, hmin, wsh, hor, wi, convV, h7n]
    exact ⟨by omega, by omega, by omega, f3 (.inr trivial), e.symm⟩
  by_cases hz0 : c = 0 ∧ 0 < i
  · have e := hf hz0.1 hz0.2
    rw [hres] at e
    subst e
    obtain ⟨hz1, hz2⟩ := hz0
    have hi99 : i ≠ 9 ∨ ¬ c > 1 := by omega
    by_cases hi9 : i = 9
    · have hc1 : ¬ c > 1 := fun q => h9 ⟨hi9, q⟩
      simp -implicitDefEqProofs (disch := omega) [g0, g1, g8, g7, ht, ho, hlo, vn, wd, w1, e1, en, en0, hand, wc, w7, w7u, hmin, wsh, hor, wi, convV, h7n]
    · simp -implicitDefEqProofs (disch := omega) [g0, g1, g8, g7, ht, ho, hlo, vn, wd, w1, e1, en, en0, hand, wc, w7, w7u, hmin, wsh, hor, wi, convV, h7n]
  · have e := hd h9 h128 hc.1 hz0
    rw [hres] at e
    subst e
    have wa : IntKind.i64.wrap ((A : Int) + i + 1) = (A : Int) + i + 1 := wrap_small (by omega) (by omega)
    by_cases hi9 : i = 9
    · have hc1 : ¬ c > 1 := fun q => h9 ⟨hi9, q⟩
      simp -implicitDefEqProofs (disch := omega) [g0, g1, g8, g7, ht, ho, hlo, vn, wd, w1, e1, en, en0, hand, wc, w7, w7u, hmin, wsh, hor, wi, convV, h7n, wa]
    · by_cases hc0 : c = 0
      · simp -implicitDefEqProofs (disch := omega) [g0, g1, g8, g7, ht, ho, hlo, vn, wd, w1, e1, en, en0, hand, wc, w7, w7u, hmin, wsh, hor, wi, convV, h7n, wa]
      · simp -implicitDefEqProofs (disch := omega) [g0, g1, g8, g7, ht, ho, hlo, vn, wd, w1, e1, en, en0, hand, wc, w7, w7u, hmin, wsh, hor, wi, convV, h7n, wa])

/-! putting a number -/
theorem or128 {x : Int} (h0 : 0 ≤ x) (h1 : x < 256) : Go.bits .or .u8 x 128 = x % 128 + 128 := by
  have : ∀ n : Fin 256, Go.bits .or .u8 ((n.val : Nat) : Int) 128 = ((n.val : Nat) : Int) % 128 + 128 := by decide +kernel
  have h := this ⟨x.toNat, by omega⟩
  rwa [show ((x.toNat : Nat) : Int) = x by omega] at h
def putVR (u : Int) : Option Res := if 0 ≤ u ∧ u < 18446744073709551616 then some (.lst (.fresh 1 true) (ints .u8 (M.putL u.toNat)) (M.putL u.toNat).length, none) else none
theorem putVR_nat {u : Nat} (h : u < 18446744073709551616) : putVR u = some (.lst (.fresh 1 true) (ints .u8 (M.putL u)) (M.putL u).length, none) := by
  unfold putVR; rw [if_pos (by omega), Int.toNat_natCast]
noncomputable def k_VPut : Ab.Spec := con1 (ofInt .u64) fun u _ => putVR u
noncomputable def T_VPut : CallF := withF T_VGet 25 k_VPut
theorem T_VPut_ok : CallOk Try.prog T_VPut := con_of (A := annOf [] [11,18] [] false []) fit T_VGet_ok (fn := Try.f25) (by kernel_rfl) (by kernel_rfl) (by
  intro args objs r h0
  obtain ⟨_, u0, rfl, hb, hR⟩ := con1_inv h0
  obtain rfl := ofInt_inv hb
  unfold putVR at hR
  split at hR
  case isFalse => cases hR
  rename_i hu
  obtain ⟨hu0, hu1⟩ := hu
  cases hR
  obtain ⟨U, rfl⟩ := Int.eq_ofNat_of_zero_le hu0
  rw [Int.toNat_natCast]
  have hlen := M.putL_len10 (u := U) (by omega)
  obtain ⟨W, hW⟩ : ∃ W, W = M.putL U := ⟨_, rfl⟩
  rw [← hW] at hlen ⊢
  refine .go _ rfl rfl ?_
  simp
  refine .dn U (fun n s => n ≤ U ∧ s.env 0 = .int .u64 n ∧ s.toks = [] ∧ s.low = objs.length ∧ ∃ p, p ++ M.putL n = W ∧ (p = [] ∧ s.env 3 = .nils ∧ s.objs = objs ∨ p ≠ [] ∧ s.env 3 = .ref objs.length (p.length - 1) 0 p.length 1 ∧ s.objs = objs ++ [.cells (ints .u8 p) (p.length - 1)])) (by simp; exact hW.symm) ?_
  rintro n s ⟨hnU, g0, ht, hlo, p, hp, h3⟩
  have hpl := congrArg List.length hp
  rw [List.length_append] at hpl
  have hpos := M.putL_pos n
  have wu8 : IntKind.u8.wrap (n : Int) = (n : Int) % 256 := rfl
  have hfd : (n : Int).fdiv 128 = ((n / 128 : Nat) : Int) := by rw [Int.fdiv_eq_ediv_of_nonneg _ (by decide)]; omega
  by_cases hn : n < 128
  · rw [M.putL_small hn] at hp
    have hwb : IntKind.u8.wrap (n : Int) = n := wrap_u8 (by omega) (by omega)
    have hge : ¬ (128 : Int) ≤ n := by omega
    rcases h3 with ⟨rfl, g3, ho⟩ | ⟨hne, g3, ho⟩
    · have hpW : W = [(n : Int)] := hp.symm
      subst hpW
      simp -implicitDefEqProofs (disch := omega) [g0, g3, ht, hlo, ho, hge, convV, hwb, blit1, getObj_last]
      exact rfl
    · obtain ⟨k, hk⟩ : ∃ k, p.length = k + 1 := ⟨p.length - 1, by have := List.length_pos_iff.2 hne; omega⟩
      rw [hk] at g3 ho
      have hWl : W.length = k + 2 := by rw [← hp]; simp [hk]
      have es : ints .u8 p ++ [.int .u8 n] = ints .u8 W := by rw [← hp]; simp [ints]
      simp -implicitDefEqProofs (disch := omega) [g0, g3, ht, hlo, ho, hge, convV, hwb, blit1, getObj_last, set_last, hk, es, hWl]
  · have hge : (128 : Int) ≤ n := by omega
    rw [M.putL_big hn] at hp
    have hor : Go.bits .or .u8 ((n : Int) % 256) 128 = ((n % 128 + 128 : Nat) : Int) := by rw [or128 (by omega) (by omega)]; omega
    have hp' : p ++ [((n % 128 + 128 : Nat) : Int)] ++ M.putL (n / 128) = W := by rw [List.append_assoc]; exact hp
    have hlt : n / 128 < n := by omega
    have hle : n / 128 ≤ U := by omega
    rcases h3 with ⟨rfl, g3, ho⟩ | ⟨hne, g3, ho⟩
    · simp -implicitDefEqProofs (disch := omega) [g0, g3, ht, hlo, ho, hge, convV, wu8, hor, hfd, blit1, getObj_last]
      exact ⟨n / 128, hlt, hle, by omega, [((n % 128 + 128 : Nat) : Int)], hp', by simp, ⟨rfl, rfl⟩, by simp [ints], rfl⟩
    · obtain ⟨k, hk⟩ : ∃ k, p.length = k + 1 := ⟨p.length - 1, by have := List.length_pos_iff.2 hne; omega⟩
      rw [hk] at g3 ho
      have es : ints .u8 p ++ [.int .u8 ((n % 128 + 128 : Nat) : Int)] = ints .u8 (p ++ [((n % 128 + 128 : Nat) : Int)]) := by simp [ints]
      simp -implicitDefEqProofs (disch := omega) [g0, g3, ht, hlo, ho, hge, convV, wu8, hor, hfd, blit1, getObj_last, set_last, hk]
      exact ⟨n / 128, hlt, hle, by omega, p ++ [((n % 128 + 128 : Nat) : Int)], hp', by simp, ⟨by simp [hk], by simp [hk]⟩, by simp, by simp [hk]⟩)
noncomputable def k_RGet : Ab.Spec := con2 (ofInts .u8) (ofInt .i64) fun l a _ => bnd l.length 140737488355328 (if b8 l = true then getVR l a else none)
noncomputable def T_RGet : CallF := withF T_VPut 35 k_RGet
theorem T_RGet_ok : CallOk Try.prog T_RGet := con_of (A := annOf [] [] [] false []) fit T_VPut_ok (fn := Try.f35) (by kernel_rfl) (by kernel_rfl) (by
  intro args objs r h0
  obtain ⟨v, _, l, a, rfl, ha, hb, hR⟩ := con2_inv h0
  obtain rfl := ofInt_inv hb
  obtain ⟨hl, hR⟩ := bnd_inv hR
  split at hR
  case isFalse => cases hR
  rename_i hb8
  cases hR
  obtain ⟨vd, vn, vi, -⟩ := bs ha
  have hby := b8_bytes hb8
  refine .go _ rfl rfl ?_
  by_cases hn : a < 0
  · have e : M.getR l a = (0, 0, 1) := by unfold M.getR; rw [if_pos (.inl hn)]
    simp (disch := omega) [vn, hn, e]
  by_cases hb2 : (l.length : Int) < a
  · have e : M.getR l a = (0, 0, 1) := by unfold M.getR; rw [if_pos (.inr hb2)]
    simp (disch := omega) [vn, hn, hb2, e]
  obtain ⟨A, rfl⟩ := Int.eq_ofNat_of_zero_le (show 0 ≤ a by omega)
  have hz := resG_zero (b := l) (a := A) (by omega)
  obtain ⟨R, hR⟩ : ∃ R, R = M.getR l A := ⟨_, rfl⟩
  rw [← hR] at hz ⊢
  have hnn : ¬ (A : Int) < 0 := hn
  simp (disch := omega) [vn, hb2]
  refine .up 10 (fun i s => s.env 0 = v ∧ s.env 1 = .int .i64 A ∧ s.env 9 = .int .i64 (A + i) ∧ i ≤ 9 ∧ s.toks = [] ∧ s.objs = objs ∧ s.low = objs.length ∧ s.env 8 = .int .u64 (2 ^ (7 * i)) ∧ ∃ u, s.env 7 = .int .u64 u ∧ 0 ≤ u ∧ u < 2 ^ (7 * i) ∧ resG l A i u = R) (by simpa using hz) ?_
  rintro i s hi ⟨g0, g1, g9, hi9, ht, ho, hlo, g8, u, g7, hu0, hu1, hres⟩
  rcases Nat.lt_or_ge (A + i) l.length with h | h
  case inr =>
    rw [resG_end h] at hres
    subst hres
    simp -implicitDefEqProofs (disch := omega) [g0, g1, g8, g9, g7, ht, ho, hlo, vn]
  have e1 := vi .i64 ((A : Int) + i) (by omega) (by omega)
  rw [toNat_add] at e1
  have hc := hby _ (nth_mem h)
  have hw := @resG_wide l A i u h
  have hm := @resG_more l A i u h
  have hf := @resG_form l A i u h
  have hd := @resG_done l A i u h
  have en := of_get (ints_nth (k := .u8) h)
  have en0 := ints_nth (k := .u8) h
  obtain ⟨c, hcc⟩ : ∃ c, c = nth l (A + i) := ⟨_, rfl⟩
  rw [← hcc] at hc hw hm hf hd en en0
  have wcu : IntKind.u64.wrap c = c := wrap_u64 (by omega) (by omega)
  have wd : IntKind.i64.wrap ((A : Int) + i - A) = i := by rw [wrap_small (by omega) (by omega)]; omega
  have ht128 : c.tmod 128 = c % 128 := Int.tmod_eq_emod_of_nonneg hc.1
  have wi : IntKind.i64.wrap ((A : Int) + i + 1) = (A : Int) + (i + 1) := by rw [wrap_small (by omega) (by omega)]; omega
  have wi2 : IntKind.i64.wrap ((A : Int) + i + 1) = (A : Int) + i + 1 := wrap_small (by omega) (by omega)
  by_cases h9 : i = 9 ∧ c > 1
  · have e := hw h9
    rw [hres] at e
    subst e
    obtain ⟨h9i, h91⟩ := h9
    simp -implicitDefEqProofs (disch := omega) [g0, g1, g8, g9, g7, ht, ho, hlo, vn, wd, e1, en, en0, convV, wcu, h91]
  obtain ⟨f0, f1, f2, f3⟩ := fitG hi9 h9 hc.1 hc.2 hu0 hu1
  have wsh : IntKind.u64.wrap (c % 128 * 2 ^ (7 * i)) = c % 128 * 2 ^ (7 * i) := wrap_u64 f0 (by omega)
  have wad : IntKind.u64.wrap (u + c % 128 * 2 ^ (7 * i)) = u + c % 128 * 2 ^ (7 * i) := wrap_u64 (by omega) (by omega)
  by_cases h128 : c ≥ 128
  · have e := hm h9 h128 hc.2
    rw [hres] at e
    have hi99 : i ≠ 9 := fun q => h9 ⟨q, by omega⟩
    have hlt : ¬ c < 128 := by omega
    have hp : (2 : Int) ^ (7 * (i + 1)) = 2 ^ (7 * i) * 128 := by rw [Nat.mul_add, Int.pow_add]; rfl
    have hpb : (2 : Int) ^ (7 * (i + 1)) ≤ 2 ^ 63 := M.ipow_le (by decide) (by omega)
    have hpp : (0 : Int) < 2 ^ (7 * (i + 1)) := Int.pow_pos (by decide)
    have ww : IntKind.u64.wrap (2 ^ (7 * i) * 128) = 2 ^ (7 * (i + 1)) := by rw [← hp]; exact wrap_u64 (by omega) (by omega)
    simp -implicitDefEqProofs (disch := omega) [g0, g1, g8, g9, g7, ht, ho, hlo, vn, wd, e1, en, en0, convV, wcu, ht128, wsh, wad, wi, ww, hlt]
    exact ⟨by omega, by omega, by omega, f3 (.inr trivial), e.symm⟩
  have hlt : c < 128 := by omega
  by_cases hz0 : c = 0 ∧ 0 < i
  · have e := hf hz0.1 hz0.2
    rw [hres] at e
    subst e
    obtain ⟨hz1, hz2⟩ := hz0
    have hgt : (A : Int) + i > A := by omega
    by_cases hi9 : i = 9
    · simp -implicitDefEqProofs (disch := omega) [g0, g1, g8, g9, g7, ht, ho, hlo, vn, wd, e1, en, en0, convV, wcu, ht128, wsh, wad, hlt, hgt]
    · simp -implicitDefEqProofs (disch := omega) [g0, g1, g8, g9, g7, ht, ho, hlo, vn, wd, e1, en, en0, convV, wcu, ht128, wsh, wad, hlt, hgt]
  · have e := hd h9 h128 hc.1 hz0
    rw [hres] at e
    subst e
    by_cases hi9 : i = 9
    · have hc1 : ¬ c > 1 := fun q => h9 ⟨hi9, q⟩
      have hc0 : c ≠ 0 := fun q => hz0 ⟨q, by omega⟩
      simp -implicitDefEqProofs (disch := omega) [g0, g1, g8, g9, g7, ht, ho, hlo, vn, wd, e1, en, en0, convV, wcu, ht128, wsh, wad, wi2, hlt]
    · by_cases hc0 : c = 0
      · have hi0 : ¬ (A : Int) + i > A := by omega
        simp -implicitDefEqProofs (disch := omega) [g0, g1, g8, g9, g7, ht, ho, hlo, vn, wd, e1, en, en0, convV, wcu, ht128, wsh, wad, wi2, hlt, hi0]
      · simp -implicitDefEqProofs (disch := omega) [g0, g1, g8, g9, g7, ht, ho, hlo, vn, wd, e1, en, en0, convV, wcu, ht128, wsh, wad, wi2, hlt])
noncomputable def k_RPut : Ab.Spec := con1 (ofInt .u64) fun u _ => putVR u
noncomputable def T_RPut : CallF := withF T_RGet 28 k_RPut
theorem T_RPut_ok : CallOk Try.prog T_RPut := con_of (A := annOf [] [4,13,20] [] false []) fit T_RGet_ok (fn := Try.f28) (by kernel_rfl) (by kernel_rfl) (by
  intro args objs r h0
  obtain ⟨_, u0, rfl, hb, hR⟩ := con1_inv h0
  obtain rfl := ofInt_inv hb
  unfold putVR at hR
  split at hR
  case isFalse => cases hR
  rename_i hu
  obtain ⟨hu0, hu1⟩ := hu
  cases hR
  obtain ⟨U, rfl⟩ := Int.eq_ofNat_of_zero_le hu0
  rw [Int.toNat_natCast]
  have hlen := M.putL_len10 (u := U) (by omega)
  obtain ⟨W, hW⟩ : ∃ W, W = M.putL U := ⟨_, rfl⟩
  rw [← hW] at hlen ⊢
  refine .go _ rfl rfl ?_
  simp [blit0]
  obtain ⟨I, hI⟩ : ∃ I : Nat → St → Prop, I = (fun (n : Nat) (s : St) => n ≤ U ∧ s.env 0 = .int .u64 n ∧ s.toks = [] ∧ s.low = objs.length ∧ ∃ p, p ++ M.putL n = W ∧ s.env 3 = .ref objs.length p.length 0 p.length 1 ∧ s.objs = objs ++ [.cells (ints .u8 p) p.length]) := ⟨_, rfl⟩
  refine .dn U I (by rw [hI]; exact ⟨Nat.le_refl _, by simp, by simp, by simp, [], by simp [hW], by simp, by simp [ints_nil]⟩) ?_
  intro n s hs
  rw [hI] at hs
  obtain ⟨hnU, g0, ht, hlo, p, hp, h3, ho⟩ := hs
  have hpl := congrArg List.length hp
  rw [List.length_append] at hpl
  have hpos := M.putL_pos n
  by_cases hlt : n < 128
  · have hge : ¬ (127 : Int) < (n : Int) := by omega
    have wu8 : IntKind.u8.wrap (n : Int) = n := wrap_u8 (by omega) (by omega)
    rw [M.putL_small hlt] at hp
    have es : ints .u8 p ++ [.int .u8 (n : Int)] = ints .u8 W := by rw [← hp]; simp [ints]
    have hWl : W.length = p.length + 1 := by rw [← hp]; simp
    simp -implicitDefEqProofs (disch := omega) [g0, h3, ht, hlo, ho, hge, convV, wu8, blit1, getObj_last, set_last, es, hWl, Nat.mod_one]
  · have hge : (127 : Int) < (n : Int) := by omega
    have wr : (n : Int).tmod 128 = ((n % 128 : Nat) : Int) := by rw [Int.tmod_eq_emod_of_nonneg (by omega)]; omega
    have wa : IntKind.u64.wrap (((n % 128 : Nat) : Int) + 128) = ((n % 128 + 128 : Nat) : Int) := by rw [wrap_u64 (by omega) (by omega)]; omega
    have wu8 : IntKind.u8.wrap ((n % 128 + 128 : Nat) : Int) = ((n % 128 + 128 : Nat) : Int) := wrap_u8 (by omega) (by omega)
    have wq : IntKind.u64.wrap ((n : Int).tdiv 128) = ((n / 128 : Nat) : Int) := by rw [Int.tdiv_eq_ediv_of_nonneg (by omega), wrap_u64 (by omega) (by omega)]; omega
    have h0 : ((n : Int).tdiv 128) = ((n / 128 : Nat) : Int) := by rw [Int.tdiv_eq_ediv_of_nonneg (by omega)]; omega
    rw [M.putL_big hlt] at hp
    obtain ⟨c, hc⟩ : ∃ c : Int, c = ((n % 128 + 128 : Nat) : Int) := ⟨_, rfl⟩
    obtain ⟨m, hm⟩ : ∃ m : Nat, m = n % 128 := ⟨_, rfl⟩
    obtain ⟨q, hq⟩ : ∃ q : Nat, q = n / 128 := ⟨_, rfl⟩
    have hqn : q < n := by omega
    have hp' : (p ++ [c]) ++ M.putL q = W := by rw [hc, hq, ← hp]; simp
    rw [← hc] at wa wu8
    rw [← hm] at wr wa
    rw [← hq] at wq
    have wq2 : IntKind.u64.wrap ((n : Int) / 128) = (q : Int) := by rw [wrap_u64 (by omega) (by omega)]; omega
    simp -implicitDefEqProofs (disch := omega) [g0, h3, ht, hlo, ho, hge, convV, wr, wa, wu8, wq, wq2, blit1, getObj_last, set_last, Nat.mod_one]
    rw [hI]
    exact ⟨q, hqn, by omega, by simp, by simp, by simp, p ++ [c], hp', by simp, by simp [ints]⟩)
end Go.Proofs.Ytjjldepikokogaa.B
set_option maxRecDepth 20000
set_option maxHeartbeats 1000000
namespace Go.Proofs.Ytjjldepikokogaa.B
open Go Go.Ab
/-! how many first bytes two texts share; their order -/
def sharedN : List Int → List Int → Nat
  | a :: p, b :: q => if a = b then sharedN p q + 1 else 0
  | _, _ => 0
theorem sharedN_le : ∀ a b : List Int, sharedN a b ≤ a.length ∧ sharedN a b ≤ b.length
  | [], _ => ⟨by simp [sharedN], by simp [sharedN]⟩
  | _ :: _, [] => ⟨by simp [sharedN], by simp [sharedN]⟩
  | a :: p, b :: q => by
    unfold sharedN
    have := sharedN_le p q
    split <;> simp <;> omega
theorem nth_zero {a : Int} {p : List Int} : nth (a :: p) 0 = a := rfl
theorem nth_succ {a : Int} {p : List Int} {i : Nat} : nth (a :: p) (i + 1) = nth p i := rfl
theorem sharedN_stop : ∀ {a b : List Int} {i : Nat}, i ≤ a.length → i ≤ b.length → (∀ j, j < i → nth a j = nth b j) → (i = a.length ∨ i = b.length ∨ nth a i ≠ nth b i) → sharedN a b = i
  | [], b, i, h1, _, _, _ => by simp at h1; subst h1; simp [sharedN]
  | _ :: _, [], i, _, h2, _, _ => by simp at h2; subst h2; simp [sharedN]
  | a :: p, b :: q, 0, _, _, _, h => by
    unfold sharedN
    rw [if_neg]
    rcases h with h | h | h
    · simp at h
    · simp at h
    · exact h
  | a :: p, b :: q, i + 1, h1, h2, he, h => by
    have h0 : a = b := he 0 (by omega)
    unfold sharedN
    rw [if_pos h0, sharedN_stop (i := i) (by simpa using h1) (by simpa using h2) (fun j hj => he (j + 1) (by omega)) (by
      rcases h with h | h | h
      · left; simpa using h
      · right; left; simpa using h
      · right; right; exact h)]
theorem cmpZ_cons {a b : Int} {p q : List Int} : cmpZ (a :: p) (b :: q) = if a < b then -1 else if b < a then 1 else cmpZ p q := rfl
theorem cmpZ_at : ∀ {a b : List Int} {i : Nat}, i ≤ a.length → i ≤ b.length → (∀ j, j < i → nth a j = nth b j) → cmpZ a b = cmpZ (a.drop i) (b.drop i)
  | _, _, 0, _, _, _ => by simp
  | [], b, i + 1, h1, _, _ => by simp at h1
  | _ :: _, [], i + 1, _, h2, _ => by simp at h2
  | a :: p, b :: q, i + 1, h1, h2, he => by
    have h0 : a = b := he 0 (by omega)
    subst h0
    have : cmpZ (a :: p) (a :: q) = cmpZ p q := by simp [cmpZ]
    rw [this, cmpZ_at (i := i) (by simpa using h1) (by simpa using h2) (fun j hj => he (j + 1) (by omega))]
    simp
theorem cmpZ_self : ∀ a : List Int, cmpZ a a = 0
  | [] => rfl
  | a :: p => by simp [cmpZ, cmpZ_self p]
noncomputable def k_shared : Ab.Spec := con2 some some fun v w objs => match ofIntsR .u8 objs v, ofIntsR .u8 objs w with | some a, some b => bnd a.length 140737488355328 (some (.int .i64 (sharedN a b), none)) | _, _ => none
noncomputable def T_shared : CallF := withF T_RPut 26 k_shared
theorem T_shared_ok : CallOk Try.prog T_shared := con_of (A := annOf [] [] [] false []) fit T_RPut_ok (fn := Try.f26) (by kernel_rfl) (by kernel_rfl) (by
  intro args objs r h0
  obtain ⟨v, w, _, _, rfl, hv, hw, hR⟩ := con2_inv h0
  cases hv; cases hw
  split at hR
  case h_2 => cases hR
  rename_i a b ha hb
  obtain ⟨hl, hR⟩ := bnd_inv hR
  cases hR
  obtain ⟨pa, vd, vn, vi, vl⟩ := bsR ha
  obtain ⟨pb, wd, wn, wi, wl⟩ := bsR hb
  obtain ⟨m, hm⟩ : ∃ m, m = min a.length b.length := ⟨_, rfl⟩
  have hmi : (if b.length < a.length then (b.length : Int) else (a.length : Int)) = (m : Int) := by split <;> omega
  refine .go _ rfl rfl ?_
  simp
  refine .up m (fun i s => s.env 0 = v ∧ s.env 1 = w ∧ s.env 5 = .int .i64 i ∧ s.toks = [] ∧ s.objs = objs ∧ s.low = objs.length ∧ ∀ j, j < i → nth a j = nth b j) (by simp) ?_
  rintro i s hi ⟨h0, h1, h5, ht, ho, hlo, hj⟩
  rcases Nat.lt_or_ge i m with h | h
  · by_cases he : nth a i = nth b i
    · have hf : (nth a i == nth b i) = true := by simpa using he
      have hs : ∀ j, j < i + 1 → nth a j = nth b j := fun j hj2 => by
        rcases Nat.lt_or_ge j i with h2 | h2
        · exact hj j h2
        · obtain rfl : j = i := by omega
          exact he
      simp (disch := omega) [-loadV, h0, h1, h5, ht, ho, hlo, vn, wn, vi, wi, vl, wl, h, hf, hmi, wrap_small]
      exact hs
    · have hf : (nth a i == nth b i) = false := by simpa using he
      have hst := sharedN_stop (a := a) (b := b) (i := i) (by omega) (by omega) hj (.inr (.inr he))
      simp (disch := omega) [-loadV, h0, h1, h5, ht, ho, hlo, vn, wn, vi, wi, vl, wl, h, hf, hmi, hst]
  · obtain rfl : i = m := by omega
    have hst := sharedN_stop (a := a) (b := b) (i := i) (by omega) (by omega) hj (by omega)
    simp [-loadV, h0, h1, h5, ht, ho, hlo, vn, wn, hmi, hst])
noncomputable def k_rsame : Ab.Spec := con2 some some fun v w objs => match ofIntsR .u8 objs v, ofIntsR .u8 objs w with | some a, some b => bnd a.length 140737488355328 (some (.int .i64 (sharedN a b), none)) | _, _ => none
noncomputable def T_rsame : CallF := withF T_shared 29 k_rsame
theorem T_rsame_ok : CallOk Try.prog T_rsame := con_of (A := annOf [] [] [] false []) fit T_shared_ok (fn := Try.f29) (by kernel_rfl) (by kernel_rfl) (by
  intro args objs r h0
  obtain ⟨v, w, _, _, rfl, hv, hw, hR⟩ := con2_inv h0
  cases hv; cases hw
  split at hR
  case h_2 => cases hR
  rename_i a b ha hb
  obtain ⟨hl, hR⟩ := bnd_inv hR
  cases hR
  obtain ⟨pa, vd, vn, vi, vl⟩ := bsR ha
  obtain ⟨pb, wd, wn, wi, wl⟩ := bsR hb
  refine .go _ rfl rfl ?_
  simp
  refine .up a.length (fun i s => i ≤ b.length ∧ s.env 0 = v ∧ s.env 1 = w ∧ s.env 5 = .int .i64 i ∧ s.toks = [] ∧ s.objs = objs ∧ s.low = objs.length ∧ ∀ j, j < i → nth a j = nth b j) (by simp) ?_
  rintro i s hi ⟨hib, h0, h1, h5, ht, ho, hlo, hj⟩
  rcases Nat.lt_or_ge i a.length with h | h
  · rcases Nat.lt_or_ge i b.length with h2 | h2
    · by_cases he : nth a i = nth b i
      · have hf : (nth a i != nth b i) = false := by simpa using he
        have hs : ∀ j, j < i + 1 → nth a j = nth b j := fun j hj2 => by
          rcases Nat.lt_or_ge j i with h2 | h2
          · exact hj j h2
          · obtain rfl : j = i := by omega
            exact he
        simp (disch := omega) [-loadV, h0, h1, h5, ht, ho, hlo, vn, wn, vi, wi, vl, wl, h, hf, wrap_small]
        exact ⟨by omega, hs⟩
      · have hf : (nth a i != nth b i) = true := by simpa using he
        have hst := sharedN_stop (a := a) (b := b) (i := i) (by omega) (by omega) hj (.inr (.inr he))
        simp (disch := omega) [-loadV, h0, h1, h5, ht, ho, hlo, vn, wn, vi, wi, vl, wl, h, hf, hst]
    · have hst := sharedN_stop (a := a) (b := b) (i := i) (by omega) (by omega) hj (by omega)
      simp (disch := omega) [-loadV, h0, h1, h5, ht, ho, hlo, vn, wn, vi, wi, vl, wl, h, hst]
  · have hst := sharedN_stop (a := a) (b := b) (i := i) (by omega) (by omega) hj (by omega)
    obtain rfl : i = a.length := by omega
    simp (disch := omega) [-loadV, h0, h1, h5, ht, ho, hlo, vn, wn, hst])
noncomputable def k_Order : Ab.Spec := con2 some some fun v w objs => match ofIntsR .u8 objs v, ofIntsR .u8 objs w with | some a, some b => bnd a.length 140737488355328 (some (.int .i64 (cmpZ a b), none)) | _, _ => none
noncomputable def T_Order : CallF := withF T_rsame 24 k_Order
theorem T_Order_ok : CallOk Try.prog T_Order := con_of (A := annOf [] [] [] false []) fit T_rsame_ok (fn := Try.f24) (by kernel_rfl) (by kernel_rfl) (by
  intro args objs r h0
  obtain ⟨v, w, _, _, rfl, hv, hw, hR⟩ := con2_inv h0
  cases hv; cases hw
  split at hR
  case h_2 => cases hR
  rename_i a b ha hb
  obtain ⟨hl, hR⟩ := bnd_inv hR
  cases hR
  obtain ⟨pa, vd, vn, vi, vl⟩ := bsR ha
  obtain ⟨pb, wd, wn, wi, wl⟩ := bsR hb
  refine .go _ rfl rfl ?_
  simp
  refine .up a.length (fun i s => i ≤ b.length ∧ s.env 0 = v ∧ s.env 1 = w ∧ s.env 5 = .int .i64 i ∧ s.toks = [] ∧ s.objs = objs ∧ s.low = objs.length ∧ ∀ j, j < i → nth a j = nth b j) (by simp) ?_
  rintro i s hi ⟨hib, h0, h1, h5, ht, ho, hlo, hj⟩
  have hc := cmpZ_at (a := a) (b := b) hi hib hj
  rcases Nat.lt_or_ge i a.length with h | h
  · have da := drop_nth h
    rcases Nat.lt_or_ge i b.length with h2 | h2
    · have db := drop_nth h2
      rw [da, db, cmpZ_cons] at hc
      by_cases hlt : nth a i < nth b i
      · rw [if_pos hlt] at hc
        simp (disch := omega) [-loadV, h0, h1, h5, ht, ho, hlo, vn, wn, vi, wi, vl, wl, h, h2, hlt, hc]
      · rw [if_neg hlt] at hc
        by_cases hgt : nth b i < nth a i
        · rw [if_pos hgt] at hc
          simp (disch := omega) [-loadV, h0, h1, h5, ht, ho, hlo, vn, wn, vi, wi, vl, wl, h, h2, hlt, hgt, hc]
        · have he : nth a i = nth b i := by omega
          have hs : ∀ j, j < i + 1 → nth a j = nth b j := fun j hj2 => by
            rcases Nat.lt_or_ge j i with h2 | h2
            · exact hj j h2
            · obtain rfl : j = i := by omega
              exact he
          simp (disch := omega) [-loadV, h0, h1, h5, ht, ho, hlo, vn, wn, vi, wi, vl, wl, h, h2, hlt, hgt, wrap_small]
          exact ⟨by omega, hs⟩
    · obtain rfl : i = b.length := by omega
      rw [da, List.drop_length] at hc
      have hc : cmpZ a b = 1 := hc
      simp (disch := omega) [-loadV, h0, h1, h5, ht, ho, hlo, vn, wn, h, hc]
  · obtain rfl : i = a.length := by omega
    rcases Nat.lt_or_ge a.length b.length with h2 | h2
    · have db := drop_nth h2
      rw [db, List.drop_length] at hc
      have hc : cmpZ a b = -1 := hc
      simp (disch := omega) [-loadV, h0, h1, h5, ht, ho, hlo, vn, wn, h, h2, hc]
    · have hab : a.length = b.length := by omega
      rw [List.drop_length, hab, List.drop_length] at hc
      have hc : cmpZ a b = 0 := hc
      simp (disch := omega) [-loadV, h0, h1, h5, ht, ho, hlo, vn, wn, hab, hc])

end Go.Proofs.Ytjjldepikokogaa.B
set_option maxRecDepth 20000
set_option maxHeartbeats 1000000
namespace Go.Proofs.Ytjjldepikokogaa.B
open Go Go.Ab
def shortT (ss : List (List Int)) : Bool := ss.all fun s => decide (s.length < 140737488355000)
theorem shortT_iff {ss : List (List Int)} : shortT ss = true ↔ ∀ s ∈ ss, s.length < 140737488355000 := by simp [shortT]
/-! numbers in a row -/
def putLs (us : List Int) : List Int := M.putL us.length ++ us.flatMap fun u => M.putL u.toNat
def u64s (us : List Int) : Bool := us.all fun u => decide (0 ≤ u) && decide (u < 18446744073709551616)
theorem u64s_iff {us : List Int} : u64s us = true ↔ ∀ u ∈ us, 0 ≤ u ∧ u < 18446744073709551616 := by simp [u64s]
theorem qs {v : V} {l : List Int} (h : ofInts .u64 v = some l) : demote v = v ∧ lenV Try.prog 65 v = some (.int .i64 l.length) ∧ (∀ k i, 0 ≤ i → i < (l.length : Int) → indexV Try.prog 65 v (.int k i) = some (.fptr (ints .u64 l) i.toNat)) := by
  have w := ofInts_inv h
  refine ⟨w.dem, w.size u65, fun k i h0 h1 => ?_⟩
  have := w.idx u65 z51 k i h0 h1
  rwa [Nat.mul_one] at this
theorem qlit2 (a b : Int) : listV Try.prog 65 2 [(0, .int .u64 a), (1, .int .u64 b)] = some (ints .u64 [a, b], 1) := by simp [listV, fillV, zeros, setCells, ints, List.replicate]
theorem putLs_len {us : List Int} (h : ∀ u ∈ us, 0 ≤ u ∧ u < 18446744073709551616) : ∀ i, i ≤ us.length → ((us.take i).flatMap fun u => M.putL u.toNat).length ≤ 10 * i
  | 0, _ => by simp
  | i + 1, hi => by
    have ih := putLs_len h i (by omega)
    have h1 := h _ (nth_mem (l := us) (i := i) (by omega))
    have := M.putL_len10 (u := (nth us i).toNat) (by omega)
    rw [take_nth (by omega), List.flatMap_append, List.length_append]
    simp only [List.flatMap_cons, List.flatMap_nil, List.append_nil]
    omega
theorem putVR_eq {u : Int} (h0 : 0 ≤ u) (h1 : u < 18446744073709551616) : putVR u = some (.lst (.fresh 1 true) (ints .u8 (M.putL u.toNat)) (M.putL u.toNat).length, none) := if_pos ⟨h0, h1⟩
noncomputable def k_PutList : Ab.Spec := con1 (ofInts .u64) fun us _ => bnd us.length 1000000000000 (if u64s us = true then some (.lst (.fresh 1 true) (ints .u8 (putLs us)) (putLs us).length, none) else none)
noncomputable def T_PutList : CallF := withF T_Order 27 k_PutList
theorem T_PutList_ok : CallOk Try.prog T_PutList := con_of (A := annOf [] [19] [(9, [.ref])] false []) fit T_Order_ok (fn := Try.f27) (by kernel_rfl) (by kernel_rfl) (by
  intro args objs r h0
  have c_VPut : ∀ a o, T_Order 25 a o = k_VPut a o := fun _ _ => rfl
  obtain ⟨v, us, rfl, ha, hR⟩ := con1_inv h0
  obtain ⟨hl, hR⟩ := bnd_inv hR
  split at hR
  case isFalse => cases hR
  rename_i hu8
  cases hR
  have hu := u64s_iff.1 hu8
  obtain ⟨vd, vn, vi⟩ := qs ha
  obtain ⟨E, hE⟩ : ∃ E : Nat → List Int, E = fun i => M.putL us.length ++ (us.take i).flatMap fun u => M.putL u.toNat := ⟨_, rfl⟩
  have hEn : E us.length = putLs us := by rw [hE]; simp [putLs]
  have hE0 : E 0 = M.putL us.length := by rw [hE]; simp
  have p10 := M.putL_len10 (u := us.length) (by omega)
  have hEl : ∀ j, j ≤ us.length → (E j).length ≤ 10 + 10 * j := fun j hj => by rw [hE]; have := putLs_len hu j hj; simp only [List.length_append]; omega
  have hp0 : putVR (us.length : Int) = some (.lst (.fresh 1 true) (ints .u8 (E 0)) (E 0).length, none) := by rw [putVR_nat (by omega), hE0]
  have wS : IntKind.u64.wrap (us.length : Int) = us.length := wrap_u64 (by omega) (by omega)
  rw [← hEn]
  refine .go _ rfl rfl ?_
  simp -implicitDefEqProofs (disch := omega) [vn, vd, c_VPut, k_VPut, hp0, convV, wS]
  obtain ⟨I, hI⟩ : ∃ I : Nat → St → Prop, I = (fun (i : Nat) (s : St) => s.env 10 = v ∧ s.env 11 = .int .i64 us.length ∧ s.env 12 = .int .i64 i ∧ s.env 3 = .ref objs.length i 0 (E i).length 1 ∧ s.toks = [] ∧ s.objs = objs ++ [.cells (ints .u8 (E i)) i] ∧ s.low = objs.length) := ⟨_, rfl⟩
  refine .up us.length I (by rw [hI]; exact ⟨by simp, by simp, by simp, by simp, by simp, by simp, by simp⟩) ?_
  intro i s hi hs
  rw [hI] at hs
  obtain ⟨g10, g11, g12, g3, ht, ho, hlo⟩ := hs
  rcases Nat.lt_or_ge i us.length with h | h
  · have e0 := ints_nth (k := .u64) h
    have e0' := of_get e0
    have h1 := hu _ (nth_mem h)
    obtain ⟨A, hA⟩ : ∃ A, A = M.putL (nth us i).toNat := ⟨_, rfl⟩
    have hAl : A.length ≤ 10 := by rw [hA]; exact M.putL_len10 (by omega)
    have q1 : putVR (nth us i) = some (.lst (.fresh 1 true) (ints .u8 A) A.length, none) := by rw [hA]; exact putVR_eq h1.1 h1.2
    have es : ints .u8 (E i) ++ ints .u8 A = ints .u8 (E (i + 1)) := by rw [ints_app, hE, hA]; simp only [take_nth h, List.flatMap_append, List.flatMap_cons, List.flatMap_nil, List.append_nil, List.append_assoc]
    have esl : (E (i + 1)).length = (E i).length + A.length := by have := congrArg List.length es; simpa using this.symm
    have hEi := hEl i (by omega)
    have e1 := vi .i64 i (by omega) (by omega)
    rw [Int.toNat_natCast] at e1
    simp -implicitDefEqProofs (disch := omega) [g10, g11, g12, g3, ht, ho, hlo, e1, e0, e0', h, c_VPut, k_VPut, q1, es, esl, Nat.mod_one, wrap_small]
    rw [hI]
    exact ⟨by simp [g10], by simp [g11], by simp, by simp [esl], by simp, by simp, by simp⟩
  · obtain rfl : i = us.length := by omega
    simp -implicitDefEqProofs (disch := omega) [g10, g11, g12, g3, ht, ho, hlo])
/-! texts, each by what it shares with the one ahead -/
def sameAt (ss : List (List Int)) (i : Nat) : Nat := if i % 16 = 0 then 0 else sharedN (nth ss (i - 1)) (nth ss i)
def entB (ss : List (List Int)) (i : Nat) : List Int := M.putL (sameAt ss i) ++ (M.putL ((nth ss i).length - sameAt ss i) ++ (nth ss i).drop (sameAt ss i))
def encT (ss : List (List Int)) (i : Nat) : List Int := M.putL ss.length ++ (List.range i).flatMap (entB ss)
def encP (ss : List (List Int)) : List Int := encT ss ss.length
def encBad (ss : List (List Int)) : Bool := decide (4096 < ss.length) || ss.any fun s => decide (200 < s.length)
theorem encT_succ (ss : List (List Int)) (i : Nat) : encT ss (i + 1) = encT ss i ++ entB ss i := by simp [encT, List.range_succ]
theorem sameAt_le (ss : List (List Int)) (i : Nat) : sameAt ss i ≤ (nth ss i).length := by
  unfold sameAt; split
  · omega
  · exact (sharedN_le _ _).2
theorem entB_len {ss : List (List Int)} {i : Nat} (h : (nth ss i).length ≤ 200) : (entB ss i).length ≤ 220 := by
  have h1 := sameAt_le ss i
  have h2 := M.putL_len10 (u := sameAt ss i) (by omega)
  have h3 := M.putL_len10 (u := (nth ss i).length - sameAt ss i) (by omega)
  simp only [entB, List.length_append, List.length_drop]; omega
theorem encT_len {ss : List (List Int)} (hn : ss.length ≤ 4096) : ∀ i, (∀ j, j < i → (nth ss j).length ≤ 200) → (encT ss i).length ≤ 10 + 220 * i
  | 0, _ => by have := M.putL_len10 (u := ss.length) (by omega); simpa [encT] using this
  | i + 1, h => by
    have h1 := encT_len hn i (fun j hj => h j (by omega))
    have h2 := entB_len (h i (by omega))
    rw [encT_succ, List.length_append]; omega
theorem nth_of_mem {α : Type} [Inhabited α] {l : List α} {a : α} (h : a ∈ l) : ∃ j, j < l.length ∧ nth l j = a := by
  obtain ⟨j, hj, rfl⟩ := List.getElem_of_mem h
  exact ⟨j, hj, nth_lt hj⟩
theorem not_bad {ss : List (List Int)} (h : encBad ss = false) : ss.length ≤ 4096 ∧ ∀ i, i < ss.length → (nth ss i).length ≤ 200 := by
  unfold encBad at h
  simp only [Bool.or_eq_false_iff, decide_eq_false_iff_not, List.any_eq_false, decide_eq_true_eq] at h
  exact ⟨by omega, fun i hi => by have := h.2 _ (nth_mem hi); omega⟩
theorem bad_at {ss : List (List Int)} {i : Nat} (hi : i < ss.length) (h : 200 < (nth ss i).length) : encBad ss = true := by
  unfold encBad
  simp only [Bool.or_eq_true, decide_eq_true_eq, List.any_eq_true]
  exact .inr ⟨_, nth_mem hi, h⟩
/-- Texts that come in. -/
theorem tx {v : V} {ss : List (List Int)} (h : ofList (ofInts .u8) v = some ss) : demote v = v ∧ lenV Try.prog 22 v = some (.int .i64 ss.length) ∧ ∃ cs, (∀ k i, 0 ≤ i → i < (ss.length : Int) → indexV Try.prog 22 v (.int k i) = some (.fptr cs i.toNat)) ∧ ∀ i, i < ss.length → ∃ c, cs[i]? = some c ∧ (∀ hh : i < cs.length, cs[i]'hh = c) ∧ ofInts .u8 c = some (nth ss i) := by
  obtain ⟨cs, hv, hn, hc⟩ := ofList_inv h
  refine ⟨hv.dem, hv.size u22, cs, fun k i h0 h1 => ?_, fun i hi => ?_⟩
  · have := hv.idx u22 z25 k i h0 h1
    rwa [Nat.mul_one] at this
  · obtain ⟨c, h1, h2, h3⟩ := hc i hi
    exact ⟨c, h1, h2, h3⟩
noncomputable def k_pEncode : Ab.Spec := con1 (ofList (ofInts .u8)) fun ss _ => bnd ss.length 140737488355328 (if shortT ss = true then some (if encBad ss = true then .tup [.nils, .int .i64 4] else .tup [.lst (.fresh 1 true) (ints .u8 (encP ss)) (encP ss).length, .int .i64 0], none) else none)
noncomputable def T_pEncode : CallF := withF T_PutList 9 k_pEncode
theorem T_pEncode_ok : CallOk Try.prog T_pEncode := con_of (A := annOf [] [46,51] [(14, [.ref])] false []) fit T_PutList_ok (fn := Try.f9) (by kernel_rfl) (by kernel_rfl) (by
  intro args objs r h0
  have c_VPut : ∀ a o, T_PutList 25 a o = k_VPut a o := fun _ _ => rfl
  have c_PutList : ∀ a o, T_PutList 27 a o = k_PutList a o := fun _ _ => rfl
  have c_shared : ∀ a o, T_PutList 26 a o = k_shared a o := fun _ _ => rfl
  obtain ⟨v, ss, rfl, ha, hR⟩ := con1_inv h0
  obtain ⟨hl, hR⟩ := bnd_inv hR
  split at hR
  case isFalse => cases hR
  rename_i hall
  cases hR
  have hall := shortT_iff.1 hall
  obtain ⟨vd, vn, cs, vi, vc⟩ := tx ha
  refine .go _ rfl rfl ?_
  by_cases hbig : 4096 < ss.length
  · have hb : encBad ss = true := by simp [encBad, hbig]
    have hb' : (4096 : Int) < ss.length := by omega
    simp -implicitDefEqProofs (disch := omega) [vn, hb, hb', hbig]
  have wS : IntKind.u64.wrap (ss.length : Int) = ss.length := wrap_u64 (by omega) (by omega)
  obtain ⟨E, hE⟩ : ∃ E, E = encT ss := ⟨_, rfl⟩
  have hE0 : E 0 = M.putL ss.length := by rw [hE]; simp [encT]
  have hp0 : putVR (ss.length : Int) = some (.lst (.fresh 1 true) (ints .u8 (E 0)) (E 0).length, none) := by rw [putVR_nat (by omega), hE0]
  simp -implicitDefEqProofs (disch := omega) [vn, hbig, c_VPut, k_VPut, hp0, convV, wS]
  obtain ⟨I, hI⟩ : ∃ I : Nat → St → Prop, I = (fun (i : Nat) (s : St) => (∀ j, j < i → (nth ss j).length ≤ 200) ∧ s.env 0 = v ∧ s.env 15 = v ∧ s.env 16 = .int .i64 ss.length ∧ s.env 17 = .int .i64 i ∧ s.env 4 = .ref objs.length (2 * i) 0 (E i).length 1 ∧ s.toks = [] ∧ s.objs = objs ++ [.cells (ints .u8 (E i)) (2 * i)] ∧ s.low = objs.length) := ⟨_, rfl⟩
  refine .up ss.length I (by rw [hI]; exact ⟨by omega, by simp, by simp, by simp, by simp, by simp, by simp, by simp, by simp⟩) ?_
  intro i s hi hs
  rw [hI] at hs
  obtain ⟨h200, g0, g15, g16, g17, g4, ht, ho, hlo⟩ := hs
  have hEl : (E i).length ≤ 10 + 220 * i := by rw [hE]; exact encT_len (by omega) i h200
  rcases Nat.lt_or_ge i ss.length with h | h
  · obtain ⟨c, c1, c1', c2⟩ := vc i h
    obtain ⟨cd, cn, ci, ca, -⟩ := bs c2
    have e1 := vi .i64 i (by omega) (by omega)
    rw [Int.toNat_natCast] at e1
    by_cases hlong : 200 < (nth ss i).length
    · have hb := bad_at h hlong
      have hb' : (200 : Int) < (nth ss i).length := by omega
      simp -implicitDefEqProofs (disch := omega) [g0, g15, g16, g17, g4, ht, ho, hlo, vn, e1, c1, c1', cd, cn, h, hb, hb', hlong]
    · obtain ⟨L, hL⟩ : ∃ L, L = nth ss i := ⟨_, rfl⟩
      have hsl := sameAt_le ss i
      rw [← hL] at c2 cn ci ca hlong hsl
      obtain ⟨k, hk⟩ : ∃ k, k = sameAt ss i := ⟨_, rfl⟩
      rw [← hk] at hsl
      have h200' : ∀ j, j < i + 1 → (nth ss j).length ≤ 200 := fun j hj => by
        rcases Nat.lt_or_ge j i with q | q
        · exact h200 j q
        · obtain rfl : j = i := by omega
          rw [← hL]; omega
      obtain ⟨w', cw, dw⟩ := bcut c2 (objs ++ [.cells (ints .u8 (E i ++ (M.putL k ++ M.putL (L.length - k)))) (2 * i + 1)]) (some (.int .i64 (k : Int))) none k L.length (by simp [boundV]) (by simp [boundV]) hsl (Nat.le_refl _)
      rw [List.take_length] at dw
      obtain ⟨wd, wn, -, wa, -⟩ := bs dw
      have wk : IntKind.u64.wrap (k : Int) = k := wrap_u64 (by omega) (by omega)
      have wl1 : IntKind.i64.wrap ((L.length : Int) - k) = ((L.length - k : Nat) : Int) := by rw [wrap_small (by omega) (by omega)]; omega
      have wl2 : IntKind.u64.wrap ((L.length - k : Nat) : Int) = ((L.length - k : Nat) : Int) := wrap_u64 (by omega) (by omega)
      obtain ⟨n, hn⟩ : ∃ n, n = L.length - k := ⟨_, rfl⟩
      rw [← hn] at wl1 wl2 cw
      have hu : u64s [(k : Int), (n : Int)] = true := by rw [u64s_iff]; intro u hu; simp at hu; omega
      have ql : ofInts .u64 (.lst .frozen (ints .u64 [(k : Int), (n : Int)]) 2) = some [(k : Int), (n : Int)] := ofInts_lst rfl
      have pls : putLs [(k : Int), (n : Int)] = 2 :: (M.putL k ++ M.putL n) := by
        have : M.putL 2 = [2] := M.putL_small (by omega)
        simp [putLs, this]
      obtain ⟨Q, hQ⟩ : ∃ Q, Q = M.putL k ++ M.putL n := ⟨_, rfl⟩
      rw [← hQ] at pls cw
      have hQl : Q.length ≤ 20 := by
        have h2 := M.putL_len10 (u := k) (by omega)
        have h3 := M.putL_len10 (u := n) (by omega)
        rw [hQ, List.length_append]; omega
      have tk : List.take (Q.length + 1 - 1) (ints .u8 Q) = ints .u8 Q := List.take_of_length_le (by simp)
      have tk2 : List.take Q.length (ints .u8 Q) = ints .u8 Q := List.take_of_length_le (by simp)
      have i2 : ints .u8 (2 :: Q) = .int .u8 2 :: ints .u8 Q := rfl
      have es : E (i + 1) = E i ++ Q ++ L.drop k := by rw [hE, encT_succ]; unfold entB; rw [← hk, ← hL, ← hn, hQ]; simp
      have esl : (E (i + 1)).length = (E i).length + Q.length + n := by rw [es]; simp; omega
      have es1 : ints .u8 (E i) ++ ints .u8 Q = ints .u8 (E i ++ Q) := ints_app
      have es2 : ints .u8 (E i ++ Q) ++ ints .u8 (L.drop k) = ints .u8 (E (i + 1)) := by rw [es]; exact ints_app
      have ldl : (L.drop k).length = n := by rw [List.length_drop]; omega
      have v1 : 2 * i + 1 + 1 = 2 * (i + 1) := by omega
      simp -implicitDefEqProofs (disch := omega) [g0, g15, g16, g17, g4, ht, ho, hlo, vn, e1, c1, c1', cd, cn, h, hlong]
      refine .stop (M := fun e s => e = .norm ∧ s.env 0 = v ∧ s.env 15 = v ∧ s.env 16 = .int .i64 ss.length ∧ s.env 17 = .int .i64 i ∧ s.env 4 = .ref objs.length (2 * i) 0 (E i).length 1 ∧ s.env 6 = c ∧ s.env 7 = .int .i64 k ∧ s.toks = [] ∧ s.objs = objs ++ [.cells (ints .u8 (E i)) (2 * i)] ∧ s.low = objs.length) ?_ ?_
      · by_cases hm : i % 16 = 0
        · have hk0 : k = 0 := by rw [hk]; unfold sameAt; rw [if_pos hm]
          have hm' : ((i : Int).tmod 16) = 0 := by rw [Int.tmod_eq_emod_of_nonneg (by omega)]; omega
          have hm2 : ((i : Int) % 16) = 0 := by omega
          simp -implicitDefEqProofs (disch := omega) [g0, g15, g16, g17, g4, ht, ho, hlo, hm', hm2, hk0, At]
        · have hm' : (0 : Int) < ((i : Int).tmod 16) := by rw [Int.tmod_eq_emod_of_nonneg (by omega)]; omega
          have hm2 : (0 : Int) < ((i : Int) % 16) := by omega
          have hk1 : k = sharedN (nth ss (i - 1)) L := by rw [hk, hL]; unfold sameAt; rw [if_neg hm]
          obtain ⟨d, d1, d1', d2⟩ := vc (i - 1) (by omega)
          obtain ⟨dd, -⟩ := bs d2
          have e2 := vi .i64 ((i : Int) - 1) (by omega) (by omega)
          have ti : ((i : Int) - 1).toNat = i - 1 := by omega
          rw [ti] at e2
          have hii : i - 1 < ss.length := by omega
          have wi1 : IntKind.i64.wrap ((i : Int) - 1) = (i : Int) - 1 := wrap_small (by omega) (by omega)
          have q1 : ofIntsR .u8 s.objs d = some (nth ss (i - 1)) := ofIntsR_of d2
          have q2 : ofIntsR .u8 s.objs c = some L := ofIntsR_of c2
          rw [ho] at q1 q2
          have hll := h200 (i - 1) (by omega)
          simp -implicitDefEqProofs (disch := omega) [g0, g15, g16, g17, g4, ht, ho, hlo, hm', hm2, wi1, e2, d1, d1', dd, cd, c_shared, k_shared, q1, q2, hk1, At]
      rintro e s ⟨rfl, g0, g15, g16, g17, g4, g6, g7, ht, ho, hlo⟩
      simp -implicitDefEqProofs (disch := omega) [g0, g15, g16, g17, g4, g6, g7, ht, ho, hlo, cd, cn, c_PutList, k_PutList, convV, wk, wl1, wl2, qlit2, ql, hu, pls, hQl, i2, tk, tk2, es1, es2, esl, cw, wd, wn, wa, ldl, Nat.mod_one, v1, wrap_small]
      rw [hI]
      exact ⟨h, h200', by simp [g0], by simp [g15], by simp [g16], by simp, by simp [esl], by simp, by simp, by simp⟩
  · obtain rfl : i = ss.length := by omega
    have hnb : encBad ss = false := by
      unfold encBad
      simp only [Bool.or_eq_false_iff, decide_eq_false_iff_not, List.any_eq_false, decide_eq_true_eq]
      refine ⟨hbig, fun s hs => ?_⟩
      obtain ⟨j, hj, rfl⟩ := nth_of_mem hs
      have := h200 j hj; omega
    have hfin : E ss.length = encP ss := by rw [hE]; rfl
    simp -implicitDefEqProofs (disch := omega) [g0, g15, g16, g17, g4, ht, ho, hlo, vn, hnb, hfin])

end Go.Proofs.Ytjjldepikokogaa.B
set_option maxRecDepth 20000
set_option maxHeartbeats 1000000
namespace Go.Proofs.Ytjjldepikokogaa.B
open Go Go.Ab
noncomputable def k_rput11 : Ab.Spec := con2 some some fun v w objs => match v, ofInts .u8 w with
  | .ref id ver 0 n 1, some b => match Ab.getObj objs id ver with
    | some cs => bnd (n + b.length) 140737488355000 (if cs.length = n then some (.ref id (ver + b.length) 0 (n + b.length) 1, if b.length = 0 then none else some (objs.set id (.cells (cs ++ ints .u8 b) (ver + b.length)), id)) else none)
    | none => none
  | _, _ => none
noncomputable def T_rput11 : CallF := withF T_pEncode 30 k_rput11
theorem T_rput11_ok : CallOk Try.prog T_rput11 := con_of (A := annOf [] [18] [] false []) fit T_pEncode_ok (fn := Try.f30) (by kernel_rfl) (by kernel_rfl) (by
  intro args objs r h0
  obtain ⟨v, w, _, _, rfl, hv, hw, hR⟩ := con2_inv h0
  cases hv; cases hw
  split at hR
  case h_2 => cases hR
  rename_i id ver n b hb
  split at hR
  case h_2 => cases hR
  rename_i cs hg
  obtain ⟨hl, hR⟩ := bnd_inv hR
  split at hR
  case isFalse => cases hR
  rename_i hn
  subst hn
  cases hR
  have hid := getObj_lt hg
  obtain ⟨wd, wn, wi, -⟩ := bs hb
  have hlt : ¬ objs.length ≤ id := by omega
  refine .go _ rfl rfl ?_
  simp
  obtain ⟨I, hI⟩ : ∃ I : Nat → St → Prop, I = (fun (i : Nat) (s : St) => s.env 0 = .ref id (ver + i) 0 (cs.length + i) 1 ∧ s.env 1 = w ∧ s.env 5 = .int .i64 i ∧ s.toks = [] ∧ s.objs = (if i = 0 then objs else objs.set id (.cells (cs ++ ints .u8 (b.take i)) (ver + i))) ∧ s.low = if i = 0 then objs.length else id) := ⟨_, rfl⟩
  refine .up b.length I (by rw [hI]; exact ⟨by simp, by simp, by simp, by simp, by simp, by simp⟩) ?_
  intro i s hi hs
  rw [hI] at hs
  obtain ⟨h0, h1, h5, ht, ho, hlo⟩ := hs
  rcases Nat.lt_or_ge i b.length with h | h
  · have e := take_nth h
    have e0 := ints_nth (k := .u8) h
    have e0' := of_get e0
    have e1 := wi .i64 i (by omega) (by omega)
    rw [Int.toNat_natCast] at e1
    have hgs : Ab.getObj s.objs id (ver + i) = some (cs ++ ints .u8 (b.take i)) := by
      rw [ho]
      by_cases z : i = 0
      · subst z; simp [hg, ints_nil]
      · rw [if_neg z]; exact getObj_set hid
    have hset : s.objs.set id (.cells (cs ++ ints .u8 (b.take i) ++ [.int .u8 (nth b i)]) (ver + i + 1)) = objs.set id (.cells (cs ++ ints .u8 (b.take (i + 1))) (ver + (i + 1))) := by
      rw [ho, e, List.append_assoc, ints_snoc]
      by_cases z : i = 0
      · subst z; simp
      · rw [if_neg z, List.set_set]; rfl
    have hlow : (if id < s.low then id else s.low) = id := by
      rw [hlo]
      by_cases z : i = 0
      · rw [if_pos z, if_pos hid]
      · rw [if_neg z, if_neg (by omega)]
    have hm : min i b.length = i := by omega
    rw [List.append_assoc, ints_snoc] at hset
    simp -implicitDefEqProofs (disch := omega) [h0, h1, h5, ht, wn, e1, e0, e0', h, blit1, hgs, hset, hlow, hm, Nat.mod_one, wrap_small]
    rw [hI]
    exact ⟨by simp; omega, by simp [h1], by simp, by simp, by simp, by simp⟩
  · obtain rfl : i = b.length := by omega
    rw [List.take_length] at ho
    by_cases z : b.length = 0
    · rw [if_pos z] at ho hlo
      simp -implicitDefEqProofs (disch := omega) [h0, h1, h5, ht, ho, hlo, wn, hid, z]
      exact List.eq_nil_of_length_eq_zero z
    · rw [if_neg z] at ho hlo
      have htk : (objs.set id (AO.cells (cs ++ ints .u8 b) (ver + b.length))).take objs.length = objs.set id (AO.cells (cs ++ ints .u8 b) (ver + b.length)) := List.take_of_length_le (by simp)
      simp -implicitDefEqProofs (disch := omega) [h0, h1, h5, ht, ho, hlo, wn, hid, z, htk]
      exact fun q => z (by rw [q]; rfl))
noncomputable def k_rpEncode : Ab.Spec := con1 (ofList (ofInts .u8)) fun ss _ => bnd ss.length 140737488355328 (if shortT ss = true then some (if encBad ss = true then .tup [.nils, .int .i64 4] else .tup [.lst (.fresh 1 true) (ints .u8 (encP ss)) (encP ss).length, .int .i64 0], none) else none)
noncomputable def T_rpEncode : CallF := withF T_rput11 10 k_rpEncode
theorem T_rpEncode_ok : CallOk Try.prog T_rpEncode := con_of (A := annOf [] [] [(14, [.ref])] false [30]) fit T_rput11_ok (fn := Try.f10) (by kernel_rfl) (by kernel_rfl) (by
  intro args objs r h0
  have c_RPut : ∀ a o, T_rput11 28 a o = k_RPut a o := fun _ _ => rfl
  have c_rput11 : ∀ a o, T_rput11 30 a o = k_rput11 a o := fun _ _ => rfl
  have c_rsame : ∀ a o, T_rput11 29 a o = k_rsame a o := fun _ _ => rfl
  obtain ⟨v, ss, rfl, ha, hR⟩ := con1_inv h0
  obtain ⟨hl, hR⟩ := bnd_inv hR
  split at hR
  case isFalse => cases hR
  rename_i hall
  cases hR
  have hall := shortT_iff.1 hall
  obtain ⟨vd, vn, cs, vi, vc⟩ := tx ha
  refine .go _ rfl rfl ?_
  by_cases hbig : 4096 < ss.length
  · have hb : encBad ss = true := by simp [encBad, hbig]
    have hb' : (4096 : Int) < ss.length := by omega
    simp -implicitDefEqProofs (disch := omega) [vn, hb, hb', hbig]
  have wS : IntKind.u64.wrap (ss.length : Int) = ss.length := wrap_u64 (by omega) (by omega)
  obtain ⟨E, hE⟩ : ∃ E, E = encT ss := ⟨_, rfl⟩
  have hE0 : E 0 = M.putL ss.length := by rw [hE]; simp [encT]
  have hp0 : putVR (ss.length : Int) = some (.lst (.fresh 1 true) (ints .u8 (E 0)) (E 0).length, none) := by rw [putVR_nat (by omega), hE0]
  simp -implicitDefEqProofs (disch := omega) [vn, hbig, c_RPut, k_RPut, hp0, convV, wS]
  refine .up ss.length (fun i s => (∀ j, j < i → (nth ss j).length ≤ 200) ∧ s.env 0 = v ∧ s.env 5 = .int .i64 i ∧ s.env 4 = .ref objs.length 0 0 (E 0).length 1 ∧ s.toks = [] ∧ s.objs = objs ++ [.cells (ints .u8 (E 0)) 0] ∧ s.low = objs.length) (by simp) ?_
  rintro i s hi ⟨h200, g0, g5, g4, ht, ho, hlo⟩
  rcases Nat.lt_or_ge i ss.length with h | h
  · obtain ⟨c, c1, c1', c2⟩ := vc i h
    obtain ⟨cd, cn, -⟩ := bs c2
    have e1 := vi .i64 i (by omega) (by omega)
    rw [Int.toNat_natCast] at e1
    by_cases hlong : 200 < (nth ss i).length
    · have hb := bad_at h hlong
      simp -implicitDefEqProofs (disch := omega) [g0, g5, g4, ht, ho, hlo, vn, e1, c1, c1', cd, cn, h, hb, hlong]
    · have h200' : ∀ j, j < i + 1 → (nth ss j).length ≤ 200 := fun j hj => by
        rcases Nat.lt_or_ge j i with q | q
        · exact h200 j q
        · obtain rfl : j = i := by omega
          omega
      simp -implicitDefEqProofs (disch := omega) [g0, g5, g4, ht, ho, hlo, vn, e1, c1, c1', cd, cn, h, hlong, wrap_small]
      exact h200'
  obtain rfl : i = ss.length := by omega
  have hnb : encBad ss = false := by
    unfold encBad
    simp only [Bool.or_eq_false_iff, decide_eq_false_iff_not, List.any_eq_false, decide_eq_true_eq]
    refine ⟨hbig, fun s hs => ?_⟩
    obtain ⟨j, hj, rfl⟩ := nth_of_mem hs
    have := h200 j hj; omega
  simp -implicitDefEqProofs (disch := omega) [g0, g5, g4, ht, ho, hlo, vn, hnb]
  obtain ⟨I, hI⟩ : ∃ I : Nat → St → Prop, I = (fun (i : Nat) (s : St) => s.env 0 = v ∧ s.env 6 = .int .i64 i ∧ s.toks = [] ∧ s.low = objs.length ∧ ∃ ver, s.env 4 = .ref objs.length ver 0 (E i).length 1 ∧ s.objs = objs ++ [.cells (ints .u8 (E i)) ver]) := ⟨_, rfl⟩
  refine .up ss.length I (by rw [hI]; exact ⟨by simp [g0], by simp, by simp, by simp, 0, by simp [g4], by simp⟩) ?_
  intro i s hi hs
  rw [hI] at hs
  obtain ⟨g0, g6, ht, hlo, ver, g4, ho⟩ := hs
  have hEl : (E i).length ≤ 10 + 220 * i := by rw [hE]; exact encT_len (by omega) i (fun j hj => h200 j (by omega))
  rcases Nat.lt_or_ge i ss.length with h | h
  · obtain ⟨c, c1, c1', c2⟩ := vc i h
    obtain ⟨cd, cn, ci, ca, -⟩ := bs c2
    have e1 := vi .i64 i (by omega) (by omega)
    rw [Int.toNat_natCast] at e1
    have hLl := h200 i h
    obtain ⟨L, hL⟩ : ∃ L, L = nth ss i := ⟨_, rfl⟩
    have hsl := sameAt_le ss i
    rw [← hL] at c2 cn ci ca hLl hsl
    obtain ⟨k, hk⟩ : ∃ k, k = sameAt ss i := ⟨_, rfl⟩
    rw [← hk] at hsl
    have wk : IntKind.u64.wrap (k : Int) = k := wrap_u64 (by omega) (by omega)
    have wl1 : IntKind.i64.wrap ((L.length : Int) - k) = ((L.length - k : Nat) : Int) := by rw [wrap_small (by omega) (by omega)]; omega
    have wl2 : IntKind.u64.wrap ((L.length - k : Nat) : Int) = ((L.length - k : Nat) : Int) := wrap_u64 (by omega) (by omega)
    obtain ⟨n, hn⟩ : ∃ n, n = L.length - k := ⟨_, rfl⟩
    rw [← hn] at wl1 wl2
    obtain ⟨A, hA⟩ : ∃ A, A = M.putL k := ⟨_, rfl⟩
    obtain ⟨B, hB⟩ : ∃ B, B = M.putL n := ⟨_, rfl⟩
    have hAl : A.length ≤ 10 := by rw [hA]; exact M.putL_len10 (by omega)
    have hBl : B.length ≤ 10 := by rw [hB]; exact M.putL_len10 (by omega)
    have hA0 : 0 < A.length := by rw [hA]; exact M.putL_pos k
    have hB0 : 0 < B.length := by rw [hB]; exact M.putL_pos n
    have q1 : putVR (k : Int) = some (.lst (.fresh 1 true) (ints .u8 A) A.length, none) := by rw [putVR_nat (by omega), hA]
    have q2 : putVR (n : Int) = some (.lst (.fresh 1 true) (ints .u8 B) B.length, none) := by rw [putVR_nat (by omega), hB]
    have eA : ofInts .u8 (.lst .frozen (ints .u8 A) A.length) = some A := ofInts_lst rfl
    have eB : ofInts .u8 (.lst .frozen (ints .u8 B) B.length) = some B := ofInts_lst rfl
    have zA : ¬ A = [] := fun q => by rw [q] at hA0; exact absurd hA0 (by decide)
    have zB : ¬ B = [] := fun q => by rw [q] at hB0; exact absurd hB0 (by decide)
    have es : E (i + 1) = E i ++ A ++ B ++ L.drop k := by rw [hE, encT_succ]; unfold entB; rw [← hk, ← hL, ← hn, hA, hB]; simp
    have ldl : (L.drop k).length = n := by rw [List.length_drop]; omega
    have esl : (E (i + 1)).length = (E i).length + A.length + B.length + n := by rw [es]; simp only [List.length_append, ldl]
    have hcut : ∀ O, ∃ w', cutV Try.prog 25 O c (some (.int .i64 (k : Int))) none none = some w' ∧ ofInts .u8 w' = some (L.drop k) := fun O => by
      obtain ⟨w', cw, dw⟩ := bcut c2 O (some (.int .i64 (k : Int))) none k L.length (by simp [boundV]) (by simp [boundV]) hsl (Nat.le_refl _)
      rw [List.take_length] at dw
      exact ⟨w', cw, dw⟩
    obtain ⟨W, hW⟩ := (Classical.skolem (p := fun O w' => cutV Try.prog 25 O c (some (.int .i64 (k : Int))) none none = some w' ∧ ofInts .u8 w' = some (L.drop k))).1 hcut
    have hW1 := fun O => (hW O).1
    have hW2 := fun O => (hW O).2
    have hW3 := fun O => (bs (hW O).2).1
    simp -implicitDefEqProofs (disch := omega) [g0, g6, g4, ht, ho, hlo, vn, e1, c1, c1', cd, cn, h]
    refine .stop (M := fun e s => e = .norm ∧ s.env 0 = v ∧ s.env 6 = .int .i64 i ∧ s.env 4 = .ref objs.length ver 0 (E i).length 1 ∧ s.env 7 = .int .i64 k ∧ s.toks = [] ∧ s.objs = objs ++ [.cells (ints .u8 (E i)) ver] ∧ s.low = objs.length) ?_ ?_
    · by_cases hm : i % 16 = 0
      · have hk0 : k = 0 := by rw [hk]; unfold sameAt; rw [if_pos hm]
        have hm' : ((i : Int).tmod 16) = 0 := by rw [Int.tmod_eq_emod_of_nonneg (by omega)]; omega
        have hm2 : ((i : Int) % 16) = 0 := by omega
        simp -implicitDefEqProofs (disch := omega) [g0, g6, g4, ht, ho, hlo, hm', hm2, hk0, At]
      · have hm' : ¬ ((i : Int).tmod 16) = 0 := by rw [Int.tmod_eq_emod_of_nonneg (by omega)]; omega
        have hm2 : ¬ ((i : Int) % 16) = 0 := by omega
        have hk1 : k = sharedN (nth ss (i - 1)) L := by rw [hk, hL]; unfold sameAt; rw [if_neg hm]
        obtain ⟨d, d1, d1', d2⟩ := vc (i - 1) (by omega)
        obtain ⟨dd, -⟩ := bs d2
        have e2 := vi .i64 ((i : Int) - 1) (by omega) (by omega)
        have ti : ((i : Int) - 1).toNat = i - 1 := by omega
        rw [ti] at e2
        have hii : i - 1 < ss.length := by omega
        have wi1 : IntKind.i64.wrap ((i : Int) - 1) = (i : Int) - 1 := wrap_small (by omega) (by omega)
        have q1 : ofIntsR .u8 s.objs d = some (nth ss (i - 1)) := ofIntsR_of d2
        have q2 : ofIntsR .u8 s.objs c = some L := ofIntsR_of c2
        rw [ho] at q1 q2
        have hll := h200 (i - 1) (by omega)
        simp -implicitDefEqProofs (disch := omega) [g0, g6, g4, ht, ho, hlo, hm', hm2, wi1, e1, e2, c1, c1', d1, d1', dd, cd, h, c_rsame, k_rsame, q1, q2, hk1, At]
    rintro e s ⟨rfl, g0, g6, g4, g7, ht, ho, hlo⟩
    by_cases hz : n = 0
    · have ldz : L.drop k = [] := List.eq_nil_of_length_eq_zero (by omega)
      have esz : ints .u8 (E i ++ A ++ B) = ints .u8 (E (i + 1)) := by rw [es, ldz, List.append_nil]
      rw [ldz] at hW2
      simp -implicitDefEqProofs (disch := omega) [g0, g6, g4, g7, ht, ho, hlo, e1, c1, c1', cd, cn, h, c_RPut, k_RPut, c_rput11, k_rput11, convV, wk, wl1, wl2, q1, q2, eA, eB, zA, zB, hW1, hW2, hW3, Nat.add_assoc, wrap_small]
      rw [hI]
      refine ⟨by simp [g0], by simp, by simp, by simp, ver + (A.length + B.length), ?_, ?_⟩
      · simp [esl, hz, Nat.add_assoc]
      · simpa [Nat.add_assoc] using esz
    · have zL : ¬ L.drop k = [] := fun q => by have := congrArg List.length q; rw [ldl] at this; exact hz this
      have esz : ints .u8 (E i ++ A ++ B ++ L.drop k) = ints .u8 (E (i + 1)) := by rw [es]
      simp -implicitDefEqProofs (disch := omega) [g0, g6, g4, g7, ht, ho, hlo, e1, c1, c1', cd, cn, h, c_RPut, k_RPut, c_rput11, k_rput11, convV, wk, wl1, wl2, q1, q2, eA, eB, zA, zB, hW1, hW2, hW3, zL, ldl, Nat.add_assoc, wrap_small]
      rw [hI]
      refine ⟨by simp [g0], by simp, by simp, by simp, ver + (A.length + (B.length + n)), ?_, ?_⟩
      · simp [esl, Nat.add_assoc]
      · simpa [ldl, Nat.add_assoc] using esz
  · obtain rfl : i = ss.length := by omega
    have hfin : E ss.length = encP ss := by rw [hE]; rfl
    simp -implicitDefEqProofs (disch := omega) [g0, g6, g4, ht, ho, hlo, vn, hfin])

end Go.Proofs.Ytjjldepikokogaa.B
