import Derived.Test.YtiaihiccaoibgaaDoorKeA
import Derived.Laws.BitsLemmas
import Derived.Test.YtiaihiccaoibgaaDoorAb33
set_option linter.unusedSimpArgs false
set_option linter.unusedVariables false
set_option linter.unusedSectionVars false
set_option maxRecDepth 20000
set_option maxHeartbeats 1000000
namespace Go.Proofs.YtiaihiccaoibgaaDoor.B
open Go Go.Ab
/-! numbers in few bytes, plain mathematics (turned from wip/blocks) -/
namespace M
open Go.RowKit
theorem w64 {x : Int} (h0 : -9223372036854775808 ≤ x) (h1 : x ≤ 9223372036854775807) : wrap64 x = x := by
  unfold wrap64; omega
theorem u64r (x : Int) : IntKind.u64.wrap x = x % 18446744073709551616 := by
  simp [IntKind.wrap, IntKind.bits, IntKind.signed]
theorem u32r (x : Int) : IntKind.u32.wrap x = x % 4294967296 := by
  simp [IntKind.wrap, IntKind.bits, IntKind.signed]
theorem u64w {x : Int} (h0 : 0 ≤ x) (h1 : x < 18446744073709551616) : IntKind.u64.wrap x = x := by
  rw [u64r]; omega
theorem wsucc {i : Nat} (h : i < 9223372036854775807) : wrap64 ((i : Int) + 1) = ((i + 1 : Nat) : Int) := by
  unfold wrap64; omega
theorem byteWf {x : Int} (h : (Lit.int .u8 x).wf = true) : 0 ≤ x ∧ x < 256 := by
  simp [Lit.wf, IntKind.min, IntKind.max, IntKind.signed, IntKind.bits] at h
  omega
theorem u64Wf {x : Int} (h : (Lit.int .u64 x).wf = true) : 0 ≤ x ∧ x < 18446744073709551616 := by
  simp [Lit.wf, IntKind.min, IntKind.max, IntKind.signed, IntKind.bits] at h
  omega
theorem i64Wf {x : Int} (h : (Lit.int .i64 x).wf = true) : -9223372036854775808 ≤ x ∧ x < 9223372036854775808 := by
  simp [Lit.wf, IntKind.min, IntKind.max, IntKind.signed, IntKind.bits] at h
  omega
def Bytes (l : List Int) : Prop := ∀ x ∈ l, 0 ≤ x ∧ x < 256
def U64s (l : List Int) : Prop := ∀ x ∈ l, 0 ≤ x ∧ x < 18446744073709551616
theorem bytesWf {l : List Int} (h : ∀ x ∈ l, (Lit.int .u8 x).wf = true) : Bytes l := fun x hx => byteWf (h x hx)
theorem u64sWf {l : List Int} (h : ∀ x ∈ l, (Lit.int .u64 x).wf = true) : U64s l := fun x hx => u64Wf (h x hx)
theorem Bytes.app {a b : List Int} (ha : Bytes a) (hb : Bytes b) : Bytes (a ++ b) := fun x hx => (List.mem_append.1 hx).elim (ha x) (hb x)
theorem Bytes.left {a b : List Int} (h : Bytes (a ++ b)) : Bytes a := fun x hx => h x (List.mem_append_left _ hx)
theorem Bytes.right {a b : List Int} (h : Bytes (a ++ b)) : Bytes b := fun x hx => h x (List.mem_append_right _ hx)
theorem Bytes.drop {a : List Int} (h : Bytes a) (n : Nat) : Bytes (a.drop n) := fun x hx => h x (List.mem_of_mem_drop hx)
theorem Bytes.take {a : List Int} (h : Bytes a) (n : Nat) : Bytes (a.take n) := fun x hx => h x (List.mem_of_mem_take hx)
theorem U64s.drop {a : List Int} (h : U64s a) (n : Nat) : U64s (a.drop n) := fun x hx => h x (List.mem_of_mem_drop hx)
theorem U64s.take {a : List Int} (h : U64s a) (n : Nat) : U64s (a.take n) := fun x hx => h x (List.mem_of_mem_take hx)
theorem drop_cons {l : List Int} {i : Nat} (h : i < l.length) : l.drop i = l[i] :: l.drop (i + 1) := List.drop_eq_getElem_cons h
theorem take_succ_snoc {l : List Int} {i : Nat} (h : i < l.length) : l.take (i + 1) = l.take i ++ [l[i]] := by rw [List.take_add_one, List.getElem?_eq_getElem h]; rfl
theorem pow_pos' (n : Nat) : (0 : Int) < 128 ^ n := Int.pow_pos (by decide)
theorem pow128 (n : Nat) : (128 : Int) ^ n = 2 ^ (7 * n) := by rw [Int.pow_mul]; rfl
theorem ipow_le {b : Int} (hb : 1 ≤ b) {m n : Nat} (h : m ≤ n) : b ^ m ≤ b ^ n := by
  obtain ⟨a, rfl⟩ := Int.eq_ofNat_of_zero_le (show 0 ≤ b by omega)
  exact_mod_cast Nat.pow_le_pow_right (by omega) h
theorem wraps_u64 (n : Int) (h0 : 0 ≤ n) (h1 : n < 2 ^ 64) : IntKind.u64.wrap n = n := by
  rw [u64r]; omega
theorem and127 {x : Int} (h0 : 0 ≤ x) (h1 : x < 256) : Go.bits .and .u8 x 127 = x % 128 := Go.bits_mask .u8 8 (by decide) Go.wraps_u8 7 (by decide) x h0 h1
theorem or_low {j : Nat} {x y : Int} (hx0 : 0 ≤ x) (hx : x < 2 ^ j) (hy0 : 0 ≤ y) (hb : x + y * 2 ^ j < 2 ^ 64) :
    Go.bits .or .u64 x (y * 2 ^ j) = x + y * 2 ^ j := by
  have hp : (0 : Int) < 2 ^ j := Int.pow_pos (by decide)
  obtain ⟨a, rfl⟩ := Int.eq_ofNat_of_zero_le hx0
  obtain ⟨b, rfl⟩ := Int.eq_ofNat_of_zero_le hy0
  have ha : a < 2 ^ j := by exact_mod_cast hx
  have hab : a + b * 2 ^ j < 2 ^ 64 := by exact_mod_cast hb
  have e : ((b : Int) * 2 ^ j) = ((2 ^ j * b : Nat) : Int) := by rw [Nat.mul_comm]; simp
  have hc : a + 2 ^ j * b < 2 ^ 64 := by rw [Nat.mul_comm]; exact hab
  rw [e, (Go.bits_nat .u64 64 (by decide) wraps_u64 a (2 ^ j * b) (by omega) (by omega)).2, Nat.or_comm, ← Nat.two_pow_add_eq_or_of_lt ha b]
  omega
def putL (u : Nat) : List Int := if u < 128 then [(u : Int)] else ((u % 128 + 128 : Nat) : Int) :: putL (u / 128)
theorem putL_small {u : Nat} (h : u < 128) : putL u = [(u : Int)] := by rw [putL, if_pos h]
theorem putL_big {u : Nat} (h : ¬ u < 128) : putL u = ((u % 128 + 128 : Nat) : Int) :: putL (u / 128) := by rw [putL, if_neg h]
def getL : List Int → Nat → Except Int (Int × Nat)
  | [], _ => .error 2
  | c :: r, i => if i = 9 ∧ c > 1 then .error 20 else if c ≥ 128 then (match getL r (i + 1) with | .ok (v, n) => .ok (c - 128 + 128 * v, n + 1) | .error e => .error e)
    else if c = 0 ∧ i > 0 then .error 5 else .ok (c, 1)
theorem putL_bytes (n : Nat) : ∀ u, u < n → Bytes (putL u) := by
  induction n with
  | zero => intro u h; omega
  | succ n ih =>
    intro u h
    by_cases hu : u < 128
    · rw [putL_small hu]; intro x hx; simp only [List.mem_singleton] at hx; omega
    · rw [putL_big hu]; intro x hx
      rcases List.mem_cons.1 hx with rfl | hx
      · omega
      · exact ih (u / 128) (by omega) x hx
theorem putL_pos (u : Nat) : 1 ≤ (putL u).length := by
  by_cases hu : u < 128
  · rw [putL_small hu]; simp
  · rw [putL_big hu]; simp
theorem putL_len (n : Nat) : ∀ u, u < n → u < 2 ^ (7 * (putL u).length) ∧ (2 ≤ (putL u).length → 2 ^ (7 * ((putL u).length - 1)) ≤ u) := by
  induction n with
  | zero => intro u h; omega
  | succ n ih =>
    intro u h
    by_cases hu : u < 128
    · rw [putL_small hu]; simp; omega
    · rw [putL_big hu]
      obtain ⟨h1, h2⟩ := ih (u / 128) (by omega)
      have hp := putL_pos (u / 128)
      simp only [List.length_cons, Nat.add_sub_cancel]
      have e : 2 ^ (7 * ((putL (u / 128)).length + 1)) = 2 ^ (7 * (putL (u / 128)).length) * 128 := by rw [Nat.mul_add, Nat.pow_add]
      refine ⟨by rw [e]; omega, fun _ => ?_⟩
      by_cases hl : 2 ≤ (putL (u / 128)).length
      · have h3 := h2 hl
        have e2 : 2 ^ (7 * (putL (u / 128)).length) = 2 ^ (7 * ((putL (u / 128)).length - 1)) * 128 := by
          rw [show 7 * (putL (u / 128)).length = 7 * ((putL (u / 128)).length - 1) + 7 by omega, Nat.pow_add]
        rw [e2]; omega
      · rw [show (putL (u / 128)).length = 1 by omega]; omega
theorem putL_len_le {u j : Nat} (hj : 1 ≤ j) (h : u < 2 ^ (7 * j)) : (putL u).length ≤ j := by
  obtain ⟨_, h2⟩ := putL_len (u + 1) u (by omega)
  refine Decidable.byContradiction fun hc => ?_
  have h3 := h2 (by omega)
  have : 2 ^ (7 * j) ≤ 2 ^ (7 * ((putL u).length - 1)) := Nat.pow_le_pow_right (by decide) (by omega)
  omega
theorem putL_len10 {u : Nat} (h : u < 18446744073709551616) : (putL u).length ≤ 10 :=
  putL_len_le (by decide) (Nat.lt_trans h (by decide))
theorem putL_mono {u v : Nat} (h : u ≤ v) : (putL u).length ≤ (putL v).length := by
  obtain ⟨h1, _⟩ := putL_len (v + 1) v (by omega)
  exact putL_len_le (putL_pos v) (by omega)
theorem getL_ok : ∀ (b : List Int) (i : Nat) (v : Int) (n : Nat), Bytes b → i ≤ 9 → getL b i = .ok (v, n) →
    0 ≤ v ∧ v < 2 ^ (64 - 7 * i) ∧ 1 ≤ n ∧ n ≤ b.length ∧ n + i ≤ 10 := by
  intro b
  induction b with
  | nil => intro i v n _ _ h; simp [getL] at h
  | cons c r ih =>
    intro i v n hb hi h
    have hc := hb c (List.mem_cons_self)
    have hr : Bytes r := fun x hx => hb x (List.mem_cons_of_mem _ hx)
    rw [getL] at h
    by_cases h9 : i = 9 ∧ c > 1
    · rw [if_pos h9] at h; simp at h
    rw [if_neg h9] at h
    by_cases h128 : c ≥ 128
    · rw [if_pos h128] at h
      have hi8 : i + 1 ≤ 9 := by omega
      cases hg : getL r (i + 1) with
      | error e => rw [hg] at h; simp at h
      | ok p =>
        obtain ⟨v', n'⟩ := p
        rw [hg] at h
        simp only [Except.ok.injEq, Prod.mk.injEq] at h
        obtain ⟨rfl, rfl⟩ := h
        obtain ⟨g1, g2, g3, g4, g5⟩ := ih (i + 1) v' n' hr hi8 hg
        have e : (2 : Int) ^ (64 - 7 * i) = 2 ^ (64 - 7 * (i + 1)) * 128 := by
          rw [show 64 - 7 * i = 64 - 7 * (i + 1) + 7 by omega, Int.pow_add]; rfl
        refine ⟨by omega, by rw [e]; omega, by omega, by simp only [List.length_cons]; omega, by omega⟩
    · rw [if_neg h128] at h
      by_cases h0 : c = 0 ∧ i > 0
      · rw [if_pos h0] at h; simp at h
      rw [if_neg h0] at h
      simp only [Except.ok.injEq, Prod.mk.injEq] at h
      obtain ⟨rfl, rfl⟩ := h
      refine ⟨by omega, ?_, by omega, by simp, by omega⟩
      by_cases hi9 : i = 9
      · subst hi9; have : ¬ c > 1 := fun h => h9 ⟨rfl, h⟩; simp; omega
      · have : (2 : Int) ^ 8 ≤ 2 ^ (64 - 7 * i) := ipow_le (by decide) (by omega)
        omega
theorem getL_putL (n : Nat) : ∀ (u i : Nat) (rest : List Int), u < n → i ≤ 9 → u < 2 ^ (64 - 7 * i) → (i > 0 → u > 0) → getL (putL u ++ rest) i = .ok ((u : Int), (putL u).length) := by
  induction n with
  | zero => intro u i rest h; omega
  | succ n ih =>
    intro u i rest h hi hu hp
    by_cases hs : u < 128
    · rw [putL_small hs]
      simp only [List.singleton_append, getL, List.length_singleton]
      rw [if_neg, if_neg (by omega), if_neg (by omega)]
      rintro ⟨rfl, h1⟩
      simp at hu; omega
    · rw [putL_big hs]
      simp only [List.cons_append, getL, List.length_cons]
      have hi8 : i + 1 ≤ 9 := by
        refine Decidable.byContradiction fun hc => ?_
        have : i = 9 := by omega
        subst this; simp at hu; omega
      have e : (2 : Nat) ^ (64 - 7 * i) = 2 ^ (64 - 7 * (i + 1)) * 128 := by
        rw [show 64 - 7 * i = 64 - 7 * (i + 1) + 7 by omega, Nat.pow_add]
      rw [if_neg (by omega), if_pos (by omega), ih (u / 128) (i + 1) rest (by omega) hi8 (by omega) (by omega)]
      simp only [Except.ok.injEq, Prod.mk.injEq, and_true]
      omega
theorem getL_short (n : Nat) : ∀ (u i m : Nat), u < n → i ≤ 9 → u < 2 ^ (64 - 7 * i) → m < (putL u).length → getL ((putL u).take m) i = .error 2 := by
  induction n with
  | zero => intro u i m h; omega
  | succ n ih =>
    intro u i m h hi hu hm
    cases m with
    | zero => simp [getL]
    | succ m =>
      by_cases hs : u < 128
      · rw [putL_small hs] at hm; simp at hm
      · rw [putL_big hs] at hm ⊢
        simp only [List.length_cons] at hm
        simp only [List.take_succ_cons, getL]
        have hi8 : i + 1 ≤ 9 := by
          refine Decidable.byContradiction fun hc => ?_
          have : i = 9 := by omega
          subst this; simp at hu; omega
        have e : (2 : Nat) ^ (64 - 7 * i) = 2 ^ (64 - 7 * (i + 1)) * 128 := by
          rw [show 64 - 7 * i = 64 - 7 * (i + 1) + 7 by omega, Nat.pow_add]
        rw [if_neg (by omega), if_pos (by omega), ih (u / 128) (i + 1) m (by omega) hi8 (by omega) (by omega)]
theorem getL_only : ∀ (b : List Int) (i : Nat) (v : Int) (n : Nat), Bytes b → i ≤ 9 → getL b i = .ok (v, n) → putL v.toNat = b.take n ∧ (i > 0 → 0 < v) := by
  intro b
  induction b with
  | nil => intro i v n _ _ h; simp [getL] at h
  | cons c r ih =>
    intro i v n hb hi h
    have hc := hb c (List.mem_cons_self)
    have hr : Bytes r := fun x hx => hb x (List.mem_cons_of_mem _ hx)
    rw [getL] at h
    by_cases h9 : i = 9 ∧ c > 1
    · rw [if_pos h9] at h; simp at h
    rw [if_neg h9] at h
    by_cases h128 : c ≥ 128
    · rw [if_pos h128] at h
      have hi8 : i + 1 ≤ 9 := by omega
      cases hg : getL r (i + 1) with
      | error e => rw [hg] at h; simp at h
      | ok p =>
        obtain ⟨v', n'⟩ := p
        rw [hg] at h
        simp only [Except.ok.injEq, Prod.mk.injEq] at h
        obtain ⟨rfl, rfl⟩ := h
        obtain ⟨g1, g2⟩ := ih (i + 1) v' n' hr hi8 hg
        obtain ⟨q1, _⟩ := getL_ok r (i + 1) v' n' hr hi8 hg
        have g3 := g2 (by omega)
        refine ⟨?_, fun _ => by omega⟩
        rw [putL_big (by omega), show (c - 128 + 128 * v').toNat / 128 = v'.toNat by omega, g1, List.take_succ_cons]
        congr 1; omega
    · rw [if_neg h128] at h
      by_cases h0 : c = 0 ∧ i > 0
      · rw [if_pos h0] at h; simp at h
      rw [if_neg h0] at h
      simp only [Except.ok.injEq, Prod.mk.injEq] at h
      obtain ⟨rfl, rfl⟩ := h
      refine ⟨?_, by omega⟩
      rw [putL_small (by omega)]; simp; omega
def getR (b : List Int) (at_ : Int) : Int × Int × Int :=
  if at_ < 0 ∨ at_ > b.length then (0, 0, 1) else match getL (b.drop at_.toNat) 0 with
    | .ok (v, n) => (v, at_ + n, 0)
    | .error e => (0, 0, e)
theorem getL_err : ∀ (b : List Int) (i : Nat) (e : Int), getL b i = .error e → e = 2 ∨ e = 20 ∨ e = 5 := by
  intro b
  induction b with
  | nil => intro i e h; simp only [getL, Except.error.injEq] at h; omega
  | cons c r ih =>
    intro i e h
    rw [getL] at h
    split at h
    · simp only [Except.error.injEq] at h; omega
    split at h
    · split at h
      · simp at h
      · rename_i e' hg; simp only [Except.error.injEq] at h; subst h; exact ih _ _ hg
    split at h
    · simp only [Except.error.injEq] at h; omega
    · simp at h
theorem getR_ok {b : List Int} {at_ v nx : Int} (hb : Bytes b) (h : getR b at_ = (v, nx, 0)) :
    0 ≤ at_ ∧ at_ < nx ∧ nx ≤ b.length ∧ nx ≤ at_ + 10 ∧ 0 ≤ v ∧ v < 18446744073709551616 ∧ putL v.toNat = (b.take nx.toNat).drop at_.toNat := by
  unfold getR at h
  split at h
  · simp at h
  rename_i ha
  split at h
  · rename_i v' n hg
    simp only [Prod.mk.injEq, and_true] at h
    obtain ⟨rfl, rfl⟩ := h
    obtain ⟨g1, g2, g3, g4, g5⟩ := getL_ok _ 0 _ _ (hb.drop _) (by decide) hg
    obtain ⟨q1, _⟩ := getL_only _ 0 _ _ (hb.drop _) (by decide) hg
    rw [List.length_drop] at g4
    refine ⟨by omega, by omega, by omega, by omega, g1, by simpa using g2, ?_⟩
    rw [q1, List.drop_take, show (at_ + (n : Int)).toNat - at_.toNat = n by omega]
  · rename_i e hg
    have := getL_err _ _ _ hg
    simp only [Prod.mk.injEq] at h
    omega
theorem getR_bad {b : List Int} {at_ v nx e : Int} (h : getR b at_ = (v, nx, e)) (he : e ≠ 0) : v = 0 ∧ nx = 0 := by
  unfold getR at h
  split at h
  · simp only [Prod.mk.injEq] at h; omega
  split at h
  · simp only [Prod.mk.injEq] at h; omega
  · simp only [Prod.mk.injEq] at h; omega
theorem getR_put (a c : List Int) {u : Nat} (hu : u < 18446744073709551616) : getR (a ++ putL u ++ c) (a.length : Int) = ((u : Int), (a.length : Int) + (putL u).length, 0) := by
  unfold getR
  rw [if_neg (by simp only [List.length_append]; omega), Int.toNat_natCast, List.append_assoc, List.drop_left, getL_putL (u + 1) u 0 c (by omega) (by decide) (by simpa using hu) (by omega)]
theorem getR_bad2 {b : List Int} {at_ : Int} (he : (getR b at_).2.2 ≠ 0) : (getR b at_).1 = 0 ∧ (getR b at_).2.1 = 0 := getR_bad (b := b) (at_ := at_) (v := (getR b at_).1) (nx := (getR b at_).2.1) (e := (getR b at_).2.2) rfl he
theorem i64_and7 {x : Int} (h0 : 0 ≤ x) (h1 : x < 9223372036854775808) : Go.bits .and .i64 x 7 = x % 8 :=
  Go.bits_mask .i64 63 (by decide) (fun n h0 h1 => by rw [Go.IntKind.wrap_i64]; omega) 3 (by decide) x h0 (by simpa using h1)
theorem u64_mask {x : Int} (h0 : 0 ≤ x) (h1 : x < 18446744073709551616) {i : Nat} (hi : i ≤ 64) : Go.bits .and .u64 x (2 ^ i - 1) = x % 2 ^ i :=
  Go.bits_mask .u64 64 (by decide) wraps_u64 i hi x h0 (by simpa using h1)
theorem or_low8 {j : Nat} {x y : Int} (hx0 : 0 ≤ x) (hx : x < 2 ^ j) (hy0 : 0 ≤ y) (hb : x + y * 2 ^ j < 2 ^ 8) :
    Go.bits .or .u8 x (y * 2 ^ j) = x + y * 2 ^ j := by
  have hp : (0 : Int) < 2 ^ j := Int.pow_pos (by decide)
  obtain ⟨a, rfl⟩ := Int.eq_ofNat_of_zero_le hx0
  obtain ⟨b, rfl⟩ := Int.eq_ofNat_of_zero_le hy0
  have ha : a < 2 ^ j := by exact_mod_cast hx
  have hab : a + b * 2 ^ j < 2 ^ 8 := by exact_mod_cast hb
  have e : ((b : Int) * 2 ^ j) = ((2 ^ j * b : Nat) : Int) := by rw [Nat.mul_comm]; simp
  have hc : a + 2 ^ j * b < 2 ^ 8 := by rw [Nat.mul_comm]; exact hab
  rw [e, (Go.bits_nat .u8 8 (by decide) Go.wraps_u8 a (2 ^ j * b) (by omega) (by omega)).2, Nat.or_comm, ← Nat.two_pow_add_eq_or_of_lt ha b]
  omega
theorem toNat_div2 {x : Int} (h0 : 0 ≤ x) (n : Nat) : (x / 2 ^ n).toNat = x.toNat / 2 ^ n := by
  obtain ⟨a, rfl⟩ := Int.eq_ofNat_of_zero_le h0
  rw [show (2 : Int) ^ n = ((2 ^ n : Nat) : Int) by simp, ← Int.natCast_ediv, Int.toNat_natCast, Int.toNat_natCast]
theorem toNat_mod2 {x : Int} (h0 : 0 ≤ x) (n : Nat) : (x % 2 ^ n).toNat = x.toNat % 2 ^ n := by
  obtain ⟨a, rfl⟩ := Int.eq_ofNat_of_zero_le h0
  rw [show (2 : Int) ^ n = ((2 ^ n : Nat) : Int) by simp, ← Int.natCast_emod, Int.toNat_natCast, Int.toNat_natCast]
theorem divmod2 {x : Int} (h0 : 0 ≤ x) (s t : Nat) : x / 2 ^ s % 2 ^ t = ((x.toNat / 2 ^ s % 2 ^ t : Nat) : Int) := by
  obtain ⟨a, rfl⟩ := Int.eq_ofNat_of_zero_le h0
  simp
theorem nat_xor_top {x : Nat} (j : Nat) (h : x < 2 ^ j) : x ^^^ 2 ^ j = x + 2 ^ j := by
  apply Nat.eq_of_testBit_eq
  intro i
  rw [Nat.testBit_xor, Nat.testBit_two_pow]
  rcases Nat.lt_trichotomy i j with hi | hi | hi
  · rw [Nat.add_comm, Nat.testBit_two_pow_add_gt hi, decide_eq_false (by omega)]; simp
  · subst hi
    rw [Nat.add_comm, Nat.testBit_two_pow_add_eq]; simp
  · have h1 : x + 2 ^ j < 2 ^ i := by
      have : 2 ^ (j + 1) ≤ 2 ^ i := Nat.pow_le_pow_right (by decide) hi
      rw [Nat.pow_succ] at this; omega
    rw [Nat.testBit_lt_two_pow h1, Nat.testBit_lt_two_pow (show x < 2 ^ i by omega), decide_eq_false (by omega)]; rfl
theorem nat_xor_top' {x : Nat} (j : Nat) (h : x < 2 ^ j) : (x + 2 ^ j) ^^^ 2 ^ j = x := by
  rw [← nat_xor_top j h, Nat.xor_assoc, Nat.xor_self, Nat.xor_zero]
theorem xor_u64_nat (a b : Nat) (ha : a < 2 ^ 64) (hb : b < 2 ^ 64) : Go.bits .xor .u64 (a : Int) (b : Int) = ((a ^^^ b : Nat) : Int) := by
  have hx := Nat.xor_lt_two_pow ha hb
  rw [show Go.bits .xor .u64 (a : Int) (b : Int) = IntKind.u64.wrap ((BitVec.ofInt 64 (a : Int) ^^^ BitVec.ofInt 64 (b : Int)).toNat : Int) from rfl, BitVec.ofInt_natCast, BitVec.ofInt_natCast, BitVec.toNat_xor, BitVec.toNat_ofNat, BitVec.toNat_ofNat, Nat.mod_eq_of_lt ha, Nat.mod_eq_of_lt hb]
  exact wraps_u64 _ (Int.natCast_nonneg _) (by exact_mod_cast hx)
theorem xor_zero {x : Int} (h0 : 0 ≤ x) (h1 : x < 18446744073709551616) : Go.bits .xor .u64 x 0 = x := by
  obtain ⟨a, rfl⟩ := Int.eq_ofNat_of_zero_le h0
  have := xor_u64_nat a 0 (by omega) (by decide)
  simpa using this
theorem xor_all {x : Int} (h0 : 0 ≤ x) (h1 : x < 18446744073709551616) : Go.bits .xor .u64 x 18446744073709551615 = 18446744073709551615 - x := by
  obtain ⟨a, rfl⟩ := Int.eq_ofNat_of_zero_le h0
  have e : BitVec.ofInt 64 18446744073709551615 = BitVec.allOnes 64 := by decide
  rw [show Go.bits .xor .u64 (a : Int) 18446744073709551615 = IntKind.u64.wrap ((BitVec.ofInt 64 (a : Int) ^^^ BitVec.ofInt 64 18446744073709551615).toNat : Int) from rfl, e, BitVec.ofInt_natCast, BitVec.xor_allOnes, BitVec.toNat_not, BitVec.toNat_ofNat,
    Nat.mod_eq_of_lt (show a < 2 ^ 64 by omega), wraps_u64 _ (by omega) (by omega)]; omega
theorem xor_top {x : Int} (h0 : 0 ≤ x) (h1 : x < 18446744073709551616) : Go.bits .xor .u64 x 9223372036854775808 = if x < 9223372036854775808 then x + 9223372036854775808 else x - 9223372036854775808 := by
  obtain ⟨a, rfl⟩ := Int.eq_ofNat_of_zero_le h0
  have h := xor_u64_nat a (2 ^ 63) (by omega) (by decide)
  rw [show ((2 ^ 63 : Nat) : Int) = 9223372036854775808 from rfl] at h
  rw [h]
  by_cases hc : a < 2 ^ 63
  · rw [nat_xor_top 63 hc, if_pos (by omega)]; omega
  · have := nat_xor_top' (x := a - 2 ^ 63) 63 (by omega)
    rw [show a - 2 ^ 63 + 2 ^ 63 = a by omega] at this
    rw [this, if_neg (by omega)]; omega
theorem i64_wrap_nat {n : Nat} (h : n < 2 ^ 64) : IntKind.i64.wrap (n : Int) = if n < 2 ^ 63 then (n : Int) else (n : Int) - 18446744073709551616 := by
  rw [Go.IntKind.wrap_i64]; split <;> omega
theorem xor_i64_zero {x : Int} (h0 : 0 ≤ x) (h1 : x < 9223372036854775808) : Go.bits .xor .i64 x 0 = x := by
  obtain ⟨a, rfl⟩ := Int.eq_ofNat_of_zero_le h0
  have e : BitVec.ofInt 64 0 = 0#64 := by decide
  rw [show Go.bits .xor .i64 (a : Int) 0 = IntKind.i64.wrap ((BitVec.ofInt 64 (a : Int) ^^^ BitVec.ofInt 64 0).toNat : Int) from rfl, e, BitVec.ofInt_natCast, BitVec.xor_zero, BitVec.toNat_ofNat, Nat.mod_eq_of_lt (show a < 2 ^ 64 by omega), i64_wrap_nat (by omega), if_pos (by omega)]
theorem xor_i64_all {x : Int} (h0 : 0 ≤ x) (h1 : x < 9223372036854775808) : Go.bits .xor .i64 x (-1) = -1 - x := by
  obtain ⟨a, rfl⟩ := Int.eq_ofNat_of_zero_le h0
  have e : BitVec.ofInt 64 (-1) = BitVec.allOnes 64 := by decide
  rw [show Go.bits .xor .i64 (a : Int) (-1) = IntKind.i64.wrap ((BitVec.ofInt 64 (a : Int) ^^^ BitVec.ofInt 64 (-1)).toNat : Int) from rfl, e, BitVec.ofInt_natCast, BitVec.xor_allOnes, BitVec.toNat_not, BitVec.toNat_ofNat, Nat.mod_eq_of_lt (show a < 2 ^ 64 by omega), i64_wrap_nat (by omega), if_neg (by omega)]; omega
def foldI (v : Int) : Int := if 0 ≤ v then 2 * v else -2 * v - 1
def unfoldI (u : Int) : Int := if u % 2 = 0 then u / 2 else -(u / 2) - 1
end M

def isNils : V → Bool | .nils => true | _ => false
theorem srcR {objs : List AO} {v : V} {l : List Int} (h : ofIntsR .u8 objs v = some l) (e : TypeId) : srcOf (.slice e) objs 1 v = some (ints .u8 l) := by
  rcases ofIntsR_inv h with h | ⟨id, ver, off, cs, rfl, hg, hrow, hfit⟩
  · obtain ⟨-, -, -, va, -⟩ := bs h
    exact va objs e
  · simp [srcOf, rowOf, hg, hrow, hfit]
theorem cutR {objs : List AO} {v : V} {l : List Int} (h : ofIntsR .u8 objs v = some l) (lo hi mx : Option V) (a b : Nat) (ha : boundV lo 0 = some a) (hb : boundV hi l.length = some b) (hab : a ≤ b) (hl : b ≤ l.length) (hm : mx = none ∨ hi.isSome = true ∧ boundV mx 0 = some b) :
    ∃ w, (∀ O, cutV Tryd.prog 28 O v lo hi mx = some w) ∧ ofIntsR .u8 objs w = some ((l.take b).drop a) ∧ isNils w = isNils v ∧ demote w = w ∧ ntup w = some w := by
  have hmx : mx.isNone = true ∨ hi.isSome = true ∧ boundV mx 0 = some b := hm.imp (fun q => by rw [q]; rfl) id
  rcases ofIntsR_inv h with h | ⟨id, ver, off, cs, rfl, hg, hrow, hfit⟩
  · rcases ofInts_inv h with rfl | ⟨rfl, h1, h2⟩
    · refine ⟨.lst .frozen (ints .u8 ((l.take b).drop a)) (b - a), fun O => ?_, ?_, rfl, rfl, rfl⟩
      · simp [-boundV, cutV, sliceV, ha, hb, hab, hl, hmx, ints_take, ints_drop]
        exact fun q => hm.resolve_left q
      · exact ofIntsR_of (ofInts_lst (by simp; omega))
    · have hl0 : l = [] := List.eq_nil_of_length_eq_zero h2
      subst hl0
      obtain rfl : b = 0 := by simpa using hl
      obtain rfl : a = 0 := by omega
      refine ⟨.nils, fun O => ?_, by simp [ofIntsR, ofInts], rfl, rfl, rfl⟩
      have hb0 : boundV hi 0 = some 0 := hb
      simp [-boundV, cutV, sliceV, ha, hb0, hmx]
      exact fun q => hm.resolve_left q
  · refine ⟨.ref id ver (off + a) (b - a) 1, fun O => ?_, ?_, rfl, rfl, rfl⟩
    · simp [-boundV, cutV, sliceV, ha, hb, hab, hl, hmx]
      exact fun q => hm.resolve_left q
    · have e : (cs.drop (off + a)).take (b - a) = ints .u8 ((l.take b).drop a) := by
        rw [← ints_drop, ← ints_take, ← hrow, List.take_take, Nat.min_eq_left hl, List.drop_take, List.drop_drop]
      simp only [ofIntsR, hg, e, ofCellsI_ints, Option.bind_some]
      rw [if_pos ⟨by simp; omega, by omega⟩]
theorem ofIntsR_app {objs m : List AO} {v : V} {l : List Int} (h : ofIntsR .u8 objs v = some l) : ofIntsR .u8 (objs ++ m) v = some l := by
  rcases ofIntsR_inv h with h | ⟨id, ver, off, cs, rfl, hg, hrow, hfit⟩
  · exact ofIntsR_of h
  · have hg2 := getObj_app (m := m) (v := ver) (getObj_lt hg)
    rw [hg] at hg2
    simp only [ofIntsR, hg2, hrow, ofCellsI_ints, Option.bind_some]
    rw [if_pos ⟨trivial, hfit⟩]
noncomputable def k_CloneR : Ab.Spec := con1 some fun v objs => match ofIntsR .u8 objs v with | some l => bnd l.length 140737488355300 (some (if isNils v = true then .nils else .lst (.fresh 1 true) (ints .u8 l) l.length, none)) | none => none
noncomputable def T_CloneR : CallF := withF T_ApartAll 47 k_CloneR
theorem T_CloneR_ok : CallOk Tryd.prog T_CloneR := con_of (A := annOf [] [5,7] [] false []) fit T_ApartAll_ok (fn := Tryd.f47) (by kernel_rfl) (by kernel_rfl) (by
  intro args objs r h0
  obtain ⟨v, _, rfl, hv, hR⟩ := con1_inv h0
  cases hv
  split at hR
  case h_2 => cases hR
  rename_i l ha
  obtain ⟨hl, hR⟩ := bnd_inv hR
  cases hR
  obtain ⟨_, vd, vn, -⟩ := bsR ha
  have hsrc := fun m => srcR (objs := objs ++ [.cells [] m]) (v := v) (l := l)
  refine .go _ rfl rfl ?_
  rcases ofIntsR_inv ha with h | ⟨id, ver, off, cs, rfl, hg, hrow, hfit⟩
  · rcases ofInts_inv h with rfl | ⟨rfl, h1, h2⟩
    · simp (disch := omega) [nilFit, nilEq, blit0, Nat.mod_one, isNils]
    · simp [nilFit, nilEq, isNils]
  · have hid := getObj_lt hg
    have hg2 := getObj_app (m := [.cells [] 0]) (v := ver) hid
    rw [hg] at hg2
    simp (disch := omega) [nilFit, nilEq, blit0, Nat.mod_one, isNils, hg2, hrow, hfit])

/-! one value of a table: kinds, what they hold, texts -/
def holdsR (kind v : Int) : Bool :=
  if kind = 1 then decide (-128 ≤ v ∧ v ≤ 127) else if kind = 2 then decide (-32768 ≤ v ∧ v ≤ 32767) else if kind = 3 then decide (-2147483648 ≤ v ∧ v ≤ 2147483647)
  else if kind = 4 then true else if kind = 5 then decide (0 ≤ v ∧ v ≤ 65535) else decide (0 ≤ v ∧ v ≤ 1)
def zeroIn (b : List Int) : Bool := b.contains 0
def textR (kind : Int) (b : List Int) : Int := if b.length > 200 then 4 else if kind = 7 ∧ zeroIn b = true then 5 else 0
def idxB (b : List Int) (x : Int) : Int := Lib.indexByte (Lib.bytesOf b) x.toNat.toUInt8
theorem zero_in : ∀ {l : List Int}, (∀ c ∈ l, 0 ≤ c ∧ c < 256) → (0 ≤ idxB l 0 ↔ zeroIn l = true)
  | [], _ => by simp [idxB, Lib.bytesOf, Lib.indexByte, zeroIn]
  | x :: l, h => by
    have hx := h x List.mem_cons_self
    have ih := zero_in (l := l) (fun y hy => h y (List.mem_cons_of_mem _ hy))
    unfold idxB zeroIn at ih ⊢
    have hge := Lib.indexByte_ge (Lib.bytesOf l) (0 : Int).toNat.toUInt8
    have hb : Lib.bytesOf (x :: l) = UInt8.ofNat x.toNat :: Lib.bytesOf l := rfl
    rw [hb, Lib.indexByte]
    by_cases h0 : x = 0
    · subst h0; simp
    · have hne : (UInt8.ofNat x.toNat == (0 : Int).toNat.toUInt8) = false := by
        rw [beq_eq_false_iff_ne]
        intro he
        have := congrArg UInt8.toNat he
        simp only [UInt8.toNat_ofNat', Int.toNat_zero] at this
        have h2 : x.toNat % 2 ^ 8 = x.toNat := Nat.mod_eq_of_lt (by omega)
        rw [h2] at this
        have h3 : ((0 : Nat).toUInt8).toNat = 0 := rfl
        omega
      rw [hne]
      have hc : (x :: l).contains 0 = l.contains 0 := by simp [Ne.symm h0]
      rw [hc]
      simp only [Bool.false_eq_true, if_false]
      by_cases hm : Lib.indexByte (Lib.bytesOf l) (0 : Int).toNat.toUInt8 = -1
      · rw [hm] at ih ⊢
        rw [if_pos (by rfl)]
        exact ih
      · have hn : (Lib.indexByte (Lib.bytesOf l) (0 : Int).toNat.toUInt8 == -1) = false := by rw [beq_eq_false_iff_ne]; exact hm
        rw [hn]
        simp only [Bool.false_eq_true, if_false]
        constructor
        · intro _; exact ih.1 (by omega)
        · intro _; omega
def numB (k : Int) : Bool := decide (1 ≤ k ∧ k ≤ 6)
noncomputable def k_Number : Ab.Spec := con1 (ofInt .i64) fun k _ => some (.bool (numB k), none)
noncomputable def T_Number : CallF := withF T_CloneR 59 k_Number
theorem T_Number_ok : CallOk Tryd.prog T_Number := con_of (A := annOf [] [] [] false []) fit T_CloneR_ok (fn := Tryd.f59) (by kernel_rfl) (by kernel_rfl) (by
  intro args objs r h0
  obtain ⟨_, k, rfl, hb, hR⟩ := con1_inv h0
  obtain rfl := ofInt_inv hb
  cases hR
  refine .go _ rfl rfl ?_
  by_cases h1 : 1 ≤ k
  · by_cases h2 : k ≤ 6
    · have e : numB k = true := decide_eq_true ⟨h1, h2⟩
      simp [h1, h2, e]
    · have e : numB k = false := decide_eq_false fun q => h2 q.2
      simp [h1, h2, e]
  · have e : numB k = false := decide_eq_false fun q => h1 q.1
    simp [h1, e])
def knownB (k : Int) : Bool := decide (1 ≤ k ∧ k ≤ 8)
noncomputable def k_known : Ab.Spec := con1 (ofInt .i64) fun k _ => some (.bool (knownB k), none)
noncomputable def T_known : CallF := withF T_Number 58 k_known
theorem T_known_ok : CallOk Tryd.prog T_known := con_of (A := annOf [] [] [] false []) fit T_Number_ok (fn := Tryd.f58) (by kernel_rfl) (by kernel_rfl) (by
  intro args objs r h0
  obtain ⟨_, k, rfl, hb, hR⟩ := con1_inv h0
  obtain rfl := ofInt_inv hb
  cases hR
  refine .go _ rfl rfl ?_
  by_cases h1 : 1 ≤ k
  · by_cases h2 : k ≤ 8
    · have e : knownB k = true := decide_eq_true ⟨h1, h2⟩
      simp [h1, h2, e]
    · have e : knownB k = false := decide_eq_false fun q => h2 q.2
      simp [h1, h2, e]
  · have e : knownB k = false := decide_eq_false fun q => h1 q.1
    simp [h1, e])
noncomputable def k_bIndexByte : Ab.Spec := con2 some (ofInt .u8) fun v x objs => match ofIntsR .u8 objs v with | some a => some (.int .i64 (idxB a x), none) | _ => none
noncomputable def T_bIndexByte : CallF := withF T_known 74 k_bIndexByte
theorem T_bIndexByte_ok : CallOk Tryd.prog T_bIndexByte := con_ext Extern.BytealgIndexByte.indexByte T_known_ok (fn := Tryd.f74) (by kernel_rfl) (by kernel_rfl) rfl (by kernel_rfl) (by kernel_rfl) (by
  intro args objs r h0
  obtain ⟨v, _, _, x, rfl, hv, hx, hR⟩ := con2_inv h0
  cases hv
  obtain rfl := ofInt_inv hx
  split at hR
  case h_2 => cases hR
  rename_i a ha
  cases hR
  refine ⟨rfl, rfl, fun G w1 cargs hs hA => ?_⟩
  obtain ⟨x1, y, hxy⟩ : ∃ x y, cargs = #[x, y] := by
    have hl := hA.len
    match cargs, hl with
    | ⟨[x, y]⟩, _ => exact ⟨x, y, rfl⟩
  subst hxy
  obtain ⟨⟨vx, -⟩, ⟨vy, -⟩, -⟩ := hA
  have h1 := read_bytes (P := Tryd.prog) hs vx ha
  refine ⟨.int .i64 (idxB a x), ?_, .int⟩
  cases vy
  have hS := Lib.run_indexByteString (P := Tryd.prog) ⟨(Lib.bytesOf a).toArray⟩ x w1
  change Sem.run Tryd.prog (do
    let b ← Extern.Bytes.bytesOf x1
    let c ← Extern.Bytes.asByte (.int .u8 x)
    match (List.range b.size).find? fun i => b[i]! == c with
    | some i => pure (goInt i)
    | none => pure (goInt (-1))) w1 = _
  change Sem.run Tryd.prog (do
    let b ← Extern.Bytes.bytesOf (.string ⟨(Lib.bytesOf a).toArray⟩)
    let c ← Extern.Bytes.asByte (.int .u8 x)
    match (List.range b.size).find? fun i => b[i]! == c with
    | some i => pure (goInt i)
    | none => pure (goInt (-1))) w1 = _ at hS
  simp only [Extern.Bytes.bytesOf, Sem.run_bind, Sem.run_pure, Result.andThen] at hS
  simp only [Sem.run_bind, Sem.run_pure, h1, Result.andThen]
  exact hS)
noncomputable def k_IndexByte : Ab.Spec := con2 some (ofInt .u8) fun v x objs => match ofIntsR .u8 objs v with | some a => some (.int .i64 (idxB a x), none) | _ => none
noncomputable def T_IndexByte : CallF := withF T_bIndexByte 64 k_IndexByte
theorem T_IndexByte_ok : CallOk Tryd.prog T_IndexByte := con_of (A := annOf [] [] [] false []) fit T_bIndexByte_ok (fn := Tryd.f64) (by kernel_rfl) (by kernel_rfl) (by
  intro args objs r h0
  have c_bIndexByte : ∀ a o, T_bIndexByte 74 a o = k_bIndexByte a o := fun _ _ => rfl
  obtain ⟨v, _, _, x, rfl, hv, hx, hR⟩ := con2_inv h0
  cases hv
  obtain rfl := ofInt_inv hx
  split at hR
  case h_2 => cases hR
  rename_i a ha
  cases hR
  obtain ⟨_, vd, -⟩ := bsR ha
  refine .go _ rfl rfl ?_
  simp -implicitDefEqProofs [vd, c_bIndexByte, k_bIndexByte, ha])
noncomputable def k_ctext : Ab.Spec := con2 (ofInt .i64) some fun k v objs => match ofIntsR .u8 objs v with | some a => bnd a.length 140737488355328 (if b8 a = true then some (.int .i64 (textR k a), none) else none) | _ => none
noncomputable def T_ctext : CallF := withF T_IndexByte 60 k_ctext
theorem T_ctext_ok : CallOk Tryd.prog T_ctext := con_of (A := annOf [] [] [] false []) fit T_IndexByte_ok (fn := Tryd.f60) (by kernel_rfl) (by kernel_rfl) (by
  intro args objs r h0
  have c_IndexByte : ∀ a o, T_IndexByte 64 a o = k_IndexByte a o := fun _ _ => rfl
  obtain ⟨_, v, k, _, rfl, hk, hv, hR⟩ := con2_inv h0
  cases hv
  obtain rfl := ofInt_inv hk
  split at hR
  case h_2 => cases hR
  rename_i a ha
  obtain ⟨hl, hR⟩ := bnd_inv hR
  split at hR
  case isFalse => cases hR
  rename_i h8
  cases hR
  obtain ⟨_, vd, vn, -⟩ := bsR ha
  have hz := zero_in (b8_iff.1 h8)
  refine .go _ rfl rfl ?_
  by_cases h1 : a.length > 200
  · have ht : textR k a = 4 := if_pos h1
    simp -implicitDefEqProofs (disch := omega) [vn, h1, ht]
  by_cases h7 : k = 7
  · subst h7
    by_cases hc : zeroIn a = true
    · have ht : textR 7 a = 5 := by unfold textR; rw [if_neg h1, if_pos ⟨rfl, hc⟩]
      have hi := hz.2 hc
      simp -implicitDefEqProofs (disch := omega) [vd, vn, h1, ht, c_IndexByte, k_IndexByte, ha, hi]
    · have ht : textR 7 a = 0 := by unfold textR; rw [if_neg h1, if_neg (fun q => hc q.2)]
      have hi : ¬ 0 ≤ idxB a 0 := fun q => hc (hz.1 q)
      simp -implicitDefEqProofs (disch := omega) [vd, vn, h1, ht, c_IndexByte, k_IndexByte, ha, hi]
  · have ht : textR k a = 0 := by unfold textR; rw [if_neg h1, if_neg (fun q => h7 q.1)]
    simp -implicitDefEqProofs (disch := omega) [vd, vn, h1, ht, h7])
def i64B (v : Int) : Bool := decide (-9223372036854775808 ≤ v) && decide (v < 9223372036854775808)
theorem i64B_iff {v : Int} : i64B v = true ↔ -9223372036854775808 ≤ v ∧ v < 9223372036854775808 := by simp [i64B]
def narrowR (v size : Int) : Int :=
  if size = 1 then (v + 128) % 256 - 128 else if size = 2 then (v + 32768) % 65536 - 32768 else if size = 4 then (v + 2147483648) % 4294967296 - 2147483648 else v
theorem i8r (x : Int) : IntKind.i8.wrap x = (x + 128) % 256 - 128 := by
  simp only [IntKind.wrap, IntKind.bits, IntKind.signed]; simp; split <;> omega
theorem i16r (x : Int) : IntKind.i16.wrap x = (x + 32768) % 65536 - 32768 := by
  simp only [IntKind.wrap, IntKind.bits, IntKind.signed]; simp; split <;> omega
theorem i32r (x : Int) : IntKind.i32.wrap x = (x + 2147483648) % 4294967296 - 2147483648 := by
  simp only [IntKind.wrap, IntKind.bits, IntKind.signed]; simp; split <;> omega
theorem u16r (x : Int) : IntKind.u16.wrap x = x % 65536 := by
  simp only [IntKind.wrap, IntKind.bits, IntKind.signed]; simp
noncomputable def k_Narrow : Ab.Spec := con2 (ofInt .i64) (ofInt .i64) fun v s _ => if i64B v = true ∧ (s = 1 ∨ s = 2 ∨ s = 4 ∨ s = 8) then some (.tup [.int .i64 (narrowR v s), .bool (decide (narrowR v s = v))], none) else none
noncomputable def T_Narrow : CallF := withF T_ctext 69 k_Narrow
theorem T_Narrow_ok : CallOk Tryd.prog T_Narrow := con_of (A := annOf [] [] [] false []) fit T_ctext_ok (fn := Tryd.f69) (by kernel_rfl) (by kernel_rfl) (by
  intro args objs r h0
  obtain ⟨_, _, v, s, rfl, hv, hs, hR⟩ := con2_inv h0
  obtain rfl := ofInt_inv hv
  obtain rfl := ofInt_inv hs
  split at hR
  case isFalse => cases hR
  rename_i hc
  obtain ⟨h1, h2⟩ := hc
  cases hR
  obtain ⟨v0, v1⟩ := i64B_iff.1 h1
  refine .go _ rfl rfl ?_
  obtain ⟨x, hx⟩ : ∃ x, x = narrowR v s := ⟨_, rfl⟩
  have hd : (x == v) = decide (x = v) := rfl
  rcases h2 with rfl | rfl | rfl | rfl
  · have e : x = (v + 128) % 256 - 128 := hx
    have e1 : IntKind.i8.wrap v = x := by rw [e]; exact i8r v
    have e2 : IntKind.i64.wrap x = x := wrap_small (by omega) (by omega)
    rw [← hx]
    simp -implicitDefEqProofs [convV, e1, e2, hd]
  · have e : x = (v + 32768) % 65536 - 32768 := hx
    have e1 : IntKind.i16.wrap v = x := by rw [e]; exact i16r v
    have e2 : IntKind.i64.wrap x = x := wrap_small (by omega) (by omega)
    rw [← hx]
    simp -implicitDefEqProofs [convV, e1, e2, hd]
  · have e : x = (v + 2147483648) % 4294967296 - 2147483648 := hx
    have e1 : IntKind.i32.wrap v = x := by rw [e]; exact i32r v
    have e2 : IntKind.i64.wrap x = x := wrap_small (by omega) (by omega)
    rw [← hx]
    simp -implicitDefEqProofs [convV, e1, e2, hd]
  · have e : x = v := hx
    rw [← hx, e]
    simp -implicitDefEqProofs [convV])
noncomputable def k_holds : Ab.Spec := con2 (ofInt .i64) (ofInt .i64) fun k v _ => if i64B v = true ∧ 1 ≤ k ∧ k ≤ 6 then some (.bool (holdsR k v), none) else none
noncomputable def T_holds : CallF := withF T_Narrow 61 k_holds
theorem T_holds_ok : CallOk Tryd.prog T_holds := con_of (A := annOf [] [] [] false []) fit T_Narrow_ok (fn := Tryd.f61) (by kernel_rfl) (by kernel_rfl) (by
  intro args objs r h0
  have c_Narrow : ∀ a o, T_Narrow 69 a o = k_Narrow a o := fun _ _ => rfl
  obtain ⟨_, _, k, v, rfl, hk, hv, hR⟩ := con2_inv h0
  obtain rfl := ofInt_inv hk
  obtain rfl := ofInt_inv hv
  split at hR
  case isFalse => cases hR
  rename_i hc
  obtain ⟨h1, h2, h3⟩ := hc
  cases hR
  obtain ⟨v0, v1⟩ := i64B_iff.1 h1
  refine .go _ rfl rfl ?_
  have a0 : IntKind.i64.wrap 0 = 0 := rfl
  have a1 : IntKind.i64.wrap 1 = 1 := rfl
  have a2 : IntKind.i64.wrap 2 = 2 := rfl
  have a3 : IntKind.i64.wrap 3 = 3 := rfl
  have a4 : IntKind.i64.wrap 4 = 4 := rfl
  have a8 : IntKind.i64.wrap 8 = 8 := rfl
  have b0 : IntKind.u64.wrap 0 = 0 := rfl
  have b1 : IntKind.u64.wrap 1 = 1 := rfl
  have b2 : IntKind.u64.wrap 2 = 2 := rfl
  have b3 : IntKind.u64.wrap 3 = 3 := rfl
  obtain rfl | rfl | rfl | rfl | rfl | rfl : k = 1 ∨ k = 2 ∨ k = 3 ∨ k = 4 ∨ k = 5 ∨ k = 6 := by omega
  · have e : decide (narrowR v 1 = v) = holdsR 1 v := decide_eq_decide.2 (by show (v + 128) % 256 - 128 = v ↔ _; omega)
    simp -implicitDefEqProofs [convV, c_Narrow, k_Narrow, h1, e, a0, a1, a2, a3, a4, a8, b0, b1, b2, b3]
  · have e : decide (narrowR v 2 = v) = holdsR 2 v := decide_eq_decide.2 (by show (v + 32768) % 65536 - 32768 = v ↔ _; omega)
    simp -implicitDefEqProofs [convV, c_Narrow, k_Narrow, h1, e, a0, a1, a2, a3, a4, a8, b0, b1, b2, b3]
  · have e : decide (narrowR v 4 = v) = holdsR 3 v := decide_eq_decide.2 (by show (v + 2147483648) % 4294967296 - 2147483648 = v ↔ _; omega)
    simp -implicitDefEqProofs [convV, c_Narrow, k_Narrow, h1, e, a0, a1, a2, a3, a4, a8, b0, b1, b2, b3]
  · have e : decide (narrowR v 8 = v) = holdsR 4 v := by show decide (v = v) = true; simp
    simp -implicitDefEqProofs [convV, c_Narrow, k_Narrow, h1, e, a0, a1, a2, a3, a4, a8, b0, b1, b2, b3]
  · have e : (v == v % 65536) = holdsR 5 v := decide_eq_decide.2 (by omega)
    have e1 : IntKind.u16.wrap v = v % 65536 := u16r v
    have e2 : IntKind.i64.wrap (v % 65536) = v % 65536 := wrap_small (by omega) (by omega)
    simp -implicitDefEqProofs [convV, e1, e2, e]
  · have e : (v / 2 == 0) = holdsR 6 v := decide_eq_decide.2 (by omega)
    have e2 : v.fdiv 2 = v / 2 := Int.fdiv_eq_ediv_of_nonneg _ (by decide)
    simp -implicitDefEqProofs [convV, e2, e])

end Go.Proofs.YtiaihiccaoibgaaDoor.B
set_option maxRecDepth 20000
set_option maxHeartbeats 1000000
namespace Go.Proofs.YtiaihiccaoibgaaDoor.B
open Go Go.Ab
/-! what is got -/
structure CG where
  n : Bool
  i : Int
  b : Option (List Int)
  next : Int
  err : Int
  ex : Option (List Int)
def CG.bad (e : Int) : CG := ⟨false, 0, none, 0, e, none⟩
def cgetU (k : Int) (b : List Int) (u nx : Int) : CG :=
  if k ≤ 6 then (if holdsR k (M.unfoldI u) = true then ⟨false, M.unfoldI u, none, nx, 0, none⟩ else .bad 52)
  else if u > 200 then .bad 4 else if u > b.length - nx then .bad 2
  else if textR k ((b.drop nx.toNat).take u.toNat) ≠ 0 then ⟨false, 0, none, 0, textR k ((b.drop nx.toNat).take u.toNat), some ((b.drop nx.toNat).take u.toNat)⟩
  else ⟨false, 0, some ((b.drop nx.toNat).take u.toNat), nx + u, 0, some ((b.drop nx.toNat).take u.toNat)⟩
def cgetZ (k : Int) (b : List Int) (p : Int) : CG :=
  if k < 1 ∨ k > 8 ∨ p < 0 ∨ p > b.length then .bad 1 else if p = b.length then .bad 2 else if nth b p.toNat > 1 then .bad 5 else if nth b p.toNat = 0 then ⟨true, 0, none, p + 1, 0, none⟩
  else match M.getR b (p + 1) with | (u, nx, e) => if e ≠ 0 then .bad e else cgetU k b u nx
def cellK (o : Nat) (g : CG) : V := .agg [.bool g.n, .int .i64 g.i, match g.b with | none => .nils | some l => .ref (o + 1) 0 0 l.length 1]
def cellO (o : Nat) (g : CG) : List AO := .cells [.bool g.n, .int .i64 g.i, match g.b with | none => .nils | some l => .ref (o + 1) 0 0 l.length 1] 0 :: (match g.ex with | none => [] | some l => [.cells (ints .u8 l) 0])
theorem fitC0 : fillV (placeOf Tryd.prog 63) [.bool false, .int .i64 0, .nils] [] = some [.bool false, .int .i64 0, .nils] := rfl
theorem fitC1 : fillV (placeOf Tryd.prog 63) [.bool false, .int .i64 0, .nils] [(0, .bool true)] = some [.bool true, .int .i64 0, .nils] := by simp [fillV, setCells]
theorem fitC2 (a : Int) : fillV (placeOf Tryd.prog 63) [.bool false, .int .i64 0, .nils] [(1, .int .i64 a)] = some [.bool false, .int .i64 a, .nils] := by simp [fillV, setCells]
theorem fitC3 (v : V) (h : isDef v = true) (hc : cellsOf v = [v]) : fillV (placeOf Tryd.prog 63) [.bool false, .int .i64 0, .nils] [(2, v)] = some [.bool false, .int .i64 0, v] := by simp [fillV, setCells, h, hc]
theorem unf_range {u : Int} (h0 : 0 ≤ u) (h1 : u < 18446744073709551616) : i64B (M.unfoldI u) = true := by
  rw [i64B_iff]; unfold M.unfoldI; split <;> omega

/-! the document's cells -/
theorem one_ofR {k : IntKind} {objs : List AO} {a : V} {l : List Int} (h : ofIntsR k objs a = some l) : demote a = a ∧ oneCell a = true ∧ isDef a = true ∧ cellsOf a = [a] := by
  rcases ofIntsR_inv h with h | ⟨id, ver, off, cs, rfl, -⟩
  · have := ofInts_inv h; exact ⟨this.dem, this.one, this.isDef, this.cells⟩
  · exact ⟨rfl, rfl, rfl, rfl⟩
noncomputable def k_Alike : Ab.Spec := con2 some some fun v w objs => match v, w with
  | .agg [.bool n1, .int .i64 i1, a], .agg [.bool n2, .int .i64 i2, c] => match ofIntsR .u8 objs a, ofIntsR .u8 objs c with
    | some l, some m => bnd l.length 140737488355328 (some (.bool (decide (n1 = n2) && (decide (i1 = i2) && decide (l = m))), none))
    | _, _ => none
  | _, _ => none
noncomputable def T_Alike : CallF := withF T_holds 44 k_Alike
theorem T_Alike_ok : CallOk Tryd.prog T_Alike := con_of (A := annOf [] [] [] false []) fit T_holds_ok (fn := Tryd.f44) (by kernel_rfl) (by kernel_rfl) (by
  intro args objs r h0
  have c_SameR : ∀ a o, T_holds 26 a o = k_SameR a o := fun _ _ => rfl
  obtain ⟨v, w, _, _, rfl, hv, hw, hR⟩ := con2_inv h0
  cases hv; cases hw
  split at hR
  case h_2 => cases hR
  rename_i n1 i1 a n2 i2 c
  split at hR
  case h_2 => cases hR
  rename_i l m ha hc
  obtain ⟨hl, hR⟩ := bnd_inv hR
  cases hR
  obtain ⟨a1, a2, a3, a4⟩ := one_ofR ha
  obtain ⟨c1, c2, c3, c4⟩ := one_ofR hc
  have ha' : ∀ M, ofIntsR .u8 (objs ++ M) a = some l := fun M => ofIntsR_app ha
  have hc' : ∀ M, ofIntsR .u8 (objs ++ M) c = some m := fun M => ofIntsR_app hc
  refine .go _ rfl rfl ?_
  by_cases hn : n1 = n2
  · subst hn
    by_cases hi : i1 = i2
    · subst hi
      simp -implicitDefEqProofs (disch := omega) [a1, a2, a3, a4, c1, c2, c3, c4, c_SameR, k_SameR, ha', hc']
    · have hi' : (i1 == i2) = false := by simpa using hi
      simp -implicitDefEqProofs (disch := omega) [a1, a2, a3, a4, c1, c2, c3, c4, hi, hi']
  · have hn' : (n1 == n2) = false := by simpa using hn
    simp -implicitDefEqProofs (disch := omega) [a1, a2, a3, a4, c1, c2, c3, c4, hn, hn'])
def leastR (k : Int) : Int := if k = 1 then -128 else if k = 2 then -32768 else if k = 3 then -2147483648 else if k = 4 then -9223372036854775808 else 0
def greatR (k : Int) : Int := if k = 1 then 127 else if k = 2 then 32767 else if k = 3 then 2147483647 else if k = 4 then 9223372036854775807 else if k = 5 then 65535 else 1
noncomputable def k_Least : Ab.Spec := con1 (ofInt .i64) fun k _ => some (.int .i64 (leastR k), none)
noncomputable def T_Least : CallF := withF T_Alike 52 k_Least
theorem T_Least_ok : CallOk Tryd.prog T_Least := con_of (A := annOf [] [] [] false []) fit T_Alike_ok (fn := Tryd.f52) (by kernel_rfl) (by kernel_rfl) (by
  intro args objs r h0
  obtain ⟨_, k, rfl, hb, hR⟩ := con1_inv h0
  obtain rfl := ofInt_inv hb
  cases hR
  refine .go _ rfl rfl ?_
  unfold leastR
  by_cases h1 : k = 1
  · simp [h1]
  by_cases h2 : k = 2
  · simp [h2]
  by_cases h3 : k = 3
  · simp [h3]
  by_cases h4 : k = 4
  · simp [h4]
  simp [h1, h2, h3, h4])
noncomputable def k_Greatest : Ab.Spec := con1 (ofInt .i64) fun k _ => some (.int .i64 (greatR k), none)
noncomputable def T_Greatest : CallF := withF T_Least 53 k_Greatest
theorem T_Greatest_ok : CallOk Tryd.prog T_Greatest := con_of (A := annOf [] [] [] false []) fit T_Least_ok (fn := Tryd.f53) (by kernel_rfl) (by kernel_rfl) (by
  intro args objs r h0
  obtain ⟨_, k, rfl, hb, hR⟩ := con1_inv h0
  obtain rfl := ofInt_inv hb
  cases hR
  refine .go _ rfl rfl ?_
  unfold greatR
  by_cases h1 : k = 1
  · simp [h1]
  by_cases h2 : k = 2
  · simp [h2]
  by_cases h3 : k = 3
  · simp [h3]
  by_cases h4 : k = 4
  · simp [h4]
  by_cases h5 : k = 5
  · simp [h5]
  simp [h1, h2, h3, h4, h5])
noncomputable def k_Zero : Ab.Spec := con1 some fun v objs => match ofIntsR .u8 objs v with | some l => bnd l.length 140737488355328 (some (.bool (zeroIn l), none)) | none => none
noncomputable def T_Zero : CallF := withF T_Greatest 54 k_Zero
theorem T_Zero_ok : CallOk Tryd.prog T_Zero := con_of (A := annOf [] [] [] false []) fit T_Greatest_ok (fn := Tryd.f54) (by kernel_rfl) (by kernel_rfl) (by
  intro args objs r h0
  obtain ⟨v, _, rfl, hv, hR⟩ := con1_inv h0
  cases hv
  split at hR
  case h_2 => cases hR
  rename_i l ha
  obtain ⟨hl, hR⟩ := bnd_inv hR
  cases hR
  obtain ⟨P, vd, vn, vi, vl⟩ := bsR ha
  refine .go _ rfl rfl ?_
  simp
  refine .up l.length (fun i s => s.env 0 = v ∧ s.env 3 = .int .i64 i ∧ s.toks = [] ∧ s.objs = objs ∧ s.low = objs.length ∧ ∀ j, j < i → nth l j ≠ 0) (by simp) ?_
  rintro i s hi ⟨h0, h3, ht, ho, hlo, hj⟩
  rcases Nat.lt_or_ge i l.length with h | h
  · by_cases hz : nth l i = 0
    · have hc : zeroIn l = true := by unfold zeroIn; rw [List.contains_iff_mem, ← hz]; exact nth_mem h
      simp (disch := omega) [h0, h3, ht, ho, hlo, vn, vi, vl, h, hz, hc]
    · have hs : ∀ j, j < i + 1 → nth l j ≠ 0 := fun j hj2 => by
        rcases Nat.lt_or_ge j i with q | q
        · exact hj j q
        · obtain rfl : j = i := by omega
          exact hz
      simp (disch := omega) [h0, h3, ht, ho, hlo, vn, vi, vl, h, hz, wrap_small]
      exact hs
  · obtain rfl : i = l.length := by omega
    have hc : zeroIn l = false := by
      unfold zeroIn
      rw [Bool.eq_false_iff]
      intro q
      rw [List.contains_iff_mem] at q
      obtain ⟨j, hj2, e⟩ := List.getElem_of_mem q
      exact hj j hj2 (by rw [nth_lt hj2]; exact e)
    simp [h0, h3, ht, ho, hlo, vn, hc])
def checkR (kind : Int) (null n : Bool) (i : Int) (b : List Int) : Int :=
  if kind < 1 ∨ kind > 8 then 1 else if n = true then (if null = true then (if i = 0 ∧ b = [] then 0 else 50) else 51)
  else if kind ≤ 6 then (if b = [] then (if holdsR kind i = true then 0 else 52) else 50) else if i = 0 then textR kind b else 50
noncomputable def k_rCheck : Ab.Spec := con3 (ofInt .i64) ofBool some fun k nl v objs => match v with
  | .agg [.bool n, .int .i64 i, a] => match ofIntsR .u8 objs a with
    | some l => bnd l.length 140737488355328 (if i64B i = true then some (.int .i64 (checkR k nl n i l), none) else none)
    | none => none
  | _ => none
noncomputable def T_rCheck : CallF := withF T_Zero 37 k_rCheck
theorem T_rCheck_ok : CallOk Tryd.prog T_rCheck := con_of (A := annOf [] [] [] false []) fit T_Zero_ok (fn := Tryd.f37) (by kernel_rfl) (by kernel_rfl) (by
  intro args objs r h0
  have c_Least : ∀ a o, T_Zero 52 a o = k_Least a o := fun _ _ => rfl
  have c_Greatest : ∀ a o, T_Zero 53 a o = k_Greatest a o := fun _ _ => rfl
  have c_Zero : ∀ a o, T_Zero 54 a o = k_Zero a o := fun _ _ => rfl
  obtain ⟨_, _, v, k, nl, _, rfl, hk, hnl, hv, hR⟩ := con3_inv h0
  obtain rfl := ofInt_inv hk
  obtain rfl := ofBool_inv hnl
  cases hv
  split at hR
  case h_2 => cases hR
  rename_i n i a
  split at hR
  case h_2 => cases hR
  rename_i l ha
  obtain ⟨hl, hR⟩ := bnd_inv hR
  split at hR
  case isFalse => cases hR
  rename_i hib
  cases hR
  obtain ⟨v0, v1⟩ := i64B_iff.1 hib
  obtain ⟨a1, a2, a3, a4⟩ := one_ofR ha
  obtain ⟨P, -, vn, -⟩ := bsR ha
  have ha' : ∀ M, ofIntsR .u8 (objs ++ M) a = some l := fun M => ofIntsR_app ha
  refine .go _ rfl rfl ?_
  by_cases k1 : k < 1
  · have hg : checkR k nl n i l = 1 := if_pos (.inl k1)
    simp -implicitDefEqProofs (disch := omega) [a1, a2, a3, a4, k1, hg]
  by_cases k8 : 8 < k
  · have hg : checkR k nl n i l = 1 := if_pos (.inr k8)
    simp -implicitDefEqProofs (disch := omega) [a1, a2, a3, a4, k1, k8, hg]
  have hg0 : checkR k nl n i l = if n = true then (if nl = true then (if i = 0 ∧ l = [] then 0 else 50) else 51)
      else if k ≤ 6 then (if l = [] then (if holdsR k i = true then 0 else 52) else 50) else if i = 0 then textR k l else 50 := if_neg (by omega)
  have hl0 : ∀ h : ¬ l = [], 0 < l.length := fun h => List.length_pos_iff.2 h
  cases n with
  | true =>
    rw [if_pos rfl] at hg0
    cases nl with
    | false =>
      simp -implicitDefEqProofs (disch := omega) [a1, a2, a3, a4, k1, k8, hg0]
    | true =>
      rw [if_pos rfl] at hg0
      by_cases hi : i = 0
      · subst hi
        by_cases hz : l = []
        · subst hz
          simp -implicitDefEqProofs (disch := omega) [a1, a2, a3, a4, k1, k8, vn, hg0]
        · have := hl0 hz
          simp -implicitDefEqProofs (disch := omega) [a1, a2, a3, a4, k1, k8, vn, hg0, hz, this]
      · have hi' : (i != 0) = true := by simpa using hi
        simp -implicitDefEqProofs (disch := omega) [a1, a2, a3, a4, k1, k8, vn, hg0, hi, hi']
  | false =>
    rw [if_neg (by simp)] at hg0
    by_cases k6 : k ≤ 6
    · rw [if_pos k6] at hg0
      by_cases hz : l = []
      · subst hz
        rw [if_pos rfl] at hg0
        by_cases hh : holdsR k i = true
        · rw [if_pos hh] at hg0
          have hb : leastR k ≤ i ∧ i ≤ greatR k := by
            unfold holdsR at hh; unfold leastR greatR
            obtain rfl | rfl | rfl | rfl | rfl | rfl : k = 1 ∨ k = 2 ∨ k = 3 ∨ k = 4 ∨ k = 5 ∨ k = 6 := by omega
            all_goals simp at hh ⊢
            all_goals omega
          have hb1 : ¬ i < leastR k := by omega
          have hb2 : ¬ greatR k < i := by omega
          simp -implicitDefEqProofs (disch := omega) [a1, a2, a3, a4, k1, k8, k6, vn, hg0, c_Least, k_Least, c_Greatest, k_Greatest, hb1, hb2]
        · rw [if_neg hh] at hg0
          have hb : i < leastR k ∨ greatR k < i := by
            unfold holdsR at hh; unfold leastR greatR
            obtain rfl | rfl | rfl | rfl | rfl | rfl : k = 1 ∨ k = 2 ∨ k = 3 ∨ k = 4 ∨ k = 5 ∨ k = 6 := by omega
            all_goals simp at hh ⊢
            all_goals omega
          by_cases hb1 : i < leastR k
          · simp -implicitDefEqProofs (disch := omega) [a1, a2, a3, a4, k1, k8, k6, vn, hg0, c_Least, k_Least, c_Greatest, k_Greatest, hb1]
          · have hb2 : greatR k < i := hb.resolve_left hb1
            simp -implicitDefEqProofs (disch := omega) [a1, a2, a3, a4, k1, k8, k6, vn, hg0, c_Least, k_Least, c_Greatest, k_Greatest, hb1, hb2]
      · rw [if_neg hz] at hg0
        have := hl0 hz
        simp -implicitDefEqProofs (disch := omega) [a1, a2, a3, a4, k1, k8, k6, vn, hg0, hz, this]
    · rw [if_neg k6] at hg0
      by_cases hi : i = 0
      · subst hi
        rw [if_pos rfl] at hg0
        by_cases h200 : l.length > 200
        · have ht : textR k l = 4 := if_pos h200
          rw [ht] at hg0
          simp -implicitDefEqProofs (disch := omega) [a1, a2, a3, a4, k1, k8, k6, vn, hg0, h200]
        by_cases h7 : k = 7
        · subst h7
          by_cases hc : zeroIn l = true
          · have ht : textR 7 l = 5 := by unfold textR; rw [if_neg h200, if_pos ⟨rfl, hc⟩]
            rw [ht] at hg0
            simp -implicitDefEqProofs (disch := omega) [a1, a2, a3, a4, vn, hg0, h200, c_Zero, k_Zero, ha', hc]
          · have ht : textR 7 l = 0 := by unfold textR; rw [if_neg h200, if_neg (fun q => hc q.2)]
            have hc : zeroIn l = false := by simpa using hc
            rw [ht] at hg0
            simp -implicitDefEqProofs (disch := omega) [a1, a2, a3, a4, vn, hg0, h200, c_Zero, k_Zero, ha', hc]
        · have ht : textR k l = 0 := by unfold textR; rw [if_neg h200, if_neg (fun q => h7 q.1)]
          rw [ht] at hg0
          simp -implicitDefEqProofs (disch := omega) [a1, a2, a3, a4, k1, k8, k6, vn, hg0, h200, h7]
      · rw [if_neg hi] at hg0
        have hi' : (i != 0) = true := by simpa using hi
        simp -implicitDefEqProofs (disch := omega) [a1, a2, a3, a4, k1, k8, k6, vn, hg0, hi, hi'])

end Go.Proofs.YtiaihiccaoibgaaDoor.B
set_option maxRecDepth 20000
set_option maxHeartbeats 1000000
namespace Go.Proofs.YtiaihiccaoibgaaDoor.B
open Go Go.Ab
/-! names: strings.Trim by a set of bytes -/
def tabB (l : List Int) : List V := (List.range 256).map fun i : Nat => .bool (l.contains (i : Int))
theorem tabB_len (l : List Int) : (tabB l).length = 256 := by simp [tabB]
theorem tabB_get (l : List Int) {c : Int} (h0 : 0 ≤ c) (h1 : c < 256) : (tabB l)[c.toNat]? = some (.bool (l.contains c)) := by
  unfold tabB
  rw [List.getElem?_map, List.getElem?_range (by omega)]
  simp only [Option.map_some]
  rw [show ((c.toNat : Nat) : Int) = c by omega]
theorem tabB_set (l : List Int) {c : Int} (h0 : 0 ≤ c) (h1 : c < 256) : setCells (tabB l) c.toNat [.bool true] = tabB (l ++ [c]) := by
  obtain ⟨n, rfl⟩ := Int.eq_ofNat_of_zero_le h0
  have hn : n < 256 := by omega
  refine List.ext_getElem? fun j => ?_
  have e : setCells (tabB l) (n : Int).toNat [.bool true] = (tabB l).set n (.bool true) := by
    rw [Int.toNat_natCast, List.set_eq_take_append_cons_drop, if_pos (by rw [tabB_len]; exact hn)]
    simp [setCells]
  rw [e]
  by_cases hj : j = n
  · subst hj
    rw [List.getElem?_set_self (by rw [tabB_len]; exact hn)]
    simp [tabB, hn]
  · rw [List.getElem?_set_ne (Ne.symm hj)]
    unfold tabB
    rw [List.getElem?_map, List.getElem?_map]
    rcases Nat.lt_or_ge j 256 with q | q
    · rw [List.getElem?_range q]
      have : ¬ (j : Int) = n := by omega
      simp [this]
    · rw [List.getElem?_eq_none (by simpa using q)]; rfl
theorem tabB_refs (l : List Int) (b : Nat) : norefs b (tabB l) = true := norefs_iff.2 fun v hv => by
  obtain ⟨s, -, rfl⟩ := List.mem_map.1 hv
  rfl
theorem tabB_one (l : List Int) : (tabB l).all oneCell = true := List.all_eq_true.2 fun v hv => by
  obtain ⟨s, -, rfl⟩ := List.mem_map.1 hv
  rfl
theorem tabB_zero : tabB [] = List.replicate 256 (.bool false) := by
  unfold tabB
  rw [List.eq_replicate_iff]
  simp
theorem vset : zeroV Tryd.prog 104 = some (tabB []) := by rw [tabB_zero]; kernel_rfl
theorem set_all {l l' : List Int} : setCells (tabB l) 0 (tabB l') = tabB l' := by
  have h1 := tabB_len l
  have h2 := tabB_len l'
  unfold setCells
  rw [List.drop_of_length_le (by omega)]
  simp
theorem take_tab {l : List Int} : (tabB l).take 256 = tabB l := List.take_of_length_le (by rw [tabB_len]; omega)
def low7 (l : List Int) : Bool := l.all fun c => decide (c < 128)
theorem low7_iff {l : List Int} : low7 l = true ↔ ∀ c ∈ l, c < 128 := by simp [low7]
noncomputable def k_asciiSet : Ab.Spec := con1 ofStr fun s _ => bnd (strL s).length 140737488355328 (if low7 (strL s) = true then some (.tup [.agg (tabB (strL s)), .bool true], none) else none)
noncomputable def T_asciiSet : CallF := withF T_rCheck 78 k_asciiSet
theorem T_asciiSet_ok : CallOk Tryd.prog T_asciiSet := con_of (A := annOf [] [] [] false []) fit T_rCheck_ok (fn := Tryd.f78) (by kernel_rfl) (by kernel_rfl) (by
  intro args objs r h0
  obtain ⟨_, s, rfl, hs, hR⟩ := con1_inv h0
  obtain rfl := ofStr_inv hs
  obtain ⟨hl, hR⟩ := bnd_inv hR
  split at hR
  case isFalse => cases hR
  rename_i h7
  cases hR
  have h7 := low7_iff.1 h7
  have hn := str_len u9 s
  obtain ⟨l, hL⟩ : ∃ l, l = strL s := ⟨_, rfl⟩
  have hB : ∀ c ∈ l, 0 ≤ c ∧ c < 256 := by rw [hL]; exact strL_byte
  have hi := fun k i h0 h1 => str_index (s := s) u9 k (i := i) h0 h1
  rw [← hL] at hl h7 hn hi
  refine .go _ rfl rfl ?_
  simp -implicitDefEqProofs [vset]
  refine .up l.length (fun i z => z.env 0 = .str s ∧ z.env 2 = .ptr objs.length 0 0 ∧ z.env 4 = .int .i64 i ∧ z.toks = [] ∧ z.objs = objs ++ [.cells (tabB (l.take i)) 0] ∧ z.low = objs.length) (by simp) ?_
  rintro i z hi2 ⟨h0, h2, h4, ht, ho, hlo⟩
  rcases Nat.lt_or_ge i l.length with h | h
  · have e1 := hi .i64 i (by omega) (by omega)
    rw [Int.toNat_natCast] at e1
    have e := take_nth h
    obtain ⟨c, hc⟩ : ∃ c, c = nth l i := ⟨_, rfl⟩
    obtain ⟨c0, c1⟩ := hB _ (nth_mem h)
    have c2 := h7 _ (nth_mem h)
    rw [← hc] at e1 e c0 c1 c2
    have c3 : c ≤ 255 := by omega
    have hst := tabB_set (l.take i) c0 c1
    rw [← e] at hst
    have hlen := tabB_len (l.take i)
    simp -implicitDefEqProofs (disch := omega) [h0, h2, h4, ht, ho, hlo, hn, e1, h, c0, c1, c3, hst, hlen, wrap_small]
  · obtain rfl : i = l.length := by omega
    rw [List.take_length] at ho
    have hlen := tabB_len l
    have hr := tabB_refs l objs.length
    have h1 := tabB_one l
    simp -implicitDefEqProofs (disch := omega) [h0, h2, h4, ht, ho, hlo, hn, hlen, take_tab, set_all, hr, h1, ← hL])
def nameSet : List Int := [97, 98, 99, 100, 101, 102, 103, 104, 105, 106, 107, 108, 109, 110, 111, 112, 113, 114, 115, 116, 117, 118, 119, 120, 121, 122, 48, 49, 50, 51, 52, 53, 54, 55, 56, 57, 95]
def nameC (c : Int) : Bool := nameSet.contains c
def rtr (l : List Int) : List Int := (l.reverse.dropWhile nameC).reverse
def ltr (l : List Int) : List Int := l.dropWhile nameC
theorem rtr_snoc (l : List Int) (c : Int) : rtr (l ++ [c]) = if nameC c = true then rtr l else l ++ [c] := by
  unfold rtr
  rw [List.reverse_append, List.reverse_singleton, List.singleton_append, List.dropWhile_cons]
  split <;> simp
theorem ltr_cons (l : List Int) (c : Int) : ltr (c :: l) = if nameC c = true then ltr l else c :: l := by
  unfold ltr; rw [List.dropWhile_cons]
theorem dropWhile_nil {p : Int → Bool} : ∀ {l : List Int}, l.dropWhile p = [] ↔ l.all p = true
  | [] => by simp
  | c :: l => by
    rw [List.dropWhile_cons, List.all_cons]
    cases h : p c
    · simp
    · simpa using dropWhile_nil (p := p) (l := l)
theorem trim_nil (l : List Int) : ltr (rtr l) = [] ↔ l.all nameC = true := by
  unfold ltr
  rw [dropWhile_nil]
  induction hn : l.length generalizing l with
  | zero => rw [List.eq_nil_of_length_eq_zero hn]; simp [rtr]
  | succ n ih =>
    obtain ⟨m, c, rfl⟩ : ∃ m c, l = m ++ [c] := ⟨l.dropLast, l.getLast (by intro q; rw [q] at hn; cases hn), (List.dropLast_concat_getLast _).symm⟩
    rw [rtr_snoc]
    split
    · rename_i h
      rw [ih m (by simpa using hn)]
      simp [h]
    · rfl
theorem rtr_sub (l : List Int) : ∀ c ∈ rtr l, c ∈ l := fun c hc => by
  unfold rtr at hc
  rw [List.mem_reverse] at hc
  exact List.mem_reverse.1 ((List.dropWhile_sublist _).subset hc)
theorem rtr_len (l : List Int) : (rtr l).length ≤ l.length := by
  unfold rtr
  have := (List.dropWhile_sublist (l := l.reverse) nameC).length_le
  simpa using this
theorem ltr_sub (l : List Int) : ∀ c ∈ ltr l, c ∈ l := fun c hc => (List.dropWhile_sublist _).subset hc
noncomputable def k_asciiHas : Ab.Spec := con2 some (ofInt .u8) fun v c objs => match v with | .ptr id ver 0 => pre ((0 ≤ c ∧ c < 256) ∧ Ab.getObj objs id ver = some (tabB nameSet)) (some (.bool (nameC c), none)) | _ => none
noncomputable def T_asciiHas : CallF := withF T_asciiSet 86 k_asciiHas
theorem T_asciiHas_ok : CallOk Tryd.prog T_asciiHas := con_of (A := annOf [] [] [] false []) fit T_asciiSet_ok (fn := Tryd.f86) (by kernel_rfl) (by kernel_rfl) (by
  intro args objs r h0
  obtain ⟨v, _, _, c, rfl, hv, hc, hR⟩ := con2_inv h0
  cases hv
  obtain rfl := ofInt_inv hc
  split at hR
  case h_2 => cases hR
  rename_i id ver
  obtain ⟨⟨⟨c0, c1⟩, hg⟩, hR⟩ := pre_inv hR
  cases hR
  have e := tabB_get nameSet c0 c1
  have e' := of_get e
  have hlen := tabB_len nameSet
  have c2 : c.toNat < 256 := by omega
  refine .go _ rfl rfl ?_
  simp -implicitDefEqProofs (disch := omega) [c0, c1, c2, hg, e, e', hlen, nameC])
noncomputable def k_trimR : Ab.Spec := con2 ofStr some fun s v objs => match v with | .ptr id ver 0 => bnd (strL s).length 140737488355328 (pre (Ab.getObj objs id ver = some (tabB nameSet)) (some (.str (strOfNums (rtr (strL s))), none))) | _ => none
noncomputable def T_trimR : CallF := withF T_asciiHas 80 k_trimR
theorem T_trimR_ok : CallOk Tryd.prog T_trimR := con_of (A := annOf [] [] [] false []) fit T_asciiHas_ok (fn := Tryd.f80) (by kernel_rfl) (by kernel_rfl) (by
  intro args objs r h0
  have c_asciiHas : ∀ a o, T_asciiHas 86 a o = k_asciiHas a o := fun _ _ => rfl
  obtain ⟨_, v, s, _, rfl, hs, hv, hR⟩ := con2_inv h0
  obtain rfl := ofStr_inv hs
  cases hv
  split at hR
  case h_2 => cases hR
  rename_i id ver
  obtain ⟨hl, hR⟩ := bnd_inv hR
  obtain ⟨hg, hR⟩ := pre_inv hR
  cases hR
  obtain ⟨l, hL⟩ : ∃ l, l = strL s := ⟨_, rfl⟩
  have hB : ∀ c ∈ l, 0 ≤ c ∧ c < 256 := by rw [hL]; exact strL_byte
  have hs2 : s = strOfNums l := by rw [hL, nums_strL]
  rw [← hL] at hl
  rw [← hL, hs2]
  refine .go _ rfl rfl ?_
  simp -implicitDefEqProofs
  refine .dn l.length (fun n z => ∃ m : List Int, m.length = n ∧ (∀ c ∈ m, 0 ≤ c ∧ c < 256) ∧ rtr m = rtr l ∧ n < 140737488355328 ∧ z.env 0 = .str (strOfNums m) ∧ z.env 1 = .ptr id ver 0 ∧ z.toks = [] ∧ z.objs = objs ∧ z.low = objs.length) ⟨l, rfl, hB, rfl, hl, by simp, by simp, rfl, rfl, rfl⟩ ?_
  rintro n z ⟨m, rfl, hm, hr, hmn, h0, h1, ht, ho, hlo⟩
  have em := strL_nums hm
  have hn := str_len (P := Tryd.prog) u9 (strOfNums m)
  rw [em] at hn
  have hi := fun k i h0 h1 => str_index (P := Tryd.prog) (s := strOfNums m) u9 k (i := i) h0 h1
  rw [em] at hi
  rcases Nat.eq_zero_or_pos m.length with hz | hz
  · have hm0 := List.eq_nil_of_length_eq_zero hz
    have hrl : rtr l = m := by rw [← hr, hm0]; rfl
    simp -implicitDefEqProofs (disch := omega) [h0, h1, ht, ho, hlo, hn, hz, hrl]
  · obtain ⟨p, c, hpc⟩ : ∃ p c, m = p ++ [c] := ⟨m.dropLast, m.getLast (by intro q; rw [q] at hz; cases hz), (List.dropLast_concat_getLast _).symm⟩
    have hlen : m.length = p.length + 1 := by rw [hpc]; simp
    have e1 := hi .i64 ((m.length : Int) - 1) (by omega) (by omega)
    have hnc : nth m ((m.length : Int) - 1).toNat = c := by
      rw [show ((m.length : Int) - 1).toNat = p.length by omega, hpc, nth_app_r (Nat.le_refl _), Nat.sub_self]; rfl
    rw [hnc] at e1
    obtain ⟨c0, c1⟩ := hm c (by rw [hpc]; simp)
    have w1 : IntKind.i64.wrap ((m.length : Int) - 1) = (m.length : Int) - 1 := wrap_small (by omega) (by omega)
    have hcut := str_cut (P := Tryd.prog) (s := strOfNums m) u9 objs none (some (.int .i64 ((m.length : Int) - 1))) 0 (m.length - 1) rfl (by simp [boundV]; omega) (by omega) (by rw [em]; omega)
    rw [em, show m.length - 1 = p.length by omega] at hcut
    have htk : (m.take p.length).drop 0 = p := by rw [hpc]; simp
    rw [htk] at hcut
    have hrs := rtr_snoc p c
    rw [← hpc, hr] at hrs
    have hz0 : (0 : Int) < (m.length : Int) := by omega
    by_cases hc : nameC c = true
    · rw [if_pos hc] at hrs
      simp -implicitDefEqProofs (disch := omega) [h0, h1, ht, ho, hlo, hn, hz, hz0, w1, e1, c_asciiHas, k_asciiHas, pre_pos, c0, c1, hg, hc, hcut]
      exact ⟨p.length, by omega, p, rfl, fun d hd => hm d (by rw [hpc]; simp [hd]), hrs.symm, by omega, rfl⟩
    · rw [if_neg hc] at hrs
      have hc : nameC c = false := by simpa using hc
      simp -implicitDefEqProofs (disch := omega) [h0, h1, ht, ho, hlo, hn, hz, hz0, w1, e1, c_asciiHas, k_asciiHas, pre_pos, c0, c1, hg, hc, hrs])
noncomputable def k_trimL : Ab.Spec := con2 ofStr some fun s v objs => match v with | .ptr id ver 0 => bnd (strL s).length 140737488355328 (pre (Ab.getObj objs id ver = some (tabB nameSet)) (some (.str (strOfNums (ltr (strL s))), none))) | _ => none
noncomputable def T_trimL : CallF := withF T_trimR 79 k_trimL
theorem T_trimL_ok : CallOk Tryd.prog T_trimL := con_of (A := annOf [] [] [] false []) fit T_trimR_ok (fn := Tryd.f79) (by kernel_rfl) (by kernel_rfl) (by
  intro args objs r h0
  have c_asciiHas : ∀ a o, T_trimR 86 a o = k_asciiHas a o := fun _ _ => rfl
  obtain ⟨_, v, s, _, rfl, hs, hv, hR⟩ := con2_inv h0
  obtain rfl := ofStr_inv hs
  cases hv
  split at hR
  case h_2 => cases hR
  rename_i id ver
  obtain ⟨hl, hR⟩ := bnd_inv hR
  obtain ⟨hg, hR⟩ := pre_inv hR
  cases hR
  obtain ⟨l, hL⟩ : ∃ l, l = strL s := ⟨_, rfl⟩
  have hB : ∀ c ∈ l, 0 ≤ c ∧ c < 256 := by rw [hL]; exact strL_byte
  have hs2 : s = strOfNums l := by rw [hL, nums_strL]
  rw [← hL] at hl
  rw [← hL, hs2]
  refine .go _ rfl rfl ?_
  simp -implicitDefEqProofs
  refine .dn l.length (fun n z => ∃ m : List Int, m.length = n ∧ (∀ c ∈ m, 0 ≤ c ∧ c < 256) ∧ ltr m = ltr l ∧ n < 140737488355328 ∧ z.env 0 = .str (strOfNums m) ∧ z.env 1 = .ptr id ver 0 ∧ z.toks = [] ∧ z.objs = objs ∧ z.low = objs.length) ⟨l, rfl, hB, rfl, hl, by simp, by simp, rfl, rfl, rfl⟩ ?_
  rintro n z ⟨m, rfl, hm, hr, hmn, h0, h1, ht, ho, hlo⟩
  have em := strL_nums hm
  have hn := str_len (P := Tryd.prog) u9 (strOfNums m)
  rw [em] at hn
  have hi := fun k i h0 h1 => str_index (P := Tryd.prog) (s := strOfNums m) u9 k (i := i) h0 h1
  rw [em] at hi
  rcases Nat.eq_zero_or_pos m.length with hz | hz
  · have hm0 := List.eq_nil_of_length_eq_zero hz
    have hrl : ltr l = m := by rw [← hr, hm0]; rfl
    simp -implicitDefEqProofs (disch := omega) [h0, h1, ht, ho, hlo, hn, hz, hrl]
  · obtain ⟨c, p, hpc⟩ : ∃ c p, m = c :: p := by
      cases m with
      | nil => exact absurd hz (by simp)
      | cons c p => exact ⟨c, p, rfl⟩
    have hlen : m.length = p.length + 1 := by rw [hpc]; simp
    have e1 := hi .i64 0 (by omega) (by omega)
    have hnc : nth m (0 : Int).toNat = c := by rw [hpc]; rfl
    rw [hnc] at e1
    obtain ⟨c0, c1⟩ := hm c (by rw [hpc]; simp)
    have hcut := str_cut (P := Tryd.prog) (s := strOfNums m) u9 objs (some (.int .i64 1)) none 1 m.length rfl (by rw [em]; rfl) (by omega) (by rw [em]; omega)
    rw [em] at hcut
    have htk : (m.take m.length).drop 1 = p := by rw [List.take_length, hpc]; rfl
    rw [htk] at hcut
    have hrs := ltr_cons p c
    rw [← hpc, hr] at hrs
    have hz0 : (0 : Int) < (m.length : Int) := by omega
    by_cases hc : nameC c = true
    · rw [if_pos hc] at hrs
      simp -implicitDefEqProofs (disch := omega) [h0, h1, ht, ho, hlo, hn, hz, hz0, e1, c_asciiHas, k_asciiHas, pre_pos, c0, c1, hg, hc, hcut]
      exact ⟨p.length, by omega, p, rfl, fun d hd => hm d (by rw [hpc]; simp [hd]), hrs.symm, by omega, rfl⟩
    · rw [if_neg hc] at hrs
      have hc : nameC c = false := by simpa using hc
      have hrs' : ltr l = m := hrs
      simp -implicitDefEqProofs (disch := omega) [h0, h1, ht, ho, hlo, hn, hz, hz0, e1, c_asciiHas, k_asciiHas, pre_pos, c0, c1, hg, hc, hrs'])
theorem lit_set : strL { data := #[97, 98, 99, 100, 101, 102, 103, 104, 105, 106, 107, 108, 109, 110, 111, 112, 113, 114, 115, 116, 117, 118, 119, 120, 121, 122, 48, 49, 50, 51, 52, 53, 54, 55, 56, 57, 95] } = nameSet := by rfl
theorem lit_empty : strL { data := #[] } = [] := rfl
def nameOk (l : List Int) : Bool := decide (1 ≤ l.length) && decide (l.length ≤ 24) && l.all nameC
noncomputable def k_Trim : Ab.Spec := con2 ofStr ofStr fun s c _ => bnd (strL s).length 140737488355328 (if strL c = nameSet then some (.str (strOfNums (ltr (rtr (strL s)))), none) else none)
noncomputable def T_Trim : CallF := withF T_trimL 68 k_Trim
theorem T_Trim_ok : CallOk Tryd.prog T_Trim := con_of (A := annOf [] [] [] false []) fit T_trimL_ok (fn := Tryd.f68) (by kernel_rfl) (by kernel_rfl) (by
  intro args objs r h0
  have c_asciiSet : ∀ a o, T_trimL 78 a o = k_asciiSet a o := fun _ _ => rfl
  have c_trimR : ∀ a o, T_trimL 80 a o = k_trimR a o := fun _ _ => rfl
  have c_trimL : ∀ a o, T_trimL 79 a o = k_trimL a o := fun _ _ => rfl
  obtain ⟨_, _, s, c, rfl, hs, hc, hR⟩ := con2_inv h0
  obtain rfl := ofStr_inv hs
  obtain rfl := ofStr_inv hc
  obtain ⟨hl, hR⟩ := bnd_inv hR
  split at hR
  case isFalse => cases hR
  rename_i hset
  cases hR
  have hn := str_len (P := Tryd.prog) u9 c
  have hns : nameSet.length = 37 := rfl
  rw [hset, hns] at hn
  have h7 : low7 nameSet = true := by rfl
  have hne : nameSet = [] ↔ False := by simp [nameSet]
  have hlen := tabB_len nameSet
  have h1 := tabB_one nameSet
  refine .go _ rfl rfl ?_
  by_cases hz : strL s = []
  · have hv : s = strOfNums (ltr (rtr (strL s))) := by rw [hz]; exact strL_inj (by rw [hz]; rfl)
    simp -implicitDefEqProofs (disch := omega) [str_isEmpty, str_beq, lit_empty, hz]
    rw [hz] at hv
    exact hv
  · have hB2 : ∀ c ∈ rtr (strL s), 0 ≤ c ∧ c < 256 := fun c hc => strL_byte c (rtr_sub _ c hc)
    have e2 := strL_nums hB2
    have hl2 := rtr_len (strL s)
    simp -implicitDefEqProofs (disch := omega) [str_isEmpty, str_beq, lit_empty, hz, hset, hne, hn, c_asciiSet, k_asciiSet, h7, hns, vset, tabB_len, tabB_one, set_all, take_tab, c_trimR, k_trimR, c_trimL, k_trimL, e2])
noncomputable def k_badName : Ab.Spec := con1 ofStr fun s _ => bnd (strL s).length 140737488355328 (some (.bool (!nameOk (strL s)), none))
noncomputable def T_badName : CallF := withF T_Trim 57 k_badName
theorem T_badName_ok : CallOk Tryd.prog T_badName := con_of (A := annOf [] [] [] false []) fit T_Trim_ok (fn := Tryd.f57) (by kernel_rfl) (by kernel_rfl) (by
  intro args objs r h0
  have c_Trim : ∀ a o, T_Trim 68 a o = k_Trim a o := fun _ _ => rfl
  obtain ⟨_, s, rfl, hs, hR⟩ := con1_inv h0
  obtain rfl := ofStr_inv hs
  obtain ⟨hl, hR⟩ := bnd_inv hR
  cases hR
  have hn := str_len (P := Tryd.prog) u9 s
  have hB2 : ∀ c ∈ ltr (rtr (strL s)), 0 ≤ c ∧ c < 256 := fun c hc => strL_byte c (rtr_sub _ c (ltr_sub _ c hc))
  have e2 := strL_nums hB2
  have ht := trim_nil (strL s)
  refine .go _ rfl rfl ?_
  by_cases hz : strL s = []
  · have hk : nameOk (strL s) = false := by rw [hz]; rfl
    simp -implicitDefEqProofs (disch := omega) [str_isEmpty, str_beq, lit_empty, hz]
    rw [hz] at hk
    exact hk
  have hz2 : 1 ≤ (strL s).length := List.length_pos_iff.2 hz
  by_cases h24 : (strL s).length ≤ 24
  · have hk : nameOk (strL s) = (strL s).all nameC := by simp [nameOk, hz2, h24]
    have h24' : ¬ 24 < (strL s).length := by omega
    rw [hk]
    by_cases ha : (strL s).all nameC = true
    · have := ht.2 ha
      simp -implicitDefEqProofs (disch := omega) [str_isEmpty, str_beq, lit_empty, hz, hn, h24', c_Trim, k_Trim, lit_set, hl, e2, this, ha, show strL (strOfNums []) = [] from rfl]
    · have h3 : ¬ ltr (rtr (strL s)) = [] := fun q => ha (ht.1 q)
      have ha : (strL s).all nameC = false := by simpa using ha
      simp -implicitDefEqProofs (disch := omega) [str_isEmpty, str_beq, lit_empty, hz, hn, h24', c_Trim, k_Trim, lit_set, hl, e2, h3, ha]
  · have hk : nameOk (strL s) = false := by simp [nameOk, h24]
    have h24' : 24 < (strL s).length := by omega
    simp -implicitDefEqProofs (disch := omega) [str_isEmpty, str_beq, lit_empty, hz, hn, h24', hk])

end Go.Proofs.YtiaihiccaoibgaaDoor.B
