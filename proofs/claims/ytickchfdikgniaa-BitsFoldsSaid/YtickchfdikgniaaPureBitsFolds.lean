/- For all numbers and sizes: Fold and Flip are one to one both ways, Flip keeps the order, a small number folds small, and Narrow is the document's. No condition. -/
import Derived.Test.YtickchfdikgniaaPBitsFoldsx4
import Derived.Laws.BitsLemmas
set_option linter.unusedVariables false
set_option linter.unusedSimpArgs false
set_option maxRecDepth 20000
namespace Go.Proofs.Ytickchfdikgniaa.Pure
open Go.RowKit Go.Proofs.Ytickchfdikgniaa.PBitsFolds Go.Proofs.YtickchfdikgniaaW.PrintWords Go.Proofs.YtickchfdikgniaaW.PrintLast Go.Proofs.YtickchfdikgniaaW.PrintMore

/-! ### base: numbers, lists (no program in sight) -/
theorem w64 {x : Int} (h0 : -9223372036854775808 ≤ x) (h1 : x ≤ 9223372036854775807) : wrap64 x = x := by
  unfold wrap64; omega
theorem u64r (x : Int) : IntKind.u64.wrap x = x % 18446744073709551616 := by
  simp [IntKind.wrap, IntKind.bits, IntKind.signed]
theorem u32r (x : Int) : IntKind.u32.wrap x = x % 4294967296 := by
  simp [IntKind.wrap, IntKind.bits, IntKind.signed]
theorem u64w {x : Int} (h0 : 0 ≤ x) (h1 : x < 18446744073709551616) : IntKind.u64.wrap x = x := by
  rw [u64r]; omega
theorem wsucc {i : Nat} (h : i < 9223372036854775807) : wrap64 ((i : Int) + 1) = ((i + 1 : Nat) : Int) := by
  unfold wrap64; omega
theorem byteWf {x : Int} (h : (Lit.int .u8 x).wf = true) : 0 ≤ x ∧ x < 256 := by
  simp [Lit.wf, IntKind.min, IntKind.max, IntKind.signed, IntKind.bits] at h
  omega
theorem u64Wf {x : Int} (h : (Lit.int .u64 x).wf = true) : 0 ≤ x ∧ x < 18446744073709551616 := by
  simp [Lit.wf, IntKind.min, IntKind.max, IntKind.signed, IntKind.bits] at h
  omega
theorem i64Wf {x : Int} (h : (Lit.int .i64 x).wf = true) : -9223372036854775808 ≤ x ∧ x < 9223372036854775808 := by
  simp [Lit.wf, IntKind.min, IntKind.max, IntKind.signed, IntKind.bits] at h
  omega
def Bytes (l : List Int) : Prop := ∀ x ∈ l, 0 ≤ x ∧ x < 256
def U64s (l : List Int) : Prop := ∀ x ∈ l, 0 ≤ x ∧ x < 18446744073709551616
theorem bytesWf {l : List Int} (h : ∀ x ∈ l, (Lit.int .u8 x).wf = true) : Bytes l := fun x hx => byteWf (h x hx)
theorem u64sWf {l : List Int} (h : ∀ x ∈ l, (Lit.int .u64 x).wf = true) : U64s l := fun x hx => u64Wf (h x hx)
theorem Bytes.app {a b : List Int} (ha : Bytes a) (hb : Bytes b) : Bytes (a ++ b) := fun x hx => (List.mem_append.1 hx).elim (ha x) (hb x)
theorem Bytes.left {a b : List Int} (h : Bytes (a ++ b)) : Bytes a := fun x hx => h x (List.mem_append_left _ hx)
theorem Bytes.right {a b : List Int} (h : Bytes (a ++ b)) : Bytes b := fun x hx => h x (List.mem_append_right _ hx)
theorem Bytes.drop {a : List Int} (h : Bytes a) (n : Nat) : Bytes (a.drop n) := fun x hx => h x (List.mem_of_mem_drop hx)
theorem Bytes.take {a : List Int} (h : Bytes a) (n : Nat) : Bytes (a.take n) := fun x hx => h x (List.mem_of_mem_take hx)
theorem U64s.drop {a : List Int} (h : U64s a) (n : Nat) : U64s (a.drop n) := fun x hx => h x (List.mem_of_mem_drop hx)
theorem U64s.take {a : List Int} (h : U64s a) (n : Nat) : U64s (a.take n) := fun x hx => h x (List.mem_of_mem_take hx)
theorem rd_nat {l : List Int} {i : Nat} (h : i < l.length) : rd l (i : Int) = l[i] := by
  simp [rd, List.getD_eq_getElem?_getD, h]
theorem rd_int {l : List Int} {i : Int} (h0 : 0 ≤ i) (h : i.toNat < l.length) : rd l i = l[i.toNat] := by
  simp [rd, List.getD_eq_getElem?_getD, h]
theorem drop_cons {l : List Int} {i : Nat} (h : i < l.length) : l.drop i = l[i] :: l.drop (i + 1) := List.drop_eq_getElem_cons h
theorem take_succ_snoc {l : List Int} {i : Nat} (h : i < l.length) : l.take (i + 1) = l.take i ++ [l[i]] := by rw [List.take_add_one, List.getElem?_eq_getElem h]; rfl
theorem pow_pos' (n : Nat) : (0 : Int) < 128 ^ n := Int.pow_pos (by decide)
theorem pow128 (n : Nat) : (128 : Int) ^ n = 2 ^ (7 * n) := by rw [Int.pow_mul]; rfl
theorem ipow_le {b : Int} (hb : 1 ≤ b) {m n : Nat} (h : m ≤ n) : b ^ m ≤ b ^ n := by
  obtain ⟨a, rfl⟩ := Int.eq_ofNat_of_zero_le (show 0 ≤ b by omega)
  exact_mod_cast Nat.pow_le_pow_right (by omega) h

theorem alive_ev : ∃ K, ∀ k, K ≤ k → stoalaw01_alive.f k = some true := by
  have h : stoalaw01_alive.f 40 = some true := by decide +kernel
  exact Ev.of (fun k => stoalaw01_alive.mono k) h

/-! ### m_bits: or, and, shifts as arithmetic -/
theorem wraps_u64 (n : Int) (h0 : 0 ≤ n) (h1 : n < 2 ^ 64) : IntKind.u64.wrap n = n := by
  rw [u64r]; omega
theorem and127 {x : Int} (h0 : 0 ≤ x) (h1 : x < 256) : Go.bits .and .u8 x 127 = x % 128 := Go.bits_mask .u8 8 (by decide) Go.wraps_u8 7 (by decide) x h0 h1
/-- A number below 2^j, and one whose lowest j bits are 0: 'or' adds. -/
theorem or_low {j : Nat} {x y : Int} (hx0 : 0 ≤ x) (hx : x < 2 ^ j) (hy0 : 0 ≤ y) (hb : x + y * 2 ^ j < 2 ^ 64) :
    Go.bits .or .u64 x (y * 2 ^ j) = x + y * 2 ^ j := by
  have hp : (0 : Int) < 2 ^ j := Int.pow_pos (by decide)
  obtain ⟨a, rfl⟩ := Int.eq_ofNat_of_zero_le hx0
  obtain ⟨b, rfl⟩ := Int.eq_ofNat_of_zero_le hy0
  have ha : a < 2 ^ j := by exact_mod_cast hx
  have hab : a + b * 2 ^ j < 2 ^ 64 := by exact_mod_cast hb
  have e : ((b : Int) * 2 ^ j) = ((2 ^ j * b : Nat) : Int) := by rw [Nat.mul_comm]; simp
  have hc : a + 2 ^ j * b < 2 ^ 64 := by rw [Nat.mul_comm]; exact hab
  rw [e, (Go.bits_nat .u64 64 (by decide) wraps_u64 a (2 ^ j * b) (by omega) (by omega)).2, Nat.or_comm, ← Nat.two_pow_add_eq_or_of_lt ha b]
  omega
theorem shl64 {x y : Int} (hx : 0 ≤ x) {n : Nat} (hy : y = n) (hn : n ≤ 64) (hb : x * 2 ^ n < 2 ^ 64) : shl .u64 x y = x * 2 ^ n := by
  subst hy
  have : (0 : Int) ≤ x * 2 ^ n := Int.mul_nonneg hx (Int.le_of_lt (Int.pow_pos (by decide)))
  have e : min n IntKind.u64.bits = n := by simp only [IntKind.bits]; omega
  unfold shl
  rw [Int.toNat_natCast, e, wraps_u64 _ this hb]

/-! ### m_xor: xor as arithmetic -/
theorem nat_xor_top {x : Nat} (j : Nat) (h : x < 2 ^ j) : x ^^^ 2 ^ j = x + 2 ^ j := by
  apply Nat.eq_of_testBit_eq
  intro i
  rw [Nat.testBit_xor, Nat.testBit_two_pow]
  rcases Nat.lt_trichotomy i j with hi | hi | hi
  · rw [Nat.add_comm, Nat.testBit_two_pow_add_gt hi, decide_eq_false (by omega)]; simp
  · subst hi
    rw [Nat.add_comm, Nat.testBit_two_pow_add_eq]; simp
  · have h1 : x + 2 ^ j < 2 ^ i := by
      have : 2 ^ (j + 1) ≤ 2 ^ i := Nat.pow_le_pow_right (by decide) hi
      rw [Nat.pow_succ] at this; omega
    rw [Nat.testBit_lt_two_pow h1, Nat.testBit_lt_two_pow (show x < 2 ^ i by omega), decide_eq_false (by omega)]; rfl
theorem nat_xor_top' {x : Nat} (j : Nat) (h : x < 2 ^ j) : (x + 2 ^ j) ^^^ 2 ^ j = x := by
  rw [← nat_xor_top j h, Nat.xor_assoc, Nat.xor_self, Nat.xor_zero]
theorem xor_u64_nat (a b : Nat) (ha : a < 2 ^ 64) (hb : b < 2 ^ 64) : Go.bits .xor .u64 (a : Int) (b : Int) = ((a ^^^ b : Nat) : Int) := by
  have hx := Nat.xor_lt_two_pow ha hb
  rw [show Go.bits .xor .u64 (a : Int) (b : Int) = IntKind.u64.wrap ((BitVec.ofInt 64 (a : Int) ^^^ BitVec.ofInt 64 (b : Int)).toNat : Int) from rfl, BitVec.ofInt_natCast, BitVec.ofInt_natCast, BitVec.toNat_xor, BitVec.toNat_ofNat, BitVec.toNat_ofNat, Nat.mod_eq_of_lt ha, Nat.mod_eq_of_lt hb]
  exact wraps_u64 _ (Int.natCast_nonneg _) (by exact_mod_cast hx)
theorem xor_zero {x : Int} (h0 : 0 ≤ x) (h1 : x < 18446744073709551616) : Go.bits .xor .u64 x 0 = x := by
  obtain ⟨a, rfl⟩ := Int.eq_ofNat_of_zero_le h0
  have := xor_u64_nat a 0 (by omega) (by decide)
  simpa using this
theorem xor_all {x : Int} (h0 : 0 ≤ x) (h1 : x < 18446744073709551616) : Go.bits .xor .u64 x 18446744073709551615 = 18446744073709551615 - x := by
  obtain ⟨a, rfl⟩ := Int.eq_ofNat_of_zero_le h0
  have e : BitVec.ofInt 64 18446744073709551615 = BitVec.allOnes 64 := by decide
  rw [show Go.bits .xor .u64 (a : Int) 18446744073709551615 = IntKind.u64.wrap ((BitVec.ofInt 64 (a : Int) ^^^ BitVec.ofInt 64 18446744073709551615).toNat : Int) from rfl, e, BitVec.ofInt_natCast, BitVec.xor_allOnes, BitVec.toNat_not, BitVec.toNat_ofNat,
    Nat.mod_eq_of_lt (show a < 2 ^ 64 by omega), wraps_u64 _ (by omega) (by omega)]; omega
theorem xor_top {x : Int} (h0 : 0 ≤ x) (h1 : x < 18446744073709551616) : Go.bits .xor .u64 x 9223372036854775808 = if x < 9223372036854775808 then x + 9223372036854775808 else x - 9223372036854775808 := by
  obtain ⟨a, rfl⟩ := Int.eq_ofNat_of_zero_le h0
  have h := xor_u64_nat a (2 ^ 63) (by omega) (by decide)
  rw [show ((2 ^ 63 : Nat) : Int) = 9223372036854775808 from rfl] at h
  rw [h]
  by_cases hc : a < 2 ^ 63
  · rw [nat_xor_top 63 hc, if_pos (by omega)]; omega
  · have := nat_xor_top' (x := a - 2 ^ 63) 63 (by omega)
    rw [show a - 2 ^ 63 + 2 ^ 63 = a by omega] at this
    rw [this, if_neg (by omega)]; omega
theorem i64_wrap_nat {n : Nat} (h : n < 2 ^ 64) : IntKind.i64.wrap (n : Int) = if n < 2 ^ 63 then (n : Int) else (n : Int) - 18446744073709551616 := by
  rw [Go.IntKind.wrap_i64]; split <;> omega
theorem xor_i64_zero {x : Int} (h0 : 0 ≤ x) (h1 : x < 9223372036854775808) : Go.bits .xor .i64 x 0 = x := by
  obtain ⟨a, rfl⟩ := Int.eq_ofNat_of_zero_le h0
  have e : BitVec.ofInt 64 0 = 0#64 := by decide
  rw [show Go.bits .xor .i64 (a : Int) 0 = IntKind.i64.wrap ((BitVec.ofInt 64 (a : Int) ^^^ BitVec.ofInt 64 0).toNat : Int) from rfl, e, BitVec.ofInt_natCast, BitVec.xor_zero, BitVec.toNat_ofNat, Nat.mod_eq_of_lt (show a < 2 ^ 64 by omega), i64_wrap_nat (by omega), if_pos (by omega)]
theorem xor_i64_all {x : Int} (h0 : 0 ≤ x) (h1 : x < 9223372036854775808) : Go.bits .xor .i64 x (-1) = -1 - x := by
  obtain ⟨a, rfl⟩ := Int.eq_ofNat_of_zero_le h0
  have e : BitVec.ofInt 64 (-1) = BitVec.allOnes 64 := by decide
  rw [show Go.bits .xor .i64 (a : Int) (-1) = IntKind.i64.wrap ((BitVec.ofInt 64 (a : Int) ^^^ BitVec.ofInt 64 (-1)).toNat : Int) from rfl, e, BitVec.ofInt_natCast, BitVec.xor_allOnes, BitVec.toNat_not, BitVec.toNat_ofNat, Nat.mod_eq_of_lt (show a < 2 ^ 64 by omega), i64_wrap_nat (by omega), if_neg (by omega)]; omega

/-! ### m_le: bytes as one number, the lowest first -/
def nat : List Int → Nat
  | [] => 0
  | c :: r => c.toNat + 256 * nat r
def leb (m : Nat) : Nat → List Int
  | 0 => []
  | n + 1 => ((m % 256 : Nat) : Int) :: leb (m / 256) n
theorem leb_len (n : Nat) : ∀ m, (leb m n).length = n := by
  induction n with
  | zero => intro m; rfl
  | succ n ih => intro m; simp [leb, ih]
theorem leb_bytes (n : Nat) : ∀ m, Bytes (leb m n) := by
  induction n with
  | zero => intro m x hx; simp [leb] at hx
  | succ n ih =>
    intro m x hx
    rw [leb] at hx
    rcases List.mem_cons.1 hx with rfl | hx
    · omega
    · exact ih _ x hx
theorem p8 (n : Nat) : 2 ^ (8 * (n + 1)) = 256 * 2 ^ (8 * n) := by rw [Nat.mul_add, Nat.pow_add, Nat.mul_comm]
theorem nat_leb (n : Nat) : ∀ m, m < 2 ^ (8 * n) → nat (leb m n) = m := by
  induction n with
  | zero => intro m h; simp at h; simp [leb, nat, h]
  | succ n ih =>
    intro m h
    rw [p8] at h
    rw [leb, nat, ih (m / 256) (by omega)]
    omega
theorem nat_lt {b : List Int} (h : Bytes b) : nat b < 2 ^ (8 * b.length) := by
  induction b with
  | nil => simp [nat]
  | cons c r ih =>
    have hc := h c List.mem_cons_self
    have := ih (fun x hx => h x (List.mem_cons_of_mem _ hx))
    rw [nat, List.length_cons, p8]; omega
theorem nat_inj {a : List Int} : ∀ {b : List Int}, Bytes a → Bytes b → a.length = b.length → nat a = nat b → a = b := by
  induction a with
  | nil => intro b _ _ h _; cases b with
    | nil => rfl
    | cons => simp at h
  | cons c r ih =>
    intro b ha hb hl h
    cases b with
    | nil => simp at hl
    | cons d s =>
      have h1 := ha c List.mem_cons_self
      have h2 := hb d List.mem_cons_self
      rw [nat, nat] at h
      have hn : nat r = nat s := by omega
      rw [ih (fun x hx => ha x (List.mem_cons_of_mem _ hx)) (fun x hx => hb x (List.mem_cons_of_mem _ hx)) (by simpa using hl) hn, show c = d by omega]
theorem leb_nat {b : List Int} (h : Bytes b) : leb (nat b) b.length = b :=
  nat_inj (leb_bytes _ _) h (leb_len _ _) (nat_leb _ _ (nat_lt h))
theorem nat_at {b : List Int} : ∀ (h : Bytes b) (k : Nat) (hk : k < b.length), nat b / 2 ^ (8 * k) % 256 = (b[k]).toNat := by
  induction b with
  | nil => intro h k hk; simp at hk
  | cons c r ih =>
    intro h k hk
    have hc := h c List.mem_cons_self
    cases k with
    | zero => simp only [nat, Nat.mul_zero, Nat.pow_zero, Nat.div_one, List.getElem_cons_zero]; omega
    | succ k =>
      rw [nat, p8, ← Nat.div_div_eq_div_mul, show (c.toNat + 256 * nat r) / 256 = nat r by omega]
      simpa using ih (fun x hx => h x (List.mem_cons_of_mem _ hx)) k (by simpa using hk)
theorem nat_set {b : List Int} (c : Int) : ∀ (k : Nat) (hk : k < b.length), nat (b.set k c) + (b[k]).toNat * 2 ^ (8 * k) = nat b + c.toNat * 2 ^ (8 * k) := by
  induction b with
  | nil => intro k hk; simp at hk
  | cons d r ih =>
    intro k hk
    cases k with
    | zero => simp [nat]; omega
    | succ k =>
      have := ih k (by simpa using hk)
      simp only [List.set_cons_succ, nat, List.getElem_cons_succ]
      rw [p8, Nat.mul_left_comm, Nat.mul_left_comm c.toNat]
      omega
theorem Bytes.set {b : List Int} (h : Bytes b) {c : Int} (hc : 0 ≤ c ∧ c < 256) (k : Nat) : Bytes (b.set k c) := fun x hx => by
  rcases List.mem_or_eq_of_mem_set hx with hx | rfl
  · exact h x hx
  · exact hc
theorem zeros_bytes (n : Nat) : Bytes (List.replicate n 0) := fun x hx => by rw [List.eq_of_mem_replicate hx]; omega
theorem nat_zeros (n : Nat) : nat (List.replicate n 0) = 0 := by
  induction n with
  | zero => rfl
  | succ n ih => rw [List.replicate_succ, nat, ih]; rfl
theorem nat_app (a b : List Int) : nat (a ++ b) = nat a + 2 ^ (8 * a.length) * nat b := by
  induction a with
  | nil => simp [nat]
  | cons c r ih => rw [List.cons_append, nat, nat, ih, List.length_cons, p8, Nat.mul_assoc]; omega
/-- A chunk that lies within one byte. -/
theorem nat_chunk {b : List Int} (h : Bytes b) (at_ t : Nat) (hk : at_ / 8 < b.length) (ht : at_ % 8 + t ≤ 8) :
    nat b / 2 ^ at_ % 2 ^ t = (b[at_ / 8]).toNat / 2 ^ (at_ % 8) % 2 ^ t := by
  rw [← nat_at h (at_ / 8) hk]
  have e : at_ = 8 * (at_ / 8) + at_ % 8 := by omega
  have e1 : nat b / 2 ^ at_ = nat b / 2 ^ (8 * (at_ / 8)) / 2 ^ (at_ % 8) := by
    rw [Nat.div_div_eq_div_mul, ← Nat.pow_add, ← e]
  rw [e1]
  generalize nat b / 2 ^ (8 * (at_ / 8)) = X
  generalize at_ % 8 = s at ht
  apply Nat.eq_of_testBit_eq
  intro i
  rw [show (256 : Nat) = 2 ^ 8 from rfl]
  simp only [Nat.testBit_mod_two_pow, Nat.testBit_div_two_pow]
  by_cases hi : i < t
  · simp only [hi, decide_true, Bool.true_and]
    rw [decide_eq_true (show i + s < 8 by omega)]; simp
  · simp [hi]
theorem mod_split (X g t : Nat) : X % 2 ^ (g + t) = X % 2 ^ g + 2 ^ g * (X / 2 ^ g % 2 ^ t) := by
  rw [Nat.pow_add, Nat.mod_mul]
theorem div_pow_add (X a b : Nat) : X / 2 ^ (a + b) = X / 2 ^ a / 2 ^ b := by rw [Nat.pow_add, Nat.div_div_eq_div_mul]

/-! ### m_bits2: more of or, and, shifts -/
theorem i64_and7 {x : Int} (h0 : 0 ≤ x) (h1 : x < 9223372036854775808) : Go.bits .and .i64 x 7 = x % 8 :=
  Go.bits_mask .i64 63 (by decide) (fun n h0 h1 => by rw [Go.IntKind.wrap_i64]; omega) 3 (by decide) x h0 (by simpa using h1)
theorem u64_mask {x : Int} (h0 : 0 ≤ x) (h1 : x < 18446744073709551616) {i : Nat} (hi : i ≤ 64) : Go.bits .and .u64 x (2 ^ i - 1) = x % 2 ^ i :=
  Go.bits_mask .u64 64 (by decide) wraps_u64 i hi x h0 (by simpa using h1)
theorem or_low8 {j : Nat} {x y : Int} (hx0 : 0 ≤ x) (hx : x < 2 ^ j) (hy0 : 0 ≤ y) (hb : x + y * 2 ^ j < 2 ^ 8) :
    Go.bits .or .u8 x (y * 2 ^ j) = x + y * 2 ^ j := by
  have hp : (0 : Int) < 2 ^ j := Int.pow_pos (by decide)
  obtain ⟨a, rfl⟩ := Int.eq_ofNat_of_zero_le hx0
  obtain ⟨b, rfl⟩ := Int.eq_ofNat_of_zero_le hy0
  have ha : a < 2 ^ j := by exact_mod_cast hx
  have hab : a + b * 2 ^ j < 2 ^ 8 := by exact_mod_cast hb
  have e : ((b : Int) * 2 ^ j) = ((2 ^ j * b : Nat) : Int) := by rw [Nat.mul_comm]; simp
  have hc : a + 2 ^ j * b < 2 ^ 8 := by rw [Nat.mul_comm]; exact hab
  rw [e, (Go.bits_nat .u8 8 (by decide) Go.wraps_u8 a (2 ^ j * b) (by omega) (by omega)).2, Nat.or_comm, ← Nat.two_pow_add_eq_or_of_lt ha b]
  omega
theorem shl8 {x y : Int} (hx : 0 ≤ x) {n : Nat} (hy : y = n) (hn : n ≤ 8) (hb : x * 2 ^ n < 2 ^ 8) : shl .u8 x y = x * 2 ^ n := by
  subst hy
  have : (0 : Int) ≤ x * 2 ^ n := Int.mul_nonneg hx (Int.le_of_lt (Int.pow_pos (by decide)))
  have e : min n IntKind.u8.bits = n := by simp only [IntKind.bits]; omega
  unfold shl
  rw [Int.toNat_natCast, e, Go.wraps_u8 _ this hb]
theorem shr8 {x y : Int} {n : Nat} (hy : y = n) (hn : n ≤ 8) : shr .u8 x y = x / 2 ^ n := by
  subst hy
  have e : min n IntKind.u8.bits = n := by simp only [IntKind.bits]; omega
  unfold shr
  rw [Int.toNat_natCast, e]
theorem shr64 {x y : Int} {n : Nat} (hy : y = n) (hn : n ≤ 64) : shr .u64 x y = x / 2 ^ n := by
  subst hy
  have e : min n IntKind.u64.bits = n := by simp only [IntKind.bits]; omega
  unfold shr
  rw [Int.toNat_natCast, e]
theorem toNat_div2 {x : Int} (h0 : 0 ≤ x) (n : Nat) : (x / 2 ^ n).toNat = x.toNat / 2 ^ n := by
  obtain ⟨a, rfl⟩ := Int.eq_ofNat_of_zero_le h0
  rw [show (2 : Int) ^ n = ((2 ^ n : Nat) : Int) by simp, ← Int.natCast_ediv, Int.toNat_natCast, Int.toNat_natCast]
theorem toNat_mod2 {x : Int} (h0 : 0 ≤ x) (n : Nat) : (x % 2 ^ n).toNat = x.toNat % 2 ^ n := by
  obtain ⟨a, rfl⟩ := Int.eq_ofNat_of_zero_le h0
  rw [show (2 : Int) ^ n = ((2 ^ n : Nat) : Int) by simp, ← Int.natCast_emod, Int.toNat_natCast, Int.toNat_natCast]
theorem divmod2 {x : Int} (h0 : 0 ≤ x) (s t : Nat) : x / 2 ^ s % 2 ^ t = ((x.toNat / 2 ^ s % 2 ^ t : Nat) : Int) := by
  obtain ⟨a, rfl⟩ := Int.eq_ofNat_of_zero_le h0
  simp
theorem mn_nat (a b : Nat) : mn (a : Int) (b : Int) = ((min a b : Nat) : Int) := by unfold mn; split <;> omega

def foldI (v : Int) : Int := if 0 ≤ v then 2 * v else -2 * v - 1
def unfoldI (u : Int) : Int := if u % 2 = 0 then u / 2 else -(u / 2) - 1
theorem fold_at {v : Int} (h0 : -9223372036854775808 ≤ v) (h1 : v < 9223372036854775808) : bits_Fold.f v = some (foldI v) := by
  unfold bits_Fold.f foldI
  congr 1
  by_cases h : 0 ≤ v
  · rw [if_pos h, show v / 9223372036854775808 = 0 by omega, show IntKind.u64.wrap (wrap64 (v * 2)) = v * 2 by rw [u64r]; unfold wrap64; omega, show IntKind.u64.wrap 0 = 0 by rw [u64r]; rfl, xor_zero (by omega) (by omega)]; omega
  · rw [if_neg h, show v / 9223372036854775808 = -1 by omega, show IntKind.u64.wrap (wrap64 (v * 2)) = v * 2 + 18446744073709551616 by rw [u64r]; unfold wrap64; omega, show IntKind.u64.wrap (-1) = 18446744073709551615 by rw [u64r]; rfl, xor_all (by omega) (by omega)]; omega
theorem unfold_at {u : Int} (h0 : 0 ≤ u) (h1 : u < 18446744073709551616) : bits_Unfold.f u = some (unfoldI u) := by
  unfold bits_Unfold.f unfoldI
  congr 1
  have e : Go.bits .and .u64 u 1 = u % 2 := by
    have := u64_mask h0 h1 (i := 1) (by decide); simpa using this
  rw [e, w64 (x := u / 2) (by omega) (by omega), w64 (x := u % 2) (by omega) (by omega)]
  by_cases h : u % 2 = 0
  · rw [if_pos h, h, show wrap64 (-0) = 0 by unfold wrap64; omega, xor_i64_zero (by omega) (by omega)]
  · rw [if_neg h, show u % 2 = 1 by omega, show wrap64 (-1) = -1 by unfold wrap64; omega, xor_i64_all (by omega) (by omega)]; omega
theorem flip_at {v : Int} (h0 : -9223372036854775808 ≤ v) (h1 : v < 9223372036854775808) : bits_Flip.f v = some (v + 9223372036854775808) := by
  unfold bits_Flip.f
  congr 1
  rw [xor_top (by rw [u64r]; omega) (by rw [u64r]; omega), u64r]
  split <;> omega
theorem unflip_at {u : Int} (h0 : 0 ≤ u) (h1 : u < 18446744073709551616) : bits_Unflip.f u = some (u - 9223372036854775808) := by
  unfold bits_Unflip.f
  congr 1
  rw [xor_top h0 h1]
  unfold wrap64
  split <;> omega

theorem power_l0 (n : Nat) (hn : n ≤ 63) (d : Nat) : ∀ (k i : Nat), i + d = n → d < k → stoaref01_power.l0 k (n : Int) (2 ^ i) (i : Int) = some (2 ^ n) := by
  induction d with
  | zero =>
    intro k i hi hk
    obtain ⟨k, rfl⟩ : ∃ m, k = m + 1 := ⟨k - 1, by omega⟩
    simp only [stoaref01_power.l0]
    rw [if_neg (by omega), show i = n by omega]
  | succ d ih =>
    intro k i hi hk
    obtain ⟨k, rfl⟩ : ∃ m, k = m + 1 := ⟨k - 1, by omega⟩
    have h1 : (2 : Int) ^ (i + 1) = 2 ^ i * 2 := by rw [Int.pow_succ]
    have h2 : (2 : Int) ^ (i + 1) ≤ 2 ^ 63 := ipow_le (by decide) (by omega)
    have h3 : (0 : Int) < 2 ^ (i + 1) := Int.pow_pos (by decide)
    simp only [stoaref01_power.l0]
    rw [if_pos (by omega), ← h1, u64w (by omega) (by omega), wsucc (by omega)]
    exact ih k (i + 1) (by omega) (by omega)
theorem power_at {n : Nat} (hn : n ≤ 63) (k : Nat) (hk : 64 ≤ k) : stoaref01_power.f k (n : Int) = some (2 ^ n) := by
  have := power_l0 n hn n k 0 (by omega) (by omega)
  simpa [stoaref01_power.f] using this

theorem i8r (x : Int) : IntKind.i8.wrap x = (x + 128) % 256 - 128 := by
  simp only [IntKind.wrap, IntKind.bits, IntKind.signed]; simp; split <;> omega
theorem i16r (x : Int) : IntKind.i16.wrap x = (x + 32768) % 65536 - 32768 := by
  simp only [IntKind.wrap, IntKind.bits, IntKind.signed]; simp; split <;> omega
def narrowR (v size : Int) : Int × Bool :=
  if size = 1 then ((v + 128) % 256 - 128, ((v + 128) % 256 - 128) == v) else if size = 2 then ((v + 32768) % 65536 - 32768, ((v + 32768) % 65536 - 32768) == v)
  else if size = 4 then ((v + 2147483648) % 4294967296 - 2147483648, ((v + 2147483648) % 4294967296 - 2147483648) == v) else if size = 8 then (v, true) else (0, false)
theorem narrow_at (v size : Int) : bits_Narrow.f v size = some (narrowR v size) := by
  unfold bits_Narrow.f narrowR
  by_cases h1 : size = 1
  · rw [if_pos h1, if_pos h1, i8r, w64 (by omega) (by omega)]
  rw [if_neg h1, if_neg h1]
  by_cases h2 : size = 2
  · rw [if_pos h2, if_pos h2, i16r, w64 (by omega) (by omega)]
  rw [if_neg h2, if_neg h2]
  by_cases h4 : size = 4
  · rw [if_pos h4, if_pos h4, show wrap32 v = (v + 2147483648) % 4294967296 - 2147483648 by unfold wrap32; rfl, w64 (by omega) (by omega)]
  rw [if_neg h4, if_neg h4]
  by_cases h8 : size = 8
  · rw [if_pos h8, if_pos h8]; simp
  · rw [if_neg h8, if_neg h8]
theorem rnarrow_j0 (v size p h : Int) (e : Int.tdiv p 2 = h) (hp : p = 2 * h) (hh : 0 < h) (hb : h ≤ 2147483648) (h8 : size ≠ 8) (n : Nat) (hn : n ≤ 63) (hs : wrap64 (8 * size) = (n : Int)) (hpn : (2 : Int) ^ n = p) (k : Nat) (hk : 65 ≤ k) :
    stoaref01_Narrow.j0 k v size false = some ((v + h) % p - h, ((v + h) % p - h) == v) := by
  obtain ⟨k, rfl⟩ : ∃ m, k = m + 1 := ⟨k - 1, by omega⟩
  simp only [stoaref01_Narrow.j0]
  rw [if_neg (by decide), if_neg h8, hs, power_at hn k (by omega), Option.bind_some, hpn, w64 (x := p) (by omega) (by omega), if_neg (by omega), e, w64 (x := h) (by omega) (by omega)]
  have ht : Int.tmod v p = if 0 ≤ v then v % p else -((-v) % p) := by
    split
    · rw [Int.tmod_eq_emod_of_nonneg (by omega)]
    · obtain ⟨a, rfl⟩ : ∃ a, v = -a := ⟨-v, by omega⟩
      rw [Int.neg_tmod, Int.tmod_eq_emod_of_nonneg (by omega), Int.neg_neg]
  have hm1 : 0 ≤ v % p ∧ v % p < p := ⟨Int.emod_nonneg _ (by omega), Int.emod_lt_of_pos _ (by omega)⟩
  have hm2 : 0 ≤ (-v) % p ∧ (-v) % p < p := ⟨Int.emod_nonneg _ (by omega), Int.emod_lt_of_pos _ (by omega)⟩
  have hm3 : 0 ≤ (v + h) % p ∧ (v + h) % p < p := ⟨Int.emod_nonneg _ (by omega), Int.emod_lt_of_pos _ (by omega)⟩
  have q1 := Int.emod_add_mul_ediv v p
  have q2 := Int.emod_add_mul_ediv (-v) p
  have q3 := Int.emod_add_mul_ediv (v + h) p
  have key : ∀ a b : Int, 0 ≤ a → a < p → 0 ≤ b → b < p → (∃ z : Int, a - b = p * z) → a = b := by
    rintro a b h1 h2 h3 h4 ⟨z, hz⟩
    have : z = 0 := by
      rcases Int.lt_trichotomy z 0 with h | h | h
      · have : p * z ≤ p * (-1) := Int.mul_le_mul_of_nonneg_left (by omega) (by omega)
        omega
      · exact h
      · have : p * 1 ≤ p * z := Int.mul_le_mul_of_nonneg_left (by omega) (by omega)
        omega
    subst this; omega
  have fin : ∀ y : Int, y = (v + h) % p - h → some (y, y == v) = some ((v + h) % p - h, ((v + h) % p - h) == v) := by rintro y rfl; rfl
  rw [ht]
  by_cases hv : 0 ≤ v
  · rw [if_pos hv, if_neg (by omega)]
    by_cases hc : v % p ≥ h
    · rw [if_pos hc, w64 (by omega) (by omega)]
      refine fin _ ?_
      have := key (v % p - h) ((v + h) % p) (by omega) (by omega) hm3.1 hm3.2 ⟨(v + h) / p - v / p - 1, by rw [Int.mul_sub, Int.mul_sub]; omega⟩
      omega
    · rw [if_neg hc]
      refine fin _ ?_
      have := key (v % p + h) ((v + h) % p) (by omega) (by omega) hm3.1 hm3.2 ⟨(v + h) / p - v / p, by rw [Int.mul_sub]; omega⟩
      omega
  · rw [if_neg hv]
    by_cases hz : (-v) % p = 0
    · rw [hz, if_neg (by omega), if_neg (by omega)]
      refine fin _ ?_
      have := key h ((v + h) % p) (by omega) (by omega) hm3.1 hm3.2 ⟨(v + h) / p + (-v) / p, by rw [Int.mul_add]; omega⟩
      omega
    · rw [if_pos (by omega), w64 (x := -(-v % p) + p) (by omega) (by omega)]
      by_cases hc : -(-v % p) + p ≥ h
      · rw [if_pos hc, w64 (by omega) (by omega)]
        refine fin _ ?_
        have := key (-(-v % p) + p - h) ((v + h) % p) (by omega) (by omega) hm3.1 hm3.2 ⟨(v + h) / p + (-v) / p, by rw [Int.mul_add]; omega⟩
        omega
      · rw [if_neg hc]
        refine fin _ ?_
        have := key (-(-v % p) + p + h) ((v + h) % p) (by omega) (by omega) hm3.1 hm3.2 ⟨(v + h) / p + (-v) / p + 1, by rw [Int.mul_add, Int.mul_add]; omega⟩
        omega
theorem rnarrow_at (v size : Int) (k : Nat) (hk : 65 ≤ k) : stoaref01_Narrow.f k v size = some (narrowR v size) := by
  unfold stoaref01_Narrow.f narrowR
  by_cases h1 : size = 1
  · subst h1
    rw [if_pos rfl, if_pos rfl]
    exact rnarrow_j0 v 1 256 128 (by decide) (by decide) (by decide) (by decide) (by decide) 8 (by decide) (by unfold wrap64; omega) (by decide) k hk
  rw [if_neg h1, if_neg h1]
  by_cases h2 : size = 2
  · subst h2
    rw [if_pos rfl, if_pos rfl]
    exact rnarrow_j0 v 2 65536 32768 (by decide) (by decide) (by decide) (by decide) (by decide) 16 (by decide) (by unfold wrap64; omega) (by decide) k hk
  rw [if_neg h2, if_neg h2]
  by_cases h4 : size = 4
  · subst h4
    rw [if_pos rfl, if_pos rfl]
    exact rnarrow_j0 v 4 4294967296 2147483648 (by decide) (by decide) (by decide) (by decide) (by decide) 32 (by decide) (by unfold wrap64; omega) (by decide) k hk
  rw [if_neg h4, if_neg h4]
  obtain ⟨k, rfl⟩ : ∃ m, k = m + 1 := ⟨k - 1, by omega⟩
  simp only [stoaref01_Narrow.j0]
  by_cases h8 : size = 8
  · subst h8; simp
  · rw [if_pos (by simpa using h8), if_neg h8]

theorem BitsFolds : stoalaw01_BitsFolds.Pure := by
  intro v w u size hv hw hu hs
  have hv := i64Wf hv
  have hw := i64Wf hw
  have hu := u64Wf hu
  obtain ⟨K1, h1⟩ := alive_ev
  obtain ⟨k, hk⟩ : ∃ k, k = K1 + 200 := ⟨_, rfl⟩
  refine ⟨k + 2, ?_⟩
  have f1 : 0 ≤ foldI v ∧ foldI v < 18446744073709551616 := by unfold foldI; split <;> omega
  have f2 : unfoldI (foldI v) = v := by unfold foldI unfoldI; split <;> split <;> omega
  have f3 : -9223372036854775808 ≤ unfoldI u ∧ unfoldI u < 9223372036854775808 := by unfold unfoldI; split <;> omega
  have f4 : foldI (unfoldI u) = u := by unfold foldI unfoldI; split <;> split <;> omega
  unfold stoalaw01_BitsFolds.f
  rw [h1 _ (by omega), Option.bind_some, if_pos rfl, fold_at hv.1 hv.2, Option.bind_some, unfold_at f1.1 f1.2, Option.bind_some, if_pos f2, unfold_at hu.1 hu.2, Option.bind_some, fold_at f3.1 f3.2, Option.bind_some, if_pos f4,
    flip_at hv.1 hv.2, Option.bind_some, unflip_at (by omega) (by omega), Option.bind_some, if_pos (by omega), unflip_at hu.1 hu.2, Option.bind_some, flip_at (by omega) (by omega), Option.bind_some,
    show (u - 9223372036854775808 + 9223372036854775808 != u) = false by simp]
  simp only [stoalaw01_BitsFolds.j0]
  rw [if_neg (by decide), flip_at hv.1 hv.2, Option.bind_some, flip_at hw.1 hw.2, Option.bind_some, if_neg (by
      have : (v + 9223372036854775808 < w + 9223372036854775808) = (v < w) := by apply propext; omega
      simp [this]), fold_at hv.1 hv.2, Option.bind_some, Option.bind_some]
  have e1 : IntKind.u64.wrap (Int.tdiv (v + 9223372036854775808) 9223372036854775808) = if 0 ≤ v then 1 else 0 := by
    rw [Int.tdiv_eq_ediv_of_nonneg (by omega), u64r]; split <;> omega
  have e2 : Int.tmod (foldI v) 2 = if 0 ≤ v then 0 else 1 := by
    rw [Int.tmod_eq_emod_of_nonneg f1.1]; unfold foldI; split <;> omega
  have e3 : (Int.tmod (foldI v) 2 != Go.bits .xor .u64 (IntKind.u64.wrap (Int.tdiv (v + 9223372036854775808) 9223372036854775808)) 1) = false := by
    rw [e1, e2]; split <;> decide +kernel
  rw [e3]
  simp only [stoalaw01_BitsFolds.j1]
  rw [if_neg (by decide), narrow_at, Option.bind_some, rnarrow_at _ _ _ (by omega), Option.bind_some, if_pos rfl]
  simp

end Go.Proofs.Ytickchfdikgniaa.Pure
