/- For all numbers that hold together at most 1048576 values: vint.Put, Size and PutList answer as the document's, the numbers are as they were, and the bytes are new memory. Condition: the bulk at most 1048576 (UptoSaid). -/
import Derived.Test.YtlfjelfafcaepaaUpVintPuts
import Derived.Laws.BitsLemmas
set_option linter.unusedVariables false
set_option linter.unusedSimpArgs false
set_option maxRecDepth 20000
namespace Go.Proofs.Ytlfjelfafcaepaa.Pure
open Go.RowKit Go.Proofs.Ytlfjelfafcaepaa.PVintPuts Go.Proofs.YtlfjelfafcaepaaW.PrintWords Go.Proofs.YtlfjelfafcaepaaW.PrintLast Go.Proofs.YtlfjelfafcaepaaW.PrintMore

/-! ### base: numbers, lists (no program in sight) -/
theorem w64 {x : Int} (h0 : -9223372036854775808 ≤ x) (h1 : x ≤ 9223372036854775807) : wrap64 x = x := by
  unfold wrap64; omega
theorem u64r (x : Int) : IntKind.u64.wrap x = x % 18446744073709551616 := by
  simp [IntKind.wrap, IntKind.bits, IntKind.signed]
theorem u32r (x : Int) : IntKind.u32.wrap x = x % 4294967296 := by
  simp [IntKind.wrap, IntKind.bits, IntKind.signed]
theorem u64w {x : Int} (h0 : 0 ≤ x) (h1 : x < 18446744073709551616) : IntKind.u64.wrap x = x := by
  rw [u64r]; omega
theorem wsucc {i : Nat} (h : i < 9223372036854775807) : wrap64 ((i : Int) + 1) = ((i + 1 : Nat) : Int) := by
  unfold wrap64; omega
theorem byteWf {x : Int} (h : (Lit.int .u8 x).wf = true) : 0 ≤ x ∧ x < 256 := by
  simp [Lit.wf, IntKind.min, IntKind.max, IntKind.signed, IntKind.bits] at h
  omega
theorem u64Wf {x : Int} (h : (Lit.int .u64 x).wf = true) : 0 ≤ x ∧ x < 18446744073709551616 := by
  simp [Lit.wf, IntKind.min, IntKind.max, IntKind.signed, IntKind.bits] at h
  omega
theorem i64Wf {x : Int} (h : (Lit.int .i64 x).wf = true) : -9223372036854775808 ≤ x ∧ x < 9223372036854775808 := by
  simp [Lit.wf, IntKind.min, IntKind.max, IntKind.signed, IntKind.bits] at h
  omega
def Bytes (l : List Int) : Prop := ∀ x ∈ l, 0 ≤ x ∧ x < 256
def U64s (l : List Int) : Prop := ∀ x ∈ l, 0 ≤ x ∧ x < 18446744073709551616
theorem bytesWf {l : List Int} (h : ∀ x ∈ l, (Lit.int .u8 x).wf = true) : Bytes l := fun x hx => byteWf (h x hx)
theorem u64sWf {l : List Int} (h : ∀ x ∈ l, (Lit.int .u64 x).wf = true) : U64s l := fun x hx => u64Wf (h x hx)
theorem Bytes.app {a b : List Int} (ha : Bytes a) (hb : Bytes b) : Bytes (a ++ b) := fun x hx => (List.mem_append.1 hx).elim (ha x) (hb x)
theorem Bytes.left {a b : List Int} (h : Bytes (a ++ b)) : Bytes a := fun x hx => h x (List.mem_append_left _ hx)
theorem Bytes.right {a b : List Int} (h : Bytes (a ++ b)) : Bytes b := fun x hx => h x (List.mem_append_right _ hx)
theorem Bytes.drop {a : List Int} (h : Bytes a) (n : Nat) : Bytes (a.drop n) := fun x hx => h x (List.mem_of_mem_drop hx)
theorem Bytes.take {a : List Int} (h : Bytes a) (n : Nat) : Bytes (a.take n) := fun x hx => h x (List.mem_of_mem_take hx)
theorem U64s.drop {a : List Int} (h : U64s a) (n : Nat) : U64s (a.drop n) := fun x hx => h x (List.mem_of_mem_drop hx)
theorem U64s.take {a : List Int} (h : U64s a) (n : Nat) : U64s (a.take n) := fun x hx => h x (List.mem_of_mem_take hx)
theorem rd_nat {l : List Int} {i : Nat} (h : i < l.length) : rd l (i : Int) = l[i] := by
  simp [rd, List.getD_eq_getElem?_getD, h]
theorem rd_int {l : List Int} {i : Int} (h0 : 0 ≤ i) (h : i.toNat < l.length) : rd l i = l[i.toNat] := by
  simp [rd, List.getD_eq_getElem?_getD, h]
theorem drop_cons {l : List Int} {i : Nat} (h : i < l.length) : l.drop i = l[i] :: l.drop (i + 1) := List.drop_eq_getElem_cons h
theorem take_succ_snoc {l : List Int} {i : Nat} (h : i < l.length) : l.take (i + 1) = l.take i ++ [l[i]] := by rw [List.take_add_one, List.getElem?_eq_getElem h]; rfl
theorem pow_pos' (n : Nat) : (0 : Int) < 128 ^ n := Int.pow_pos (by decide)
theorem pow128 (n : Nat) : (128 : Int) ^ n = 2 ^ (7 * n) := by rw [Int.pow_mul]; rfl
theorem ipow_le {b : Int} (hb : 1 ≤ b) {m n : Nat} (h : m ≤ n) : b ^ m ≤ b ^ n := by
  obtain ⟨a, rfl⟩ := Int.eq_ofNat_of_zero_le (show 0 ≤ b by omega)
  exact_mod_cast Nat.pow_le_pow_right (by omega) h

theorem copyn_l0 (a : List Int) (hl : a.length ≤ 17592186044416) (d : Nat) : ∀ (k i : Nat), i + d = a.length → d < k →
    stoaref01_CopyNumbers.l0 k a (a.take i) i = some a := by
  induction d with
  | zero =>
    intro k i hi hk
    obtain ⟨k, rfl⟩ : ∃ m, k = m + 1 := ⟨k - 1, by omega⟩
    simp only [stoaref01_CopyNumbers.l0]
    rw [if_neg (by omega), List.take_of_length_le (by omega)]
  | succ d ih =>
    intro k i hi hk
    obtain ⟨k, rfl⟩ : ∃ m, k = m + 1 := ⟨k - 1, by omega⟩
    have h1 : i < a.length := by omega
    simp only [stoaref01_CopyNumbers.l0]
    rw [if_pos (by omega), if_pos (by omega), if_pos (by rw [List.length_take]; omega), rd_nat h1, wsucc (by omega), ← take_succ_snoc h1]
    exact ih k (i + 1) (by omega) (by omega)
theorem copyn_ev (a : List Int) (hl : a.length ≤ 17592186044416) : ∃ K, ∀ k, K ≤ k → stoaref01_CopyNumbers.f k a = some a := by
  refine ⟨a.length + 1, fun k hk => ?_⟩
  have := copyn_l0 a hl a.length k 0 (by omega) (by omega)
  simpa [stoaref01_CopyNumbers.f] using this

theorem samen_l0 (a b : List Int) (hab : a.length = b.length) (hl : a.length ≤ 17592186044416) (d : Nat) : ∀ (k i : Nat), i + d = a.length → d < k →
    stoaref01_SameNumbers.l0 k a b i = some (decide (a.drop i = b.drop i)) := by
  induction d with
  | zero =>
    intro k i hi hk
    obtain ⟨k, rfl⟩ : ∃ m, k = m + 1 := ⟨k - 1, by omega⟩
    simp only [stoaref01_SameNumbers.l0]
    rw [if_neg (by omega), List.drop_eq_nil_of_le (by omega), List.drop_eq_nil_of_le (by omega)]; simp
  | succ d ih =>
    intro k i hi hk
    obtain ⟨k, rfl⟩ : ∃ m, k = m + 1 := ⟨k - 1, by omega⟩
    have h1 : i < a.length := by omega
    have h2 : i < b.length := by omega
    simp only [stoaref01_SameNumbers.l0]
    rw [if_pos (by omega), if_pos (by omega), if_pos (by omega), rd_nat h1, rd_nat h2, wsucc (by omega), show a.drop i = a[i] :: a.drop (i + 1) from drop_cons h1, show b.drop i = b[i] :: b.drop (i + 1) from drop_cons h2]
    by_cases e : a[i] = b[i]
    · rw [if_pos e, ih k (i + 1) (by omega) (by omega)]; simp only [e, List.cons.injEq, true_and]
    · rw [if_neg e]; simp only [e, List.cons.injEq, false_and, decide_false]
theorem samen_at (a b : List Int) (hl : a.length ≤ 17592186044416) (k : Nat) (hk : a.length + 1 ≤ k) : stoaref01_SameNumbers.f k a b = some (decide (a = b)) := by
  simp only [stoaref01_SameNumbers.f]
  by_cases h : a.length = b.length
  · rw [if_pos (by omega)]
    have := samen_l0 a b h hl a.length k 0 (by omega) (by omega)
    simpa using this
  · rw [if_neg (by omega)]
    have : a ≠ b := fun e => h (by rw [e])
    simp [this]
theorem samen_ev (a b : List Int) (hl : a.length ≤ 17592186044416) : ∃ K, ∀ k, K ≤ k → stoaref01_SameNumbers.f k a b = some (decide (a = b)) :=
  ⟨_, fun k hk => samen_at a b hl k hk⟩

theorem same_l0 (a b : List Int) (hab : a.length = b.length) (hl : a.length ≤ 140737488355328) (d : Nat) : ∀ (k i : Nat), i + d = a.length → d < k →
    stoaref01_Same.l0 k a b i = some (decide (a.drop i = b.drop i)) := by
  induction d with
  | zero =>
    intro k i hi hk
    obtain ⟨k, rfl⟩ : ∃ m, k = m + 1 := ⟨k - 1, by omega⟩
    simp only [stoaref01_Same.l0]
    rw [if_neg (by omega), List.drop_eq_nil_of_le (by omega), List.drop_eq_nil_of_le (by omega)]; simp
  | succ d ih =>
    intro k i hi hk
    obtain ⟨k, rfl⟩ : ∃ m, k = m + 1 := ⟨k - 1, by omega⟩
    have h1 : i < a.length := by omega
    have h2 : i < b.length := by omega
    simp only [stoaref01_Same.l0]
    rw [if_pos (by omega), if_pos (by omega), if_pos (by omega), rd_nat h1, rd_nat h2, wsucc (by omega), show a.drop i = a[i] :: a.drop (i + 1) from drop_cons h1, show b.drop i = b[i] :: b.drop (i + 1) from drop_cons h2]
    by_cases e : a[i] = b[i]
    · rw [if_pos e, ih k (i + 1) (by omega) (by omega)]; simp only [e, List.cons.injEq, true_and]
    · rw [if_neg e]; simp only [e, List.cons.injEq, false_and, decide_false]
theorem same_at (a b : List Int) (hl : a.length ≤ 140737488355328) (k : Nat) (hk : a.length + 1 ≤ k) : stoaref01_Same.f k a b = some (decide (a = b)) := by
  simp only [stoaref01_Same.f]
  by_cases h : a.length = b.length
  · rw [if_pos (by omega)]
    have := same_l0 a b h hl a.length k 0 (by omega) (by omega)
    simpa using this
  · rw [if_neg (by omega)]
    have : a ≠ b := fun e => h (by rw [e])
    simp [this]
theorem same_ev (a b : List Int) (hl : a.length ≤ 140737488355328) : ∃ K, ∀ k, K ≤ k → stoaref01_Same.f k a b = some (decide (a = b)) :=
  ⟨_, fun k hk => same_at a b hl k hk⟩

def turn90 (c : Int) : Int := Go.bits .xor .u8 c 90
theorem spoil_l0 (a : List Int) (hl : a.length ≤ 140737488355328) (d : Nat) : ∀ (k i : Nat), i + d = a.length → d < k →
    stoaref01_Spoil.l0 k ((a.take i).map turn90 ++ a.drop i) i = some (a.map turn90) := by
  induction d with
  | zero =>
    intro k i hi hk
    obtain ⟨k, rfl⟩ : ∃ m, k = m + 1 := ⟨k - 1, by omega⟩
    simp only [stoaref01_Spoil.l0]
    rw [if_neg (by rw [List.length_append, List.length_map, List.length_take, List.length_drop]; omega), List.take_of_length_le (by omega), List.drop_eq_nil_of_le (by omega), List.append_nil]
  | succ d ih =>
    intro k i hi hk
    obtain ⟨k, rfl⟩ : ∃ m, k = m + 1 := ⟨k - 1, by omega⟩
    have h1 : i < a.length := by omega
    have hlen : ((a.take i).map turn90 ++ a.drop i).length = a.length := by rw [List.length_append, List.length_map, List.length_take, List.length_drop]; omega
    have hti : ((a.take i).map turn90).length = i := by rw [List.length_map, List.length_take]; omega
    have hrd : rd ((a.take i).map turn90 ++ a.drop i) (i : Int) = a[i] := by
      rw [rd_nat (by omega), List.getElem_append_right (by omega)]
      simp only [hti, Nat.sub_self, List.getElem_drop, Nat.add_zero]
    have hset : ((a.take i).map turn90 ++ a.drop i).set i (turn90 a[i]) = (a.take (i + 1)).map turn90 ++ a.drop (i + 1) := by
      rw [List.set_append_right _ _ (by omega), hti, Nat.sub_self, show a.drop i = a[i] :: a.drop (i + 1) from drop_cons h1, List.set_cons_zero, take_succ_snoc h1, List.map_append, List.append_assoc]; rfl
    simp only [stoaref01_Spoil.l0]
    rw [if_pos (by omega), if_pos (by omega), hrd, Int.toNat_natCast, wsucc (by omega), show Go.bits .xor .u8 a[i] 90 = turn90 a[i] from rfl, hset]
    exact ih k (i + 1) (by omega) (by omega)
theorem spoil_at (a : List Int) (hl : a.length ≤ 140737488355328) (k : Nat) (hk : a.length + 1 ≤ k) : stoaref01_Spoil.f k a = some (a.map turn90) := by
  have := spoil_l0 a hl a.length k 0 (by omega) (by omega)
  simpa [stoaref01_Spoil.f] using this
theorem turned_l0 (a : List Int) (hl : a.length ≤ 140737488355328) (d : Nat) : ∀ (k i : Nat), i + d = a.length → d < k → stoaref01_Turned.l0 k (a.map turn90) a i = some true := by
  induction d with
  | zero =>
    intro k i hi hk
    obtain ⟨k, rfl⟩ : ∃ m, k = m + 1 := ⟨k - 1, by omega⟩
    simp only [stoaref01_Turned.l0]
    rw [if_neg (by omega)]
  | succ d ih =>
    intro k i hi hk
    obtain ⟨k, rfl⟩ : ∃ m, k = m + 1 := ⟨k - 1, by omega⟩
    have h1 : i < a.length := by omega
    have h2 : i < (a.map turn90).length := by rw [List.length_map]; omega
    simp only [stoaref01_Turned.l0]
    rw [if_pos (by omega), if_pos (by omega), if_pos (by omega), rd_nat h2, rd_nat h1, List.getElem_map, if_pos (show turn90 a[i] = Go.bits .xor .u8 a[i] 90 from rfl), wsucc (by omega)]
    exact ih k (i + 1) (by omega) (by omega)
theorem turned_at (a : List Int) (hl : a.length ≤ 140737488355328) (k : Nat) (hk : a.length + 1 ≤ k) : stoaref01_Turned.f k (a.map turn90) a = some true := by
  have := turned_l0 a hl a.length k 0 (by omega) (by omega)
  unfold stoaref01_Turned.f
  rw [List.length_map, if_pos rfl]; exact this
theorem apart_at (a : List Int) (hl : a.length < 140737488355200) (k : Nat) (hk : a.length + 3 ≤ k) : stoaref01_Apart.f k a a a = some (true, a.map turn90) := by
  obtain ⟨k, rfl⟩ : ∃ m, k = m + 1 := ⟨k - 1, by omega⟩
  unfold stoaref01_Apart.f
  rw [if_pos hl, same_at a a (by omega) _ (by omega), Option.bind_some, decide_eq_true rfl, if_pos rfl, Option.bind_some, Bool.not_true]
  simp only [stoaref01_Apart.j0]
  rw [if_neg (by decide), spoil_at a (by omega) k (by omega), Option.bind_some, w64 (by omega) (by omega), if_pos (by omega), turned_at a (by omega) k (by omega), Option.bind_some, if_pos rfl, same_at a a (by omega) k (by omega), Option.bind_some, decide_eq_true rfl]

theorem alive_ev : ∃ K, ∀ k, K ≤ k → stoalaw02_alive.f k = some true := by
  have h : stoalaw02_alive.f 40 = some true := by decide +kernel
  exact Ev.of (fun k => stoalaw02_alive.mono k) h

/-! ### m_bits: or, and, shifts as arithmetic -/
theorem wraps_u64 (n : Int) (h0 : 0 ≤ n) (h1 : n < 2 ^ 64) : IntKind.u64.wrap n = n := by
  rw [u64r]; omega
theorem and127 {x : Int} (h0 : 0 ≤ x) (h1 : x < 256) : Go.bits .and .u8 x 127 = x % 128 := Go.bits_mask .u8 8 (by decide) Go.wraps_u8 7 (by decide) x h0 h1
/-- A number below 2^j, and one whose lowest j bits are 0: 'or' adds. -/
theorem or_low {j : Nat} {x y : Int} (hx0 : 0 ≤ x) (hx : x < 2 ^ j) (hy0 : 0 ≤ y) (hb : x + y * 2 ^ j < 2 ^ 64) :
    Go.bits .or .u64 x (y * 2 ^ j) = x + y * 2 ^ j := by
  have hp : (0 : Int) < 2 ^ j := Int.pow_pos (by decide)
  obtain ⟨a, rfl⟩ := Int.eq_ofNat_of_zero_le hx0
  obtain ⟨b, rfl⟩ := Int.eq_ofNat_of_zero_le hy0
  have ha : a < 2 ^ j := by exact_mod_cast hx
  have hab : a + b * 2 ^ j < 2 ^ 64 := by exact_mod_cast hb
  have e : ((b : Int) * 2 ^ j) = ((2 ^ j * b : Nat) : Int) := by rw [Nat.mul_comm]; simp
  have hc : a + 2 ^ j * b < 2 ^ 64 := by rw [Nat.mul_comm]; exact hab
  rw [e, (Go.bits_nat .u64 64 (by decide) wraps_u64 a (2 ^ j * b) (by omega) (by omega)).2, Nat.or_comm, ← Nat.two_pow_add_eq_or_of_lt ha b]
  omega
theorem shl64 {x y : Int} (hx : 0 ≤ x) {n : Nat} (hy : y = n) (hn : n ≤ 64) (hb : x * 2 ^ n < 2 ^ 64) : shl .u64 x y = x * 2 ^ n := by
  subst hy
  have : (0 : Int) ≤ x * 2 ^ n := Int.mul_nonneg hx (Int.le_of_lt (Int.pow_pos (by decide)))
  have e : min n IntKind.u64.bits = n := by simp only [IntKind.bits]; omega
  unfold shl
  rw [Int.toNat_natCast, e, wraps_u64 _ this hb]

/-! ### m_vint: numbers in as few bytes as they need, by definition -/
def putL (u : Nat) : List Int := if u < 128 then [(u : Int)] else ((u % 128 + 128 : Nat) : Int) :: putL (u / 128)
theorem putL_small {u : Nat} (h : u < 128) : putL u = [(u : Int)] := by rw [putL, if_pos h]
theorem putL_big {u : Nat} (h : ¬ u < 128) : putL u = ((u % 128 + 128 : Nat) : Int) :: putL (u / 128) := by rw [putL, if_neg h]
def getL : List Int → Nat → Except Int (Int × Nat)
  | [], _ => .error 2
  | c :: r, i => if i = 9 ∧ c > 1 then .error 20 else if c ≥ 128 then (match getL r (i + 1) with | .ok (v, n) => .ok (c - 128 + 128 * v, n + 1) | .error e => .error e)
    else if c = 0 ∧ i > 0 then .error 5 else .ok (c, 1)
theorem putL_bytes (n : Nat) : ∀ u, u < n → Bytes (putL u) := by
  induction n with
  | zero => intro u h; omega
  | succ n ih =>
    intro u h
    by_cases hu : u < 128
    · rw [putL_small hu]; intro x hx; simp only [List.mem_singleton] at hx; omega
    · rw [putL_big hu]; intro x hx
      rcases List.mem_cons.1 hx with rfl | hx
      · omega
      · exact ih (u / 128) (by omega) x hx
theorem putL_pos (u : Nat) : 1 ≤ (putL u).length := by
  by_cases hu : u < 128
  · rw [putL_small hu]; simp
  · rw [putL_big hu]; simp
/-- How long the bytes are: bounds on the number. -/
theorem putL_len (n : Nat) : ∀ u, u < n → u < 2 ^ (7 * (putL u).length) ∧ (2 ≤ (putL u).length → 2 ^ (7 * ((putL u).length - 1)) ≤ u) := by
  induction n with
  | zero => intro u h; omega
  | succ n ih =>
    intro u h
    by_cases hu : u < 128
    · rw [putL_small hu]; simp; omega
    · rw [putL_big hu]
      obtain ⟨h1, h2⟩ := ih (u / 128) (by omega)
      have hp := putL_pos (u / 128)
      simp only [List.length_cons, Nat.add_sub_cancel]
      have e : 2 ^ (7 * ((putL (u / 128)).length + 1)) = 2 ^ (7 * (putL (u / 128)).length) * 128 := by rw [Nat.mul_add, Nat.pow_add]
      refine ⟨by rw [e]; omega, fun _ => ?_⟩
      by_cases hl : 2 ≤ (putL (u / 128)).length
      · have h3 := h2 hl
        have e2 : 2 ^ (7 * (putL (u / 128)).length) = 2 ^ (7 * ((putL (u / 128)).length - 1)) * 128 := by
          rw [show 7 * (putL (u / 128)).length = 7 * ((putL (u / 128)).length - 1) + 7 by omega, Nat.pow_add]
        rw [e2]; omega
      · rw [show (putL (u / 128)).length = 1 by omega]; omega
theorem putL_len_le {u j : Nat} (hj : 1 ≤ j) (h : u < 2 ^ (7 * j)) : (putL u).length ≤ j := by
  obtain ⟨_, h2⟩ := putL_len (u + 1) u (by omega)
  refine Decidable.byContradiction fun hc => ?_
  have h3 := h2 (by omega)
  have : 2 ^ (7 * j) ≤ 2 ^ (7 * ((putL u).length - 1)) := Nat.pow_le_pow_right (by decide) (by omega)
  omega
theorem putL_len10 {u : Nat} (h : u < 18446744073709551616) : (putL u).length ≤ 10 :=
  putL_len_le (by decide) (Nat.lt_trans h (by decide))
theorem putL_mono {u v : Nat} (h : u ≤ v) : (putL u).length ≤ (putL v).length := by
  obtain ⟨h1, _⟩ := putL_len (v + 1) v (by omega)
  exact putL_len_le (putL_pos v) (by omega)
/-- What is got: its bounds. -/
theorem getL_ok : ∀ (b : List Int) (i : Nat) (v : Int) (n : Nat), Bytes b → i ≤ 9 → getL b i = .ok (v, n) →
    0 ≤ v ∧ v < 2 ^ (64 - 7 * i) ∧ 1 ≤ n ∧ n ≤ b.length ∧ n + i ≤ 10 := by
  intro b
  induction b with
  | nil => intro i v n _ _ h; simp [getL] at h
  | cons c r ih =>
    intro i v n hb hi h
    have hc := hb c (List.mem_cons_self)
    have hr : Bytes r := fun x hx => hb x (List.mem_cons_of_mem _ hx)
    rw [getL] at h
    by_cases h9 : i = 9 ∧ c > 1
    · rw [if_pos h9] at h; simp at h
    rw [if_neg h9] at h
    by_cases h128 : c ≥ 128
    · rw [if_pos h128] at h
      have hi8 : i + 1 ≤ 9 := by omega
      cases hg : getL r (i + 1) with
      | error e => rw [hg] at h; simp at h
      | ok p =>
        obtain ⟨v', n'⟩ := p
        rw [hg] at h
        simp only [Except.ok.injEq, Prod.mk.injEq] at h
        obtain ⟨rfl, rfl⟩ := h
        obtain ⟨g1, g2, g3, g4, g5⟩ := ih (i + 1) v' n' hr hi8 hg
        have e : (2 : Int) ^ (64 - 7 * i) = 2 ^ (64 - 7 * (i + 1)) * 128 := by
          rw [show 64 - 7 * i = 64 - 7 * (i + 1) + 7 by omega, Int.pow_add]; rfl
        refine ⟨by omega, by rw [e]; omega, by omega, by simp only [List.length_cons]; omega, by omega⟩
    · rw [if_neg h128] at h
      by_cases h0 : c = 0 ∧ i > 0
      · rw [if_pos h0] at h; simp at h
      rw [if_neg h0] at h
      simp only [Except.ok.injEq, Prod.mk.injEq] at h
      obtain ⟨rfl, rfl⟩ := h
      refine ⟨by omega, ?_, by omega, by simp, by omega⟩
      by_cases hi9 : i = 9
      · subst hi9; have : ¬ c > 1 := fun h => h9 ⟨rfl, h⟩; simp; omega
      · have : (2 : Int) ^ 8 ≤ 2 ^ (64 - 7 * i) := ipow_le (by decide) (by omega)
        omega
/-- What was put is got again. -/
theorem getL_putL (n : Nat) : ∀ (u i : Nat) (rest : List Int), u < n → i ≤ 9 → u < 2 ^ (64 - 7 * i) → (i > 0 → u > 0) → getL (putL u ++ rest) i = .ok ((u : Int), (putL u).length) := by
  induction n with
  | zero => intro u i rest h; omega
  | succ n ih =>
    intro u i rest h hi hu hp
    by_cases hs : u < 128
    · rw [putL_small hs]
      simp only [List.singleton_append, getL, List.length_singleton]
      rw [if_neg, if_neg (by omega), if_neg (by omega)]
      rintro ⟨rfl, h1⟩
      simp at hu; omega
    · rw [putL_big hs]
      simp only [List.cons_append, getL, List.length_cons]
      have hi8 : i + 1 ≤ 9 := by
        refine Decidable.byContradiction fun hc => ?_
        have : i = 9 := by omega
        subst this; simp at hu; omega
      have e : (2 : Nat) ^ (64 - 7 * i) = 2 ^ (64 - 7 * (i + 1)) * 128 := by
        rw [show 64 - 7 * i = 64 - 7 * (i + 1) + 7 by omega, Nat.pow_add]
      rw [if_neg (by omega), if_pos (by omega), ih (u / 128) (i + 1) rest (by omega) hi8 (by omega) (by omega)]
      simp only [Except.ok.injEq, Prod.mk.injEq, and_true]
      omega
/-- A piece of what was put isn't enough. -/
theorem getL_short (n : Nat) : ∀ (u i m : Nat), u < n → i ≤ 9 → u < 2 ^ (64 - 7 * i) → m < (putL u).length → getL ((putL u).take m) i = .error 2 := by
  induction n with
  | zero => intro u i m h; omega
  | succ n ih =>
    intro u i m h hi hu hm
    cases m with
    | zero => simp [getL]
    | succ m =>
      by_cases hs : u < 128
      · rw [putL_small hs] at hm; simp at hm
      · rw [putL_big hs] at hm ⊢
        simp only [List.length_cons] at hm
        simp only [List.take_succ_cons, getL]
        have hi8 : i + 1 ≤ 9 := by
          refine Decidable.byContradiction fun hc => ?_
          have : i = 9 := by omega
          subst this; simp at hu; omega
        have e : (2 : Nat) ^ (64 - 7 * i) = 2 ^ (64 - 7 * (i + 1)) * 128 := by
          rw [show 64 - 7 * i = 64 - 7 * (i + 1) + 7 by omega, Nat.pow_add]
        rw [if_neg (by omega), if_pos (by omega), ih (u / 128) (i + 1) m (by omega) hi8 (by omega) (by omega)]
/-- Bytes that are got are the only ones. -/
theorem getL_only : ∀ (b : List Int) (i : Nat) (v : Int) (n : Nat), Bytes b → i ≤ 9 → getL b i = .ok (v, n) → putL v.toNat = b.take n ∧ (i > 0 → 0 < v) := by
  intro b
  induction b with
  | nil => intro i v n _ _ h; simp [getL] at h
  | cons c r ih =>
    intro i v n hb hi h
    have hc := hb c (List.mem_cons_self)
    have hr : Bytes r := fun x hx => hb x (List.mem_cons_of_mem _ hx)
    rw [getL] at h
    by_cases h9 : i = 9 ∧ c > 1
    · rw [if_pos h9] at h; simp at h
    rw [if_neg h9] at h
    by_cases h128 : c ≥ 128
    · rw [if_pos h128] at h
      have hi8 : i + 1 ≤ 9 := by omega
      cases hg : getL r (i + 1) with
      | error e => rw [hg] at h; simp at h
      | ok p =>
        obtain ⟨v', n'⟩ := p
        rw [hg] at h
        simp only [Except.ok.injEq, Prod.mk.injEq] at h
        obtain ⟨rfl, rfl⟩ := h
        obtain ⟨g1, g2⟩ := ih (i + 1) v' n' hr hi8 hg
        obtain ⟨q1, _⟩ := getL_ok r (i + 1) v' n' hr hi8 hg
        have g3 := g2 (by omega)
        refine ⟨?_, fun _ => by omega⟩
        rw [putL_big (by omega), show (c - 128 + 128 * v').toNat / 128 = v'.toNat by omega, g1, List.take_succ_cons]
        congr 1; omega
    · rw [if_neg h128] at h
      by_cases h0 : c = 0 ∧ i > 0
      · rw [if_pos h0] at h; simp at h
      rw [if_neg h0] at h
      simp only [Except.ok.injEq, Prod.mk.injEq] at h
      obtain ⟨rfl, rfl⟩ := h
      refine ⟨?_, by omega⟩
      rw [putL_small (by omega)]; simp; omega
/-- The answer of Get. -/
def getR (b : List Int) (at_ : Int) : Int × Int × Int :=
  if at_ < 0 ∨ at_ > b.length then (0, 0, 1) else match getL (b.drop at_.toNat) 0 with
    | .ok (v, n) => (v, at_ + n, 0)
    | .error e => (0, 0, e)
theorem getL_err : ∀ (b : List Int) (i : Nat) (e : Int), getL b i = .error e → e = 2 ∨ e = 20 ∨ e = 5 := by
  intro b
  induction b with
  | nil => intro i e h; simp only [getL, Except.error.injEq] at h; omega
  | cons c r ih =>
    intro i e h
    rw [getL] at h
    split at h
    · simp only [Except.error.injEq] at h; omega
    split at h
    · split at h
      · simp at h
      · rename_i e' hg; simp only [Except.error.injEq] at h; subst h; exact ih _ _ hg
    split at h
    · simp only [Except.error.injEq] at h; omega
    · simp at h
theorem getR_ok {b : List Int} {at_ v nx : Int} (hb : Bytes b) (h : getR b at_ = (v, nx, 0)) :
    0 ≤ at_ ∧ at_ < nx ∧ nx ≤ b.length ∧ nx ≤ at_ + 10 ∧ 0 ≤ v ∧ v < 18446744073709551616 ∧ putL v.toNat = (b.take nx.toNat).drop at_.toNat := by
  unfold getR at h
  split at h
  · simp at h
  rename_i ha
  split at h
  · rename_i v' n hg
    simp only [Prod.mk.injEq, and_true] at h
    obtain ⟨rfl, rfl⟩ := h
    obtain ⟨g1, g2, g3, g4, g5⟩ := getL_ok _ 0 _ _ (hb.drop _) (by decide) hg
    obtain ⟨q1, _⟩ := getL_only _ 0 _ _ (hb.drop _) (by decide) hg
    rw [List.length_drop] at g4
    refine ⟨by omega, by omega, by omega, by omega, g1, by simpa using g2, ?_⟩
    rw [q1, List.drop_take, show (at_ + (n : Int)).toNat - at_.toNat = n by omega]
  · rename_i e hg
    have := getL_err _ _ _ hg
    simp only [Prod.mk.injEq] at h
    omega
theorem getR_bad {b : List Int} {at_ v nx e : Int} (h : getR b at_ = (v, nx, e)) (he : e ≠ 0) : v = 0 ∧ nx = 0 := by
  unfold getR at h
  split at h
  · simp only [Prod.mk.injEq] at h; omega
  split at h
  · simp only [Prod.mk.injEq] at h; omega
  · simp only [Prod.mk.injEq] at h; omega
theorem getR_put (a c : List Int) {u : Nat} (hu : u < 18446744073709551616) : getR (a ++ putL u ++ c) (a.length : Int) = ((u : Int), (a.length : Int) + (putL u).length, 0) := by
  unfold getR
  rw [if_neg (by simp only [List.length_append]; omega), Int.toNat_natCast, List.append_assoc, List.drop_left, getL_putL (u + 1) u 0 c (by omega) (by decide) (by simpa using hu) (by omega)]
theorem getR_bad2 {b : List Int} {at_ : Int} (he : (getR b at_).2.2 ≠ 0) : (getR b at_).1 = 0 ∧ (getR b at_).2.1 = 0 := getR_bad (b := b) (at_ := at_) (v := (getR b at_).1) (nx := (getR b at_).2.1) (e := (getR b at_).2.2) rfl he

/-! ### m_len: the number of bits -/
def blen (n : Nat) : Nat := if n = 0 then 0 else Nat.log2 n + 1
theorem blen_lt (n : Nat) : n < 2 ^ blen n := by
  unfold blen
  split
  · subst_vars; decide
  · exact Nat.lt_log2_self
theorem blen_le {n : Nat} (h : n ≠ 0) : 1 ≤ blen n ∧ 2 ^ (blen n - 1) ≤ n := by
  unfold blen
  rw [if_neg h]
  exact ⟨by omega, by simpa using Nat.log2_self_le h⟩
theorem blen_uniq {n m : Nat} (h0 : n ≠ 0) (h1 : n < 2 ^ m) (h2 : 2 ^ (m - 1) ≤ n) : blen n = m := by
  obtain ⟨g1, g2⟩ := blen_le h0
  have g3 := blen_lt n
  have hm : m ≠ 0 := by rintro rfl; simp at h1; omega
  have a : blen n - 1 < m := (Nat.pow_lt_pow_iff_right (by decide)).1 (Nat.lt_of_le_of_lt g2 h1)
  have b : m - 1 < blen n := (Nat.pow_lt_pow_iff_right (by decide)).1 (Nat.lt_of_le_of_lt h2 g3)
  omega
theorem blen_shift {n k : Nat} (h : n / 2 ^ k ≠ 0) : blen n = blen (n / 2 ^ k) + k := by
  have hp : 0 < 2 ^ k := Nat.two_pow_pos k
  have g1 := blen_lt (n / 2 ^ k)
  obtain ⟨g2, g3⟩ := blen_le h
  refine blen_uniq (fun e => h (by rw [e]; simp)) ?_ ?_
  · rw [Nat.pow_add]; exact (Nat.div_lt_iff_lt_mul hp).1 g1
  · rw [show blen (n / 2 ^ k) + k - 1 = (blen (n / 2 ^ k) - 1) + k by omega, Nat.pow_add]
    exact (Nat.le_div_iff_mul_le hp).1 g3
theorem blen_mono {m n : Nat} (h : m ≤ n) : blen m ≤ blen n := by
  by_cases h0 : m = 0
  · subst h0; simp [blen]
  obtain ⟨_, g2⟩ := blen_le h0
  have g3 := blen_lt n
  have : blen m - 1 < blen n := (Nat.pow_lt_pow_iff_right (by decide)).1 (Nat.lt_of_le_of_lt g2 (Nat.lt_of_le_of_lt h g3))
  omega
theorem blen_le_of_lt {n m : Nat} (h : n < 2 ^ m) : blen n ≤ m := by
  by_cases h0 : n = 0
  · subst h0; simp [blen]
  obtain ⟨g1, g2⟩ := blen_le h0
  have : blen n - 1 < m := (Nat.pow_lt_pow_iff_right (by decide)).1 (Nat.lt_of_le_of_lt g2 h)
  omega

theorem len_tab {x : Int} (h0 : 0 ≤ x) (h1 : x < 256) : bt (⟨#[0, 1, 2, 2, 3, 3, 3, 3, 4, 4, 4, 4, 4, 4, 4, 4, 5, 5, 5, 5, 5, 5, 5, 5, 5, 5, 5, 5, 5, 5, 5, 5, 6, 6, 6, 6, 6, 6, 6, 6, 6, 6, 6, 6, 6, 6, 6, 6, 6, 6, 6, 6, 6, 6, 6, 6, 6, 6, 6, 6, 6, 6, 6, 6, 7, 7, 7, 7, 7, 7, 7, 7, 7, 7, 7, 7, 7, 7, 7, 7, 7, 7, 7, 7, 7, 7, 7, 7, 7, 7, 7, 7, 7, 7, 7, 7, 7, 7, 7, 7, 7, 7, 7, 7, 7, 7, 7, 7, 7, 7, 7, 7, 7, 7, 7, 7, 7, 7, 7, 7, 7, 7, 7, 7, 7, 7, 7, 7, 8, 8, 8, 8, 8, 8, 8, 8, 8, 8, 8, 8, 8, 8, 8, 8, 8, 8, 8, 8, 8, 8, 8, 8, 8, 8, 8, 8, 8, 8, 8, 8, 8, 8, 8, 8, 8, 8, 8, 8, 8, 8, 8, 8, 8, 8, 8, 8, 8, 8, 8, 8, 8, 8, 8, 8, 8, 8, 8, 8, 8, 8, 8, 8, 8, 8, 8, 8, 8, 8, 8, 8, 8, 8, 8, 8, 8, 8, 8, 8, 8, 8, 8, 8, 8, 8, 8, 8, 8, 8, 8, 8, 8, 8, 8, 8, 8, 8, 8, 8, 8, 8, 8, 8, 8, 8, 8, 8, 8, 8, 8, 8, 8, 8, 8, 8, 8, 8, 8, 8, 8, 8, 8, 8, 8, 8, 8, 8]⟩ : ByteArray) x = (blen x.toNat : Int) := by
  have : ∀ n : Fin 256, bt (⟨#[0, 1, 2, 2, 3, 3, 3, 3, 4, 4, 4, 4, 4, 4, 4, 4, 5, 5, 5, 5, 5, 5, 5, 5, 5, 5, 5, 5, 5, 5, 5, 5, 6, 6, 6, 6, 6, 6, 6, 6, 6, 6, 6, 6, 6, 6, 6, 6, 6, 6, 6, 6, 6, 6, 6, 6, 6, 6, 6, 6, 6, 6, 6, 6, 7, 7, 7, 7, 7, 7, 7, 7, 7, 7, 7, 7, 7, 7, 7, 7, 7, 7, 7, 7, 7, 7, 7, 7, 7, 7, 7, 7, 7, 7, 7, 7, 7, 7, 7, 7, 7, 7, 7, 7, 7, 7, 7, 7, 7, 7, 7, 7, 7, 7, 7, 7, 7, 7, 7, 7, 7, 7, 7, 7, 7, 7, 7, 7, 8, 8, 8, 8, 8, 8, 8, 8, 8, 8, 8, 8, 8, 8, 8, 8, 8, 8, 8, 8, 8, 8, 8, 8, 8, 8, 8, 8, 8, 8, 8, 8, 8, 8, 8, 8, 8, 8, 8, 8, 8, 8, 8, 8, 8, 8, 8, 8, 8, 8, 8, 8, 8, 8, 8, 8, 8, 8, 8, 8, 8, 8, 8, 8, 8, 8, 8, 8, 8, 8, 8, 8, 8, 8, 8, 8, 8, 8, 8, 8, 8, 8, 8, 8, 8, 8, 8, 8, 8, 8, 8, 8, 8, 8, 8, 8, 8, 8, 8, 8, 8, 8, 8, 8, 8, 8, 8, 8, 8, 8, 8, 8, 8, 8, 8, 8, 8, 8, 8, 8, 8, 8, 8, 8, 8, 8, 8, 8]⟩ : ByteArray) ((n.val : Nat) : Int) = (blen n.val : Int) := by decide +kernel
  have h := this ⟨x.toNat, by omega⟩
  simp only at h
  rwa [Int.toNat_of_nonneg h0] at h
theorem len64_j0 {x : Int} {z : Int} (h0 : 0 ≤ x) (h1 : x < 4294967296) (hz0 : 0 ≤ z) (hz : z ≤ 64) (k : Nat) (hk : 1 ≤ k) : bits_Len64.j0 k x z = some (z + blen x.toNat) := by
  obtain ⟨k, rfl⟩ : ∃ m, k = m + 1 := ⟨k - 1, by omega⟩
  have hb : ∀ y : Int, y < 256 → 0 ≤ y → (blen y.toNat : Int) ≤ 8 := fun y hy hy0 => by
    have := blen_le_of_lt (n := y.toNat) (m := 8) (by omega)
    omega
  simp only [bits_Len64.j0]
  by_cases c1 : x ≥ 65536
  · rw [if_pos c1]
    have e1 := blen_shift (n := x.toNat) (k := 16) (by simp; omega)
    by_cases c2 : x / 65536 ≥ 256
    · have e2 := blen_shift (n := x.toNat / 2 ^ 16) (k := 8) (by simp; omega)
      have e : x / 65536 / 256 % 256 = x / 65536 / 256 := by omega
      have g := hb (x / 65536 / 256) (by omega) (by omega)
      rw [if_pos c2, e, if_pos (by omega), if_pos (by omega), len_tab (by omega) (by omega), w64 (x := z + 16) (by omega) (by omega), w64 (x := z + 16 + 8) (by omega) (by omega), w64 (x := ((blen _ : Nat) : Int)) (by omega) (by omega), w64 (by omega) (by omega), e1, e2,
        show (x / 65536 / 256).toNat = x.toNat / 2 ^ 16 / 2 ^ 8 by omega]
      congr 1; omega
    · have e : x / 65536 % 256 = x / 65536 := by omega
      have g := hb (x / 65536) (by omega) (by omega)
      rw [if_neg c2, e, if_pos (by omega), if_pos (by omega), len_tab (by omega) (by omega), w64 (x := z + 16) (by omega) (by omega), w64 (x := ((blen _ : Nat) : Int)) (by omega) (by omega), w64 (by omega) (by omega), e1,
        show (x / 65536).toNat = x.toNat / 2 ^ 16 by omega]
      congr 1; omega
  · rw [if_neg c1]
    by_cases c2 : x ≥ 256
    · have e1 := blen_shift (n := x.toNat) (k := 8) (by simp; omega)
      have e : x / 256 % 256 = x / 256 := by omega
      have g := hb (x / 256) (by omega) (by omega)
      rw [if_pos c2, e, if_pos (by omega), if_pos (by omega), len_tab (by omega) (by omega), w64 (x := z + 8) (by omega) (by omega), w64 (x := ((blen _ : Nat) : Int)) (by omega) (by omega), w64 (by omega) (by omega), e1,
        show (x / 256).toNat = x.toNat / 2 ^ 8 by omega]
      congr 1; omega
    · have e : x % 256 = x := by omega
      have g := hb x (by omega) (by omega)
      rw [if_neg c2, e, if_pos (by omega), if_pos (by omega), len_tab (by omega) (by omega), w64 (x := ((blen _ : Nat) : Int)) (by omega) (by omega), w64 (by omega) (by omega)]
theorem len64_at {x : Int} (h0 : 0 ≤ x) (h1 : x < 18446744073709551616) (k : Nat) (hk : 1 ≤ k) : bits_Len64.f k x = some (blen x.toNat : Int) := by
  unfold bits_Len64.f
  by_cases c : x ≥ 4294967296
  · have e := blen_shift (n := x.toNat) (k := 32) (by simp; omega)
    rw [if_pos c, len64_j0 (by omega) (by omega) (by decide) (by decide) k hk, e, show (x / 4294967296).toNat = x.toNat / 2 ^ 32 by omega]
    congr 1; omega
  · rw [if_neg c, len64_j0 (by omega) (by omega) (by decide) (by decide) k hk]
    congr 1; omega

theorem size_at {u : Int} (h0 : 0 ≤ u) (h1 : u < 18446744073709551616) (k : Nat) (hk : 1 ≤ k) : vint_Size.f k u = some ((putL u.toNat).length : Int) := by
  obtain ⟨n, rfl⟩ := Int.eq_ofNat_of_zero_le h0
  have hn : n < 2 ^ 64 := by omega
  have e := (Go.bits_nat .u64 64 (by decide) wraps_u64 n 1 hn (by decide)).2
  have hv : n ||| 1 < 2 ^ 64 := Nat.or_lt_two_pow hn (by decide)
  have hle : n ≤ n ||| 1 := Nat.left_le_or
  have hne : n ||| 1 ≠ 0 := by
    have : 1 ≤ n ||| 1 := Nat.right_le_or
    omega
  simp only [vint_Size.f]
  rw [show (1 : Int) = ((1 : Nat) : Int) from rfl, e, len64_at (by omega) (by omega) k hk]
  simp only [Option.bind_some, Int.toNat_natCast]
  obtain ⟨l1, l2⟩ := putL_len (n + 1) n (by omega)
  have lp := putL_pos n
  obtain ⟨b1, b2⟩ := blen_le hne
  have b3 := blen_lt (n ||| 1)
  have b4 := blen_le_of_lt hv
  have hv2 : n ||| 1 < 2 ^ (7 * (putL n).length) := Nat.or_lt_two_pow l1 (Nat.one_lt_two_pow (by omega))
  have a1 : blen (n ||| 1) - 1 < 7 * (putL n).length := (Nat.pow_lt_pow_iff_right (by decide)).1 (Nat.lt_of_le_of_lt b2 hv2)
  have a2 : 7 * ((putL n).length - 1) < blen (n ||| 1) := by
    by_cases hl : 2 ≤ (putL n).length
    · exact (Nat.pow_lt_pow_iff_right (by decide)).1 (Nat.lt_of_le_of_lt (Nat.le_trans (l2 hl) hle) b3)
    · omega
  rw [w64 (x := ((blen (n ||| 1) : Nat) : Int) + 6) (by omega) (by omega), Int.tdiv_eq_ediv_of_nonneg (by omega), w64 (by omega) (by omega)]
  congr 1; omega

/-! ### m_list: lists of numbers -/
/-- n numbers one behind the other. -/
def getNs (b : List Int) : Nat → Int → Except Int (List Int × Int)
  | 0, at_ => .ok ([], at_)
  | n + 1, at_ => if (getR b at_).2.2 = 0 then (match getNs b n (getR b at_).2.1 with | .ok (us, nx) => .ok ((getR b at_).1 :: us, nx) | .error e => .error e) else .error (getR b at_).2.2
def getLs (b : List Int) (at_ most : Int) : List Int × Int × Int :=
  if (getR b at_).2.2 = 0 then (if (getR b at_).1 > mx most 0 then ([], 0, 4) else match getNs b (getR b at_).1.toNat (getR b at_).2.1 with | .ok (us, nx) => (us, nx, 0) | .error e => ([], 0, e))
  else ([], 0, (getR b at_).2.2)
theorem getR_triple {b : List Int} {at_ : Int} (h : (getR b at_).2.2 = 0) : getR b at_ = ((getR b at_).1, (getR b at_).2.1, 0) := by rw [← h]
theorem flat_len : ∀ us : List Int, U64s us → (us.flatMap fun u => putL u.toNat).length ≤ 10 * us.length
  | [], _ => by simp
  | u :: us, h => by
    have h1 := h u List.mem_cons_self
    have h2 := flat_len us (fun x hx => h x (List.mem_cons_of_mem _ hx))
    have h3 := putL_len10 (u := u.toNat) (by omega)
    simp only [List.flatMap_cons, List.length_append, List.length_cons]
    omega
def putLs (us : List Int) : List Int := putL us.length ++ us.flatMap fun u => putL u.toNat
theorem piece_join {b : List Int} {x y z : Nat} (h1 : x ≤ y) (h2 : y ≤ z) : (b.take y).drop x ++ (b.take z).drop y = (b.take z).drop x := by
  rw [List.drop_take, List.drop_take, List.drop_take]
  rw [show z - x = (y - x) + (z - y) by omega, List.take_add, List.drop_drop, show x + (y - x) = y by omega]
theorem getNs_ok {b : List Int} (hb : Bytes b) : ∀ (n : Nat) (at_ nx : Int) (us : List Int), 0 ≤ at_ → at_ ≤ b.length → getNs b n at_ = .ok (us, nx) →
    us.length = n ∧ at_ + n ≤ nx ∧ nx ≤ b.length ∧ U64s us ∧ (us.flatMap fun u => putL u.toNat) = (b.take nx.toNat).drop at_.toNat := by
  intro n
  induction n with
  | zero =>
    intro at_ nx us h0 h1 h
    simp only [getNs, Except.ok.injEq, Prod.mk.injEq] at h
    obtain ⟨rfl, rfl⟩ := h
    refine ⟨rfl, by omega, h1, by intro x hx; simp at hx, ?_⟩
    rw [List.drop_eq_nil_of_le (by rw [List.length_take]; omega)]; rfl
  | succ n ih =>
    intro at_ nx us h0 h1 h
    simp only [getNs] at h
    by_cases he : (getR b at_).2.2 = 0
    · rw [if_pos he] at h
      obtain ⟨g1, g2, g3, g4, g5, g6, g7⟩ := getR_ok hb (getR_triple he)
      cases hg : getNs b n (getR b at_).2.1 with
      | error e => rw [hg] at h; simp at h
      | ok p =>
        obtain ⟨us', nx'⟩ := p
        rw [hg] at h
        simp only [Except.ok.injEq, Prod.mk.injEq] at h
        obtain ⟨rfl, rfl⟩ := h
        obtain ⟨q1, q2, q3, q4, q5⟩ := ih _ _ _ (by omega) g3 hg
        refine ⟨by simp [q1], by omega, q3, ?_, ?_⟩
        · intro x hx
          rcases List.mem_cons.1 hx with rfl | hx
          · exact ⟨g5, g6⟩
          · exact q4 x hx
        · rw [List.flatMap_cons, g7, q5, piece_join (by omega) (by omega)]
    · rw [if_neg he] at h; simp at h
theorem getNs_err {b : List Int} : ∀ (n : Nat) (at_ : Int) (e : Int), getNs b n at_ = .error e → e ≠ 0 := by
  intro n
  induction n with
  | zero => intro at_ e h; simp [getNs] at h
  | succ n ih =>
    intro at_ e h
    simp only [getNs] at h
    by_cases he : (getR b at_).2.2 = 0
    · rw [if_pos he] at h
      cases hg : getNs b n (getR b at_).2.1 with
      | error e' => rw [hg] at h; simp only [Except.error.injEq] at h; subst h; exact ih _ _ hg
      | ok p => rw [hg] at h; simp at h
    · rw [if_neg he] at h; simp only [Except.error.injEq] at h; subst h; exact he
theorem getLs_ok {b us : List Int} {at_ most nx : Int} (hb : Bytes b) (h : getLs b at_ most = (us, nx, 0)) :
    0 ≤ at_ ∧ at_ < nx ∧ nx ≤ b.length ∧ U64s us ∧ (us.length : Int) ≤ b.length ∧ (us.length : Int) ≤ mx most 0 ∧ putLs us = (b.take nx.toNat).drop at_.toNat := by
  unfold getLs at h
  by_cases he : (getR b at_).2.2 = 0
  · rw [if_pos he] at h
    obtain ⟨g1, g2, g3, g4, g5, g6, g7⟩ := getR_ok hb (getR_triple he)
    by_cases hc : (getR b at_).1 > mx most 0
    · rw [if_pos hc] at h; simp at h
    rw [if_neg hc] at h
    cases hg : getNs b (getR b at_).1.toNat (getR b at_).2.1 with
    | error e => rw [hg] at h; simp only [Prod.mk.injEq] at h; exact absurd h.2.2 (getNs_err _ _ _ hg)
    | ok p =>
      obtain ⟨us', nx'⟩ := p
      rw [hg] at h
      simp only [Prod.mk.injEq, and_true] at h
      obtain ⟨rfl, rfl⟩ := h
      obtain ⟨q1, q2, q3, q4, q5⟩ := getNs_ok hb _ _ _ _ (by omega) g3 hg
      refine ⟨g1, by omega, q3, q4, by omega, by omega, ?_⟩
      unfold putLs
      rw [q5, q1, g7, piece_join (by omega) (by omega)]
  · rw [if_neg he] at h
    simp only [Prod.mk.injEq] at h
    exact absurd h.2.2 he
theorem getLs_bad {b us : List Int} {at_ most nx e : Int} (h : getLs b at_ most = (us, nx, e)) (he : e ≠ 0) : us = [] ∧ nx = 0 := by
  unfold getLs at h
  split at h
  · split at h
    · simp only [Prod.mk.injEq] at h; exact ⟨h.1.symm, h.2.1.symm⟩
    · split at h
      · simp only [Prod.mk.injEq] at h; omega
      · simp only [Prod.mk.injEq] at h; exact ⟨h.1.symm, h.2.1.symm⟩
  · simp only [Prod.mk.injEq] at h; exact ⟨h.1.symm, h.2.1.symm⟩
theorem getLs_bad2 {b : List Int} {at_ most : Int} (he : (getLs b at_ most).2.2 ≠ 0) : (getLs b at_ most).1 = [] ∧ (getLs b at_ most).2.1 = 0 := getLs_bad (b := b) (at_ := at_) (most := most) (us := (getLs b at_ most).1) (nx := (getLs b at_ most).2.1) (e := (getLs b at_ most).2.2) rfl he
theorem getLs_triple {b : List Int} {at_ most : Int} (h : (getLs b at_ most).2.2 = 0) : getLs b at_ most = ((getLs b at_ most).1, (getLs b at_ most).2.1, 0) := by rw [← h]

theorem or128 {x : Int} (h0 : 0 ≤ x) (h1 : x < 256) : Go.bits .or .u8 x 128 = x % 128 + 128 := by
  have : ∀ n : Fin 256, Go.bits .or .u8 ((n.val : Nat) : Int) 128 = ((n.val : Nat) : Int) % 128 + 128 := by decide +kernel
  have h := this ⟨x.toNat, by omega⟩
  simp only at h
  rwa [Int.toNat_of_nonneg h0] at h
theorem put_l0 (n : Nat) : ∀ (u k : Nat) (acc : List Int), u < n → acc.length + (putL u).length ≤ 140737488355328 → (putL u).length ≤ k →
    vint_Put.l0 k (u : Int) acc = some (acc ++ putL u) := by
  induction n with
  | zero => intro u k acc h; omega
  | succ n ih =>
    intro u k acc h hl hk
    have hp := putL_pos u
    obtain ⟨k, rfl⟩ : ∃ m, k = m + 1 := ⟨k - 1, by omega⟩
    simp only [vint_Put.l0]
    by_cases hs : u < 128
    · rw [if_neg (by omega), if_pos (by omega), putL_small hs, show (u : Int) % 256 = u by omega]
    · rw [putL_big hs, List.length_cons] at hl hk
      have hp := putL_pos (u / 128)
      rw [if_pos (by omega), if_pos (by omega), or128 (by omega) (by omega), show (u : Int) / 128 = ((u / 128 : Nat) : Int) by omega,
        ih (u / 128) k _ (by omega) (by rw [List.length_append, List.length_singleton]; omega) (by omega), putL_big hs, List.append_assoc]
      congr 3
      simp only [List.singleton_append, List.cons.injEq, and_true]
      omega
theorem put_at {u : Int} (h0 : 0 ≤ u) (h1 : u < 18446744073709551616) (k : Nat) (hk : 10 ≤ k) : vint_Put.f k u = some (putL u.toNat) := by
  have hl := putL_len10 (u := u.toNat) (by omega)
  have := put_l0 (u.toNat + 1) u.toNat k [] (by omega) (by simp only [List.length_nil]; omega) (by omega)
  rw [Int.toNat_of_nonneg h0] at this
  simpa [vint_Put.f] using this

theorem putlist_l0 (us : List Int) (hu : U64s us) (d : Nat) : ∀ (k i : Nat) (acc : List Int), i + d = us.length → d + 10 < k → acc.length + ((us.drop i).flatMap fun u => putL u.toNat).length < 140737488355328 →
    us.length < 140737488355328 → vint_PutList.l0 k acc us (us.length : Int) i = some (acc ++ (us.drop i).flatMap fun u => putL u.toNat) := by
  induction d with
  | zero =>
    intro k i acc hi hk hl hn
    obtain ⟨k, rfl⟩ : ∃ m, k = m + 1 := ⟨k - 1, by omega⟩
    simp only [vint_PutList.l0]
    rw [if_neg (by omega), List.drop_eq_nil_of_le (by omega)]; simp
  | succ d ih =>
    intro k i acc hi hk hl hn
    obtain ⟨k, rfl⟩ : ∃ m, k = m + 1 := ⟨k - 1, by omega⟩
    have h1 : i < us.length := by omega
    have hc := hu _ (List.getElem_mem h1)
    simp only [vint_PutList.l0]
    rw [drop_cons h1, List.flatMap_cons, List.length_append] at hl
    rw [if_pos (by omega), if_pos (by omega), if_pos (by omega), rd_nat h1, put_at hc.1 hc.2 k (by omega)]
    simp only [Option.bind_some]
    rw [if_pos (by omega), wsucc (by omega), ih k (i + 1) _ (by omega) (by omega) (by rw [List.length_append]; omega) hn, drop_cons h1, List.flatMap_cons, List.append_assoc]
theorem putlist_at (us : List Int) (hu : U64s us) (hl : (putLs us).length < 140737488355328) (hn : us.length < 140737488355328) (k : Nat) (hk : us.length + 11 ≤ k) : vint_PutList.f k us = some (putLs us) := by
  unfold putLs at hl
  rw [List.length_append] at hl
  have hp := putL_len10 (u := us.length) (by omega)
  simp only [vint_PutList.f]
  rw [u64w (by omega) (by omega), put_at (by omega) (by omega) k (by omega)]
  simp only [Option.bind_some]
  rw [Int.toNat_natCast]
  have := putlist_l0 us hu us.length k 0 (putL us.length) (by omega) (by omega) (by simpa using hl) hn
  simpa [putLs] using this

theorem cat_l1 (a b : List Int) (hl : a.length + b.length ≤ 140737488355328) (d : Nat) : ∀ (k i : Nat), i + d = b.length → d < k →
    stoaref01_Cat.l1 k b (a ++ b.take i) i = some (a ++ b) := by
  induction d with
  | zero =>
    intro k i hi hk
    obtain ⟨k, rfl⟩ : ∃ m, k = m + 1 := ⟨k - 1, by omega⟩
    simp only [stoaref01_Cat.l1]
    rw [if_neg (by omega), List.take_of_length_le (by omega)]
  | succ d ih =>
    intro k i hi hk
    obtain ⟨k, rfl⟩ : ∃ m, k = m + 1 := ⟨k - 1, by omega⟩
    have h1 : i < b.length := by omega
    simp only [stoaref01_Cat.l1]
    rw [if_pos (by omega), if_pos (by omega), if_pos (by rw [List.length_append, List.length_take]; omega), rd_nat h1, wsucc (by omega), List.append_assoc, ← take_succ_snoc h1]
    exact ih k (i + 1) (by omega) (by omega)
theorem cat_l0 (a b : List Int) (hl : a.length + b.length ≤ 140737488355328) (d : Nat) : ∀ (k i : Nat), i + d = a.length → d + b.length + 1 < k →
    stoaref01_Cat.l0 k a b (a.take i) i = some (a ++ b) := by
  induction d with
  | zero =>
    intro k i hi hk
    obtain ⟨k, rfl⟩ : ∃ m, k = m + 1 := ⟨k - 1, by omega⟩
    simp only [stoaref01_Cat.l0]
    rw [if_neg (by omega), List.take_of_length_le (by omega)]
    have := cat_l1 a b hl b.length k 0 (by omega) (by omega)
    simpa using this
  | succ d ih =>
    intro k i hi hk
    obtain ⟨k, rfl⟩ : ∃ m, k = m + 1 := ⟨k - 1, by omega⟩
    have h1 : i < a.length := by omega
    simp only [stoaref01_Cat.l0]
    rw [if_pos (by omega), if_pos (by omega), if_pos (by rw [List.length_take]; omega), rd_nat h1, wsucc (by omega), ← take_succ_snoc h1]
    exact ih k (i + 1) (by omega) (by omega)
theorem cat_at (a b : List Int) (hl : a.length + b.length ≤ 140737488355328) (k : Nat) (hk : a.length + b.length + 2 ≤ k) : stoaref01_Cat.f k a b = some (a ++ b) := by
  have := cat_l0 a b hl a.length k 0 (by omega) (by omega)
  simpa [stoaref01_Cat.f] using this
theorem cat_ev (a b : List Int) (hl : a.length + b.length ≤ 140737488355328) : ∃ K, ∀ k, K ≤ k → stoaref01_Cat.f k a b = some (a ++ b) :=
  ⟨_, fun k hk => cat_at a b hl k hk⟩

theorem rput_l0 (n : Nat) : ∀ (u k : Nat) (acc : List Int), u < n → u < 18446744073709551616 → acc.length + (putL u).length ≤ 140737488355328 → (putL u).length ≤ k →
    stoaref02_Put.l0 k (u : Int) acc = some (acc ++ putL u) := by
  induction n with
  | zero => intro u k acc h; omega
  | succ n ih =>
    intro u k acc h h64 hl hk
    have hp := putL_pos u
    obtain ⟨k, rfl⟩ : ∃ m, k = m + 1 := ⟨k - 1, by omega⟩
    simp only [stoaref02_Put.l0]
    by_cases hs : u < 128
    · rw [if_neg (by omega), if_pos (by omega), putL_small hs, show (u : Int) % 256 = u by omega]
    · rw [putL_big hs, List.length_cons] at hl hk
      have hp := putL_pos (u / 128)
      rw [if_pos (by omega), if_pos (by omega), Int.tmod_eq_emod_of_nonneg (by omega), Int.tdiv_eq_ediv_of_nonneg (by omega), u64w (x := (u : Int) / 128) (by omega) (by omega), u64w (x := (u : Int) % 128 + 128) (by omega) (by omega), show (u : Int) / 128 = ((u / 128 : Nat) : Int) by omega,
        ih (u / 128) k _ (by omega) (by omega) (by rw [List.length_append, List.length_singleton]; omega) (by omega), putL_big hs, List.append_assoc]
      congr 3
      simp only [List.singleton_append, List.cons.injEq, and_true]
      omega
theorem rput_at {u : Int} (h0 : 0 ≤ u) (h1 : u < 18446744073709551616) (k : Nat) (hk : 10 ≤ k) : stoaref02_Put.f k u = some (putL u.toNat) := by
  have hl := putL_len10 (u := u.toNat) (by omega)
  have := rput_l0 (u.toNat + 1) u.toNat k [] (by omega) (by omega) (by simp only [List.length_nil]; omega) (by omega)
  rw [Int.toNat_of_nonneg h0] at this
  simpa [stoaref02_Put.f] using this
theorem rputlist_l0 (us : List Int) (hu : U64s us) (L : Nat) (hL : L ≤ 140737488355328) (d : Nat) : ∀ (k i : Nat) (acc : List Int), i + d = us.length → d + L + 13 < k → acc.length + ((us.drop i).flatMap fun u => putL u.toNat).length ≤ L →
    us.length < 140737488355328 → stoaref02_PutList.l0 k us acc i = some (acc ++ (us.drop i).flatMap fun u => putL u.toNat) := by
  induction d with
  | zero =>
    intro k i acc hi hk hl hn
    obtain ⟨k, rfl⟩ : ∃ m, k = m + 1 := ⟨k - 1, by omega⟩
    simp only [stoaref02_PutList.l0]
    rw [if_neg (by omega), List.drop_eq_nil_of_le (by omega)]; simp
  | succ d ih =>
    intro k i acc hi hk hl hn
    obtain ⟨k, rfl⟩ : ∃ m, k = m + 1 := ⟨k - 1, by omega⟩
    have h1 : i < us.length := by omega
    have hc := hu _ (List.getElem_mem h1)
    simp only [stoaref02_PutList.l0]
    rw [show us.drop i = us[i] :: us.drop (i + 1) from drop_cons h1, List.flatMap_cons, List.length_append] at hl
    rw [if_pos (by omega), if_pos (by omega), rd_nat h1, rput_at hc.1 hc.2 k (by omega), Option.bind_some, cat_at _ _ (by omega) k (by omega), Option.bind_some, wsucc (by omega), ih k (i + 1) _ (by omega) (by omega) (by rw [List.length_append]; omega) hn,
      show us.drop i = us[i] :: us.drop (i + 1) from drop_cons h1, List.flatMap_cons, List.append_assoc]
theorem rputlist_at (us : List Int) (hu : U64s us) (hl : (putLs us).length ≤ 140737488355328) (hn : us.length < 140737488355328) (k : Nat) (hk : us.length + (putLs us).length + 14 ≤ k) : stoaref02_PutList.f k us = some (putLs us) := by
  unfold putLs at hl hk
  rw [List.length_append] at hl hk
  have hp := putL_len10 (u := us.length) (by omega)
  unfold stoaref02_PutList.f
  rw [u64w (by omega) (by omega), rput_at (by omega) (by omega) k (by omega), Option.bind_some, Int.toNat_natCast]
  have := rputlist_l0 us hu ((putL us.length).length + (us.flatMap fun u => putL u.toNat).length) hl us.length k 0 (putL us.length) (by omega) (by omega) (by simp) hn
  simpa [putLs] using this

theorem puts_l0 (us : List Int) (hu : U64s us) (hn : us.length ≤ 1048576) (d : Nat) : ∀ (k i : Nat), i + d = us.length → d + 20 < k → stoalaw02_VintPuts.l0 k us (us.length : Int) i = some true := by
  induction d with
  | zero =>
    intro k i hi hk
    obtain ⟨k, rfl⟩ : ∃ m, k = m + 1 := ⟨k - 1, by omega⟩
    simp only [stoalaw02_VintPuts.l0]
    rw [if_neg (by omega)]
  | succ d ih =>
    intro k i hi hk
    obtain ⟨k, rfl⟩ : ∃ m, k = m + 1 := ⟨k - 1, by omega⟩
    have h1 : i < us.length := by omega
    have hc := hu _ (List.getElem_mem h1)
    have hl := putL_len10 (u := (us[i]).toNat) (by omega)
    simp only [stoalaw02_VintPuts.l0]
    rw [if_pos (by omega), if_pos (by omega), if_pos (by omega), rd_nat h1, rput_at hc.1 hc.2 k (by omega), Option.bind_some, size_at hc.1 hc.2 k (by omega), Option.bind_some, if_pos rfl, put_at hc.1 hc.2 k (by omega), Option.bind_some, Option.bind_some,
      apart_at _ (by omega) k (by omega), Option.bind_some, if_pos rfl, wsucc (by omega)]
    exact ih k (i + 1) (by omega) (by omega)
theorem VintPuts : stoalaw02_VintPuts.PureUpto := by
  intro us _ _ hu hbulk
  have hu := u64sWf hu
  have hf := flat_len us hu
  have hp := putL_len10 (u := us.length) (by omega)
  have hl : (putLs us).length ≤ 10 * us.length + 10 := by unfold putLs; rw [List.length_append]; omega
  obtain ⟨K1, h1⟩ := alive_ev
  obtain ⟨K2, h2⟩ := copyn_ev us (by omega)
  obtain ⟨k, hk⟩ : ∃ k, k = K1 + K2 + 12 * us.length + 100 := ⟨_, rfl⟩
  refine ⟨k + 1, ?_⟩
  unfold stoalaw02_VintPuts.f
  rw [h1 _ (by omega), Option.bind_some, if_pos rfl, h2 _ (by omega), Option.bind_some, putlist_at us hu (by omega) (by omega) _ (by omega), Option.bind_some, Option.bind_some, rputlist_at us hu (by omega) (by omega) _ (by omega), Option.bind_some,
    apart_at _ (by omega) _ (by omega), Option.bind_some, if_pos rfl, samen_at us us (by omega) _ (by omega), Option.bind_some, decide_eq_true rfl, Bool.not_true]
  simp only [stoalaw02_VintPuts.j0]
  rw [if_neg (by decide)]
  exact puts_l0 us hu (by omega) us.length k 0 (by omega) (by omega)

end Go.Proofs.Ytlfjelfafcaepaa.Pure
