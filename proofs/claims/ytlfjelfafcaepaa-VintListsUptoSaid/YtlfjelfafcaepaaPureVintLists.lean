/- For all bytes, places and bounds that hold together at most 1048576 values: vint.GetList answers as the document's GetList, the list is new memory, and the bytes are as they were. Condition: the bulk at most 1048576 (UptoSaid). -/
import Derived.Test.YtlfjelfafcaepaaUpVintLists
import Derived.Laws.BitsLemmas
set_option linter.unusedVariables false
set_option linter.unusedSimpArgs false
set_option maxRecDepth 20000
namespace Go.Proofs.Ytlfjelfafcaepaa.Pure
open Go.RowKit Go.Proofs.Ytlfjelfafcaepaa.PVintLists Go.Proofs.YtlfjelfafcaepaaW.PrintWords Go.Proofs.YtlfjelfafcaepaaW.PrintLast Go.Proofs.YtlfjelfafcaepaaW.PrintMore

/-! ### base: numbers, lists (no program in sight) -/
theorem w64 {x : Int} (h0 : -9223372036854775808 ≤ x) (h1 : x ≤ 9223372036854775807) : wrap64 x = x := by
  unfold wrap64; omega
theorem u64r (x : Int) : IntKind.u64.wrap x = x % 18446744073709551616 := by
  simp [IntKind.wrap, IntKind.bits, IntKind.signed]
theorem u32r (x : Int) : IntKind.u32.wrap x = x % 4294967296 := by
  simp [IntKind.wrap, IntKind.bits, IntKind.signed]
theorem u64w {x : Int} (h0 : 0 ≤ x) (h1 : x < 18446744073709551616) : IntKind.u64.wrap x = x := by
  rw [u64r]; omega
theorem wsucc {i : Nat} (h : i < 9223372036854775807) : wrap64 ((i : Int) + 1) = ((i + 1 : Nat) : Int) := by
  unfold wrap64; omega
theorem byteWf {x : Int} (h : (Lit.int .u8 x).wf = true) : 0 ≤ x ∧ x < 256 := by
  simp [Lit.wf, IntKind.min, IntKind.max, IntKind.signed, IntKind.bits] at h
  omega
theorem u64Wf {x : Int} (h : (Lit.int .u64 x).wf = true) : 0 ≤ x ∧ x < 18446744073709551616 := by
  simp [Lit.wf, IntKind.min, IntKind.max, IntKind.signed, IntKind.bits] at h
  omega
theorem i64Wf {x : Int} (h : (Lit.int .i64 x).wf = true) : -9223372036854775808 ≤ x ∧ x < 9223372036854775808 := by
  simp [Lit.wf, IntKind.min, IntKind.max, IntKind.signed, IntKind.bits] at h
  omega
def Bytes (l : List Int) : Prop := ∀ x ∈ l, 0 ≤ x ∧ x < 256
def U64s (l : List Int) : Prop := ∀ x ∈ l, 0 ≤ x ∧ x < 18446744073709551616
theorem bytesWf {l : List Int} (h : ∀ x ∈ l, (Lit.int .u8 x).wf = true) : Bytes l := fun x hx => byteWf (h x hx)
theorem u64sWf {l : List Int} (h : ∀ x ∈ l, (Lit.int .u64 x).wf = true) : U64s l := fun x hx => u64Wf (h x hx)
theorem Bytes.app {a b : List Int} (ha : Bytes a) (hb : Bytes b) : Bytes (a ++ b) := fun x hx => (List.mem_append.1 hx).elim (ha x) (hb x)
theorem Bytes.left {a b : List Int} (h : Bytes (a ++ b)) : Bytes a := fun x hx => h x (List.mem_append_left _ hx)
theorem Bytes.right {a b : List Int} (h : Bytes (a ++ b)) : Bytes b := fun x hx => h x (List.mem_append_right _ hx)
theorem Bytes.drop {a : List Int} (h : Bytes a) (n : Nat) : Bytes (a.drop n) := fun x hx => h x (List.mem_of_mem_drop hx)
theorem Bytes.take {a : List Int} (h : Bytes a) (n : Nat) : Bytes (a.take n) := fun x hx => h x (List.mem_of_mem_take hx)
theorem U64s.drop {a : List Int} (h : U64s a) (n : Nat) : U64s (a.drop n) := fun x hx => h x (List.mem_of_mem_drop hx)
theorem U64s.take {a : List Int} (h : U64s a) (n : Nat) : U64s (a.take n) := fun x hx => h x (List.mem_of_mem_take hx)
theorem rd_nat {l : List Int} {i : Nat} (h : i < l.length) : rd l (i : Int) = l[i] := by
  simp [rd, List.getD_eq_getElem?_getD, h]
theorem rd_int {l : List Int} {i : Int} (h0 : 0 ≤ i) (h : i.toNat < l.length) : rd l i = l[i.toNat] := by
  simp [rd, List.getD_eq_getElem?_getD, h]
theorem drop_cons {l : List Int} {i : Nat} (h : i < l.length) : l.drop i = l[i] :: l.drop (i + 1) := List.drop_eq_getElem_cons h
theorem take_succ_snoc {l : List Int} {i : Nat} (h : i < l.length) : l.take (i + 1) = l.take i ++ [l[i]] := by rw [List.take_add_one, List.getElem?_eq_getElem h]; rfl
theorem pow_pos' (n : Nat) : (0 : Int) < 128 ^ n := Int.pow_pos (by decide)
theorem pow128 (n : Nat) : (128 : Int) ^ n = 2 ^ (7 * n) := by rw [Int.pow_mul]; rfl
theorem ipow_le {b : Int} (hb : 1 ≤ b) {m n : Nat} (h : m ≤ n) : b ^ m ≤ b ^ n := by
  obtain ⟨a, rfl⟩ := Int.eq_ofNat_of_zero_le (show 0 ≤ b by omega)
  exact_mod_cast Nat.pow_le_pow_right (by omega) h

theorem samen_l0 (a b : List Int) (hab : a.length = b.length) (hl : a.length ≤ 17592186044416) (d : Nat) : ∀ (k i : Nat), i + d = a.length → d < k →
    stoaref01_SameNumbers.l0 k a b i = some (decide (a.drop i = b.drop i)) := by
  induction d with
  | zero =>
    intro k i hi hk
    obtain ⟨k, rfl⟩ : ∃ m, k = m + 1 := ⟨k - 1, by omega⟩
    simp only [stoaref01_SameNumbers.l0]
    rw [if_neg (by omega), List.drop_eq_nil_of_le (by omega), List.drop_eq_nil_of_le (by omega)]; simp
  | succ d ih =>
    intro k i hi hk
    obtain ⟨k, rfl⟩ : ∃ m, k = m + 1 := ⟨k - 1, by omega⟩
    have h1 : i < a.length := by omega
    have h2 : i < b.length := by omega
    simp only [stoaref01_SameNumbers.l0]
    rw [if_pos (by omega), if_pos (by omega), if_pos (by omega), rd_nat h1, rd_nat h2, wsucc (by omega), show a.drop i = a[i] :: a.drop (i + 1) from drop_cons h1, show b.drop i = b[i] :: b.drop (i + 1) from drop_cons h2]
    by_cases e : a[i] = b[i]
    · rw [if_pos e, ih k (i + 1) (by omega) (by omega)]; simp only [e, List.cons.injEq, true_and]
    · rw [if_neg e]; simp only [e, List.cons.injEq, false_and, decide_false]
theorem samen_ev (a b : List Int) (hl : a.length ≤ 17592186044416) : ∃ K, ∀ k, K ≤ k → stoaref01_SameNumbers.f k a b = some (decide (a = b)) := by
  refine ⟨a.length + 1, fun k hk => ?_⟩
  simp only [stoaref01_SameNumbers.f]
  by_cases h : a.length = b.length
  · rw [if_pos (by omega)]
    have := samen_l0 a b h hl a.length k 0 (by omega) (by omega)
    simpa using this
  · rw [if_neg (by omega)]
    have : a ≠ b := fun e => h (by rw [e])
    simp [this]

theorem copy_l0 (a : List Int) (hl : a.length ≤ 140737488355328) (d : Nat) : ∀ (k i : Nat), i + d = a.length → d < k →
    stoaref01_Copy.l0 k a (a.take i) i = some a := by
  induction d with
  | zero =>
    intro k i hi hk
    obtain ⟨k, rfl⟩ : ∃ m, k = m + 1 := ⟨k - 1, by omega⟩
    simp only [stoaref01_Copy.l0]
    rw [if_neg (by omega), List.take_of_length_le (by omega)]
  | succ d ih =>
    intro k i hi hk
    obtain ⟨k, rfl⟩ : ∃ m, k = m + 1 := ⟨k - 1, by omega⟩
    have h1 : i < a.length := by omega
    simp only [stoaref01_Copy.l0]
    rw [if_pos (by omega), if_pos (by omega), if_pos (by rw [List.length_take]; omega), rd_nat h1, wsucc (by omega), ← take_succ_snoc h1]
    exact ih k (i + 1) (by omega) (by omega)
theorem copy_ev (a : List Int) (hl : a.length ≤ 140737488355328) : ∃ K, ∀ k, K ≤ k → stoaref01_Copy.f k a = some a := by
  refine ⟨a.length + 1, fun k hk => ?_⟩
  have := copy_l0 a hl a.length k 0 (by omega) (by omega)
  simpa [stoaref01_Copy.f] using this

/-- The marks behind the bytes that are handed in. -/
def marks : List Int := (List.range 64).map fun (i : Nat) => (192 + (i : Int) % 7)
theorem marks_len : marks.length = 64 := by simp [marks]
theorem marks_bytes : Bytes marks := by
  intro x hx
  simp only [marks, List.mem_map, List.mem_range] at hx
  obtain ⟨i, _, rfl⟩ := hx
  omega
theorem marks_at {i : Nat} (h : i < 64) : marks[i]'(by rw [marks_len]; exact h) = (wrap64 (192 + (Int.tmod (i : Int) 7))) % 256 := by
  simp only [marks, List.getElem_map, List.getElem_range]
  rw [Int.tmod_eq_emod_of_nonneg (by omega), w64 (by omega) (by omega)]; omega
theorem wide_l0 (a : List Int) (hl : a.length + 64 ≤ 140737488355328) (d : Nat) : ∀ (k i : Nat), i + d = 64 → d < k →
    stoaref01_Wide.l0 k (a ++ marks.take i) i = some (a ++ marks) := by
  induction d with
  | zero =>
    intro k i hi hk
    obtain ⟨k, rfl⟩ : ∃ m, k = m + 1 := ⟨k - 1, by omega⟩
    simp only [stoaref01_Wide.l0]
    rw [if_neg (by omega), List.take_of_length_le (by rw [marks_len]; omega)]
  | succ d ih =>
    intro k i hi hk
    obtain ⟨k, rfl⟩ : ∃ m, k = m + 1 := ⟨k - 1, by omega⟩
    have hm := marks_len
    have h1 : i < marks.length := by omega
    simp only [stoaref01_Wide.l0]
    rw [if_pos (by omega), if_pos (by rw [List.length_append, List.length_take]; omega), ← marks_at (by omega), wsucc (by omega), List.append_assoc, ← take_succ_snoc h1]
    exact ih k (i + 1) (by omega) (by omega)
theorem wide_ev (a : List Int) (hl : a.length + 64 ≤ 140737488355328) : ∃ K, ∀ k, K ≤ k → stoaref01_Wide.f k a = some (a ++ marks) := by
  obtain ⟨K, h⟩ := copy_ev a (by omega)
  refine ⟨K + 65, fun k hk => ?_⟩
  have := wide_l0 a hl 64 k 0 (by omega) (by omega)
  simp only [stoaref01_Wide.f, h k (by omega), Option.bind_some]
  simpa using this
theorem intact_l1 (a : List Int) (hl : a.length + 64 ≤ 140737488355328) (d : Nat) : ∀ (k i : Nat), i + d = 64 → d < k →
    stoaref01_Intact.l1 k (a ++ marks) a i = some true := by
  induction d with
  | zero =>
    intro k i hi hk
    obtain ⟨k, rfl⟩ : ∃ m, k = m + 1 := ⟨k - 1, by omega⟩
    simp only [stoaref01_Intact.l1]
    rw [if_neg (by omega)]
  | succ d ih =>
    intro k i hi hk
    obtain ⟨k, rfl⟩ : ∃ m, k = m + 1 := ⟨k - 1, by omega⟩
    have hm := marks_len
    have e : wrap64 ((a.length : Int) + (i : Int)) = ((a.length + i : Nat) : Int) := by rw [w64 (by omega) (by omega)]; omega
    have h1 : a.length + i < (a ++ marks).length := by rw [List.length_append]; omega
    simp only [stoaref01_Intact.l1]
    rw [if_pos (by omega), e, if_pos (by omega), if_pos (by omega), rd_nat h1, List.getElem_append_right (by omega)]
    simp only [Nat.add_sub_cancel_left]
    rw [marks_at (by omega), if_pos rfl, wsucc (by omega)]
    exact ih k (i + 1) (by omega) (by omega)
theorem intact_l0 (a : List Int) (hl : a.length + 64 ≤ 140737488355328) (d : Nat) : ∀ (k i : Nat), i + d = a.length → d + 65 < k →
    stoaref01_Intact.l0 k (a ++ marks) a i = some true := by
  induction d with
  | zero =>
    intro k i hi hk
    obtain ⟨k, rfl⟩ : ∃ m, k = m + 1 := ⟨k - 1, by omega⟩
    simp only [stoaref01_Intact.l0]
    rw [if_neg (by omega)]
    exact intact_l1 a hl 64 k 0 (by omega) (by omega)
  | succ d ih =>
    intro k i hi hk
    obtain ⟨k, rfl⟩ : ∃ m, k = m + 1 := ⟨k - 1, by omega⟩
    have h1 : i < a.length := by omega
    have h2 : i < (a ++ marks).length := by rw [List.length_append]; omega
    simp only [stoaref01_Intact.l0]
    rw [if_pos (by omega), if_pos (by omega), if_pos (by omega), rd_nat h1, rd_nat h2, List.getElem_append_left h1, if_pos rfl, wsucc (by omega)]
    exact ih k (i + 1) (by omega) (by omega)
theorem intact_ev (a : List Int) (hl : a.length + 64 ≤ 140737488355328) : ∃ K, ∀ k, K ≤ k → stoaref01_Intact.f k (a ++ marks) a = some true := by
  refine ⟨a.length + 67, fun k hk => ?_⟩
  simp only [stoaref01_Intact.f]
  rw [List.length_append, marks_len, w64 (by omega) (by omega), if_pos (by omega)]
  exact intact_l0 a hl a.length k 0 (by omega) (by omega)

theorem alive_ev : ∃ K, ∀ k, K ≤ k → stoalaw02_alive.f k = some true := by
  have h : stoalaw02_alive.f 40 = some true := by decide +kernel
  exact Ev.of (fun k => stoalaw02_alive.mono k) h

/-! ### m_bits: or, and, shifts as arithmetic -/
theorem wraps_u64 (n : Int) (h0 : 0 ≤ n) (h1 : n < 2 ^ 64) : IntKind.u64.wrap n = n := by
  rw [u64r]; omega
theorem and127 {x : Int} (h0 : 0 ≤ x) (h1 : x < 256) : Go.bits .and .u8 x 127 = x % 128 := Go.bits_mask .u8 8 (by decide) Go.wraps_u8 7 (by decide) x h0 h1
/-- A number below 2^j, and one whose lowest j bits are 0: 'or' adds. -/
theorem or_low {j : Nat} {x y : Int} (hx0 : 0 ≤ x) (hx : x < 2 ^ j) (hy0 : 0 ≤ y) (hb : x + y * 2 ^ j < 2 ^ 64) :
    Go.bits .or .u64 x (y * 2 ^ j) = x + y * 2 ^ j := by
  have hp : (0 : Int) < 2 ^ j := Int.pow_pos (by decide)
  obtain ⟨a, rfl⟩ := Int.eq_ofNat_of_zero_le hx0
  obtain ⟨b, rfl⟩ := Int.eq_ofNat_of_zero_le hy0
  have ha : a < 2 ^ j := by exact_mod_cast hx
  have hab : a + b * 2 ^ j < 2 ^ 64 := by exact_mod_cast hb
  have e : ((b : Int) * 2 ^ j) = ((2 ^ j * b : Nat) : Int) := by rw [Nat.mul_comm]; simp
  have hc : a + 2 ^ j * b < 2 ^ 64 := by rw [Nat.mul_comm]; exact hab
  rw [e, (Go.bits_nat .u64 64 (by decide) wraps_u64 a (2 ^ j * b) (by omega) (by omega)).2, Nat.or_comm, ← Nat.two_pow_add_eq_or_of_lt ha b]
  omega
theorem shl64 {x y : Int} (hx : 0 ≤ x) {n : Nat} (hy : y = n) (hn : n ≤ 64) (hb : x * 2 ^ n < 2 ^ 64) : shl .u64 x y = x * 2 ^ n := by
  subst hy
  have : (0 : Int) ≤ x * 2 ^ n := Int.mul_nonneg hx (Int.le_of_lt (Int.pow_pos (by decide)))
  have e : min n IntKind.u64.bits = n := by simp only [IntKind.bits]; omega
  unfold shl
  rw [Int.toNat_natCast, e, wraps_u64 _ this hb]

/-! ### m_vint: numbers in as few bytes as they need, by definition -/
def putL (u : Nat) : List Int := if u < 128 then [(u : Int)] else ((u % 128 + 128 : Nat) : Int) :: putL (u / 128)
theorem putL_small {u : Nat} (h : u < 128) : putL u = [(u : Int)] := by rw [putL, if_pos h]
theorem putL_big {u : Nat} (h : ¬ u < 128) : putL u = ((u % 128 + 128 : Nat) : Int) :: putL (u / 128) := by rw [putL, if_neg h]
def getL : List Int → Nat → Except Int (Int × Nat)
  | [], _ => .error 2
  | c :: r, i => if i = 9 ∧ c > 1 then .error 20 else if c ≥ 128 then (match getL r (i + 1) with | .ok (v, n) => .ok (c - 128 + 128 * v, n + 1) | .error e => .error e)
    else if c = 0 ∧ i > 0 then .error 5 else .ok (c, 1)
theorem putL_bytes (n : Nat) : ∀ u, u < n → Bytes (putL u) := by
  induction n with
  | zero => intro u h; omega
  | succ n ih =>
    intro u h
    by_cases hu : u < 128
    · rw [putL_small hu]; intro x hx; simp only [List.mem_singleton] at hx; omega
    · rw [putL_big hu]; intro x hx
      rcases List.mem_cons.1 hx with rfl | hx
      · omega
      · exact ih (u / 128) (by omega) x hx
theorem putL_pos (u : Nat) : 1 ≤ (putL u).length := by
  by_cases hu : u < 128
  · rw [putL_small hu]; simp
  · rw [putL_big hu]; simp
/-- How long the bytes are: bounds on the number. -/
theorem putL_len (n : Nat) : ∀ u, u < n → u < 2 ^ (7 * (putL u).length) ∧ (2 ≤ (putL u).length → 2 ^ (7 * ((putL u).length - 1)) ≤ u) := by
  induction n with
  | zero => intro u h; omega
  | succ n ih =>
    intro u h
    by_cases hu : u < 128
    · rw [putL_small hu]; simp; omega
    · rw [putL_big hu]
      obtain ⟨h1, h2⟩ := ih (u / 128) (by omega)
      have hp := putL_pos (u / 128)
      simp only [List.length_cons, Nat.add_sub_cancel]
      have e : 2 ^ (7 * ((putL (u / 128)).length + 1)) = 2 ^ (7 * (putL (u / 128)).length) * 128 := by rw [Nat.mul_add, Nat.pow_add]
      refine ⟨by rw [e]; omega, fun _ => ?_⟩
      by_cases hl : 2 ≤ (putL (u / 128)).length
      · have h3 := h2 hl
        have e2 : 2 ^ (7 * (putL (u / 128)).length) = 2 ^ (7 * ((putL (u / 128)).length - 1)) * 128 := by
          rw [show 7 * (putL (u / 128)).length = 7 * ((putL (u / 128)).length - 1) + 7 by omega, Nat.pow_add]
        rw [e2]; omega
      · rw [show (putL (u / 128)).length = 1 by omega]; omega
theorem putL_len_le {u j : Nat} (hj : 1 ≤ j) (h : u < 2 ^ (7 * j)) : (putL u).length ≤ j := by
  obtain ⟨_, h2⟩ := putL_len (u + 1) u (by omega)
  refine Decidable.byContradiction fun hc => ?_
  have h3 := h2 (by omega)
  have : 2 ^ (7 * j) ≤ 2 ^ (7 * ((putL u).length - 1)) := Nat.pow_le_pow_right (by decide) (by omega)
  omega
theorem putL_len10 {u : Nat} (h : u < 18446744073709551616) : (putL u).length ≤ 10 :=
  putL_len_le (by decide) (Nat.lt_trans h (by decide))
theorem putL_mono {u v : Nat} (h : u ≤ v) : (putL u).length ≤ (putL v).length := by
  obtain ⟨h1, _⟩ := putL_len (v + 1) v (by omega)
  exact putL_len_le (putL_pos v) (by omega)
/-- What is got: its bounds. -/
theorem getL_ok : ∀ (b : List Int) (i : Nat) (v : Int) (n : Nat), Bytes b → i ≤ 9 → getL b i = .ok (v, n) →
    0 ≤ v ∧ v < 2 ^ (64 - 7 * i) ∧ 1 ≤ n ∧ n ≤ b.length ∧ n + i ≤ 10 := by
  intro b
  induction b with
  | nil => intro i v n _ _ h; simp [getL] at h
  | cons c r ih =>
    intro i v n hb hi h
    have hc := hb c (List.mem_cons_self)
    have hr : Bytes r := fun x hx => hb x (List.mem_cons_of_mem _ hx)
    rw [getL] at h
    by_cases h9 : i = 9 ∧ c > 1
    · rw [if_pos h9] at h; simp at h
    rw [if_neg h9] at h
    by_cases h128 : c ≥ 128
    · rw [if_pos h128] at h
      have hi8 : i + 1 ≤ 9 := by omega
      cases hg : getL r (i + 1) with
      | error e => rw [hg] at h; simp at h
      | ok p =>
        obtain ⟨v', n'⟩ := p
        rw [hg] at h
        simp only [Except.ok.injEq, Prod.mk.injEq] at h
        obtain ⟨rfl, rfl⟩ := h
        obtain ⟨g1, g2, g3, g4, g5⟩ := ih (i + 1) v' n' hr hi8 hg
        have e : (2 : Int) ^ (64 - 7 * i) = 2 ^ (64 - 7 * (i + 1)) * 128 := by
          rw [show 64 - 7 * i = 64 - 7 * (i + 1) + 7 by omega, Int.pow_add]; rfl
        refine ⟨by omega, by rw [e]; omega, by omega, by simp only [List.length_cons]; omega, by omega⟩
    · rw [if_neg h128] at h
      by_cases h0 : c = 0 ∧ i > 0
      · rw [if_pos h0] at h; simp at h
      rw [if_neg h0] at h
      simp only [Except.ok.injEq, Prod.mk.injEq] at h
      obtain ⟨rfl, rfl⟩ := h
      refine ⟨by omega, ?_, by omega, by simp, by omega⟩
      by_cases hi9 : i = 9
      · subst hi9; have : ¬ c > 1 := fun h => h9 ⟨rfl, h⟩; simp; omega
      · have : (2 : Int) ^ 8 ≤ 2 ^ (64 - 7 * i) := ipow_le (by decide) (by omega)
        omega
/-- What was put is got again. -/
theorem getL_putL (n : Nat) : ∀ (u i : Nat) (rest : List Int), u < n → i ≤ 9 → u < 2 ^ (64 - 7 * i) → (i > 0 → u > 0) → getL (putL u ++ rest) i = .ok ((u : Int), (putL u).length) := by
  induction n with
  | zero => intro u i rest h; omega
  | succ n ih =>
    intro u i rest h hi hu hp
    by_cases hs : u < 128
    · rw [putL_small hs]
      simp only [List.singleton_append, getL, List.length_singleton]
      rw [if_neg, if_neg (by omega), if_neg (by omega)]
      rintro ⟨rfl, h1⟩
      simp at hu; omega
    · rw [putL_big hs]
      simp only [List.cons_append, getL, List.length_cons]
      have hi8 : i + 1 ≤ 9 := by
        refine Decidable.byContradiction fun hc => ?_
        have : i = 9 := by omega
        subst this; simp at hu; omega
      have e : (2 : Nat) ^ (64 - 7 * i) = 2 ^ (64 - 7 * (i + 1)) * 128 := by
        rw [show 64 - 7 * i = 64 - 7 * (i + 1) + 7 by omega, Nat.pow_add]
      rw [if_neg (by omega), if_pos (by omega), ih (u / 128) (i + 1) rest (by omega) hi8 (by omega) (by omega)]
      simp only [Except.ok.injEq, Prod.mk.injEq, and_true]
      omega
/-- A piece of what was put isn't enough. -/
theorem getL_short (n : Nat) : ∀ (u i m : Nat), u < n → i ≤ 9 → u < 2 ^ (64 - 7 * i) → m < (putL u).length → getL ((putL u).take m) i = .error 2 := by
  induction n with
  | zero => intro u i m h; omega
  | succ n ih =>
    intro u i m h hi hu hm
    cases m with
    | zero => simp [getL]
    | succ m =>
      by_cases hs : u < 128
      · rw [putL_small hs] at hm; simp at hm
      · rw [putL_big hs] at hm ⊢
        simp only [List.length_cons] at hm
        simp only [List.take_succ_cons, getL]
        have hi8 : i + 1 ≤ 9 := by
          refine Decidable.byContradiction fun hc => ?_
          have : i = 9 := by omega
          subst this; simp at hu; omega
        have e : (2 : Nat) ^ (64 - 7 * i) = 2 ^ (64 - 7 * (i + 1)) * 128 := by
          rw [show 64 - 7 * i = 64 - 7 * (i + 1) + 7 by omega, Nat.pow_add]
        rw [if_neg (by omega), if_pos (by omega), ih (u / 128) (i + 1) m (by omega) hi8 (by omega) (by omega)]
/-- Bytes that are got are the only ones. -/
theorem getL_only : ∀ (b : List Int) (i : Nat) (v : Int) (n : Nat), Bytes b → i ≤ 9 → getL b i = .ok (v, n) → putL v.toNat = b.take n ∧ (i > 0 → 0 < v) := by
  intro b
  induction b with
  | nil => intro i v n _ _ h; simp [getL] at h
  | cons c r ih =>
    intro i v n hb hi h
    have hc := hb c (List.mem_cons_self)
    have hr : Bytes r := fun x hx => hb x (List.mem_cons_of_mem _ hx)
    rw [getL] at h
    by_cases h9 : i = 9 ∧ c > 1
    · rw [if_pos h9] at h; simp at h
    rw [if_neg h9] at h
    by_cases h128 : c ≥ 128
    · rw [if_pos h128] at h
      have hi8 : i + 1 ≤ 9 := by omega
      cases hg : getL r (i + 1) with
      | error e => rw [hg] at h; simp at h
      | ok p =>
        obtain ⟨v', n'⟩ := p
        rw [hg] at h
        simp only [Except.ok.injEq, Prod.mk.injEq] at h
        obtain ⟨rfl, rfl⟩ := h
        obtain ⟨g1, g2⟩ := ih (i + 1) v' n' hr hi8 hg
        obtain ⟨q1, _⟩ := getL_ok r (i + 1) v' n' hr hi8 hg
        have g3 := g2 (by omega)
        refine ⟨?_, fun _ => by omega⟩
        rw [putL_big (by omega), show (c - 128 + 128 * v').toNat / 128 = v'.toNat by omega, g1, List.take_succ_cons]
        congr 1; omega
    · rw [if_neg h128] at h
      by_cases h0 : c = 0 ∧ i > 0
      · rw [if_pos h0] at h; simp at h
      rw [if_neg h0] at h
      simp only [Except.ok.injEq, Prod.mk.injEq] at h
      obtain ⟨rfl, rfl⟩ := h
      refine ⟨?_, by omega⟩
      rw [putL_small (by omega)]; simp; omega
/-- The answer of Get. -/
def getR (b : List Int) (at_ : Int) : Int × Int × Int :=
  if at_ < 0 ∨ at_ > b.length then (0, 0, 1) else match getL (b.drop at_.toNat) 0 with
    | .ok (v, n) => (v, at_ + n, 0)
    | .error e => (0, 0, e)
theorem getL_err : ∀ (b : List Int) (i : Nat) (e : Int), getL b i = .error e → e = 2 ∨ e = 20 ∨ e = 5 := by
  intro b
  induction b with
  | nil => intro i e h; simp only [getL, Except.error.injEq] at h; omega
  | cons c r ih =>
    intro i e h
    rw [getL] at h
    split at h
    · simp only [Except.error.injEq] at h; omega
    split at h
    · split at h
      · simp at h
      · rename_i e' hg; simp only [Except.error.injEq] at h; subst h; exact ih _ _ hg
    split at h
    · simp only [Except.error.injEq] at h; omega
    · simp at h
theorem getR_ok {b : List Int} {at_ v nx : Int} (hb : Bytes b) (h : getR b at_ = (v, nx, 0)) :
    0 ≤ at_ ∧ at_ < nx ∧ nx ≤ b.length ∧ nx ≤ at_ + 10 ∧ 0 ≤ v ∧ v < 18446744073709551616 ∧ putL v.toNat = (b.take nx.toNat).drop at_.toNat := by
  unfold getR at h
  split at h
  · simp at h
  rename_i ha
  split at h
  · rename_i v' n hg
    simp only [Prod.mk.injEq, and_true] at h
    obtain ⟨rfl, rfl⟩ := h
    obtain ⟨g1, g2, g3, g4, g5⟩ := getL_ok _ 0 _ _ (hb.drop _) (by decide) hg
    obtain ⟨q1, _⟩ := getL_only _ 0 _ _ (hb.drop _) (by decide) hg
    rw [List.length_drop] at g4
    refine ⟨by omega, by omega, by omega, by omega, g1, by simpa using g2, ?_⟩
    rw [q1, List.drop_take, show (at_ + (n : Int)).toNat - at_.toNat = n by omega]
  · rename_i e hg
    have := getL_err _ _ _ hg
    simp only [Prod.mk.injEq] at h
    omega
theorem getR_bad {b : List Int} {at_ v nx e : Int} (h : getR b at_ = (v, nx, e)) (he : e ≠ 0) : v = 0 ∧ nx = 0 := by
  unfold getR at h
  split at h
  · simp only [Prod.mk.injEq] at h; omega
  split at h
  · simp only [Prod.mk.injEq] at h; omega
  · simp only [Prod.mk.injEq] at h; omega
theorem getR_put (a c : List Int) {u : Nat} (hu : u < 18446744073709551616) : getR (a ++ putL u ++ c) (a.length : Int) = ((u : Int), (a.length : Int) + (putL u).length, 0) := by
  unfold getR
  rw [if_neg (by simp only [List.length_append]; omega), Int.toNat_natCast, List.append_assoc, List.drop_left, getL_putL (u + 1) u 0 c (by omega) (by decide) (by simpa using hu) (by omega)]
theorem getR_bad2 {b : List Int} {at_ : Int} (he : (getR b at_).2.2 ≠ 0) : (getR b at_).1 = 0 ∧ (getR b at_).2.1 = 0 := getR_bad (b := b) (at_ := at_) (v := (getR b at_).1) (nx := (getR b at_).2.1) (e := (getR b at_).2.2) rfl he

/-! ### m_list: lists of numbers -/
/-- n numbers one behind the other. -/
def getNs (b : List Int) : Nat → Int → Except Int (List Int × Int)
  | 0, at_ => .ok ([], at_)
  | n + 1, at_ => if (getR b at_).2.2 = 0 then (match getNs b n (getR b at_).2.1 with | .ok (us, nx) => .ok ((getR b at_).1 :: us, nx) | .error e => .error e) else .error (getR b at_).2.2
def getLs (b : List Int) (at_ most : Int) : List Int × Int × Int :=
  if (getR b at_).2.2 = 0 then (if (getR b at_).1 > mx most 0 then ([], 0, 4) else match getNs b (getR b at_).1.toNat (getR b at_).2.1 with | .ok (us, nx) => (us, nx, 0) | .error e => ([], 0, e))
  else ([], 0, (getR b at_).2.2)
theorem getR_triple {b : List Int} {at_ : Int} (h : (getR b at_).2.2 = 0) : getR b at_ = ((getR b at_).1, (getR b at_).2.1, 0) := by rw [← h]
theorem flat_len : ∀ us : List Int, U64s us → (us.flatMap fun u => putL u.toNat).length ≤ 10 * us.length
  | [], _ => by simp
  | u :: us, h => by
    have h1 := h u List.mem_cons_self
    have h2 := flat_len us (fun x hx => h x (List.mem_cons_of_mem _ hx))
    have h3 := putL_len10 (u := u.toNat) (by omega)
    simp only [List.flatMap_cons, List.length_append, List.length_cons]
    omega
def putLs (us : List Int) : List Int := putL us.length ++ us.flatMap fun u => putL u.toNat
theorem piece_join {b : List Int} {x y z : Nat} (h1 : x ≤ y) (h2 : y ≤ z) : (b.take y).drop x ++ (b.take z).drop y = (b.take z).drop x := by
  rw [List.drop_take, List.drop_take, List.drop_take]
  rw [show z - x = (y - x) + (z - y) by omega, List.take_add, List.drop_drop, show x + (y - x) = y by omega]
theorem getNs_ok {b : List Int} (hb : Bytes b) : ∀ (n : Nat) (at_ nx : Int) (us : List Int), 0 ≤ at_ → at_ ≤ b.length → getNs b n at_ = .ok (us, nx) →
    us.length = n ∧ at_ + n ≤ nx ∧ nx ≤ b.length ∧ U64s us ∧ (us.flatMap fun u => putL u.toNat) = (b.take nx.toNat).drop at_.toNat := by
  intro n
  induction n with
  | zero =>
    intro at_ nx us h0 h1 h
    simp only [getNs, Except.ok.injEq, Prod.mk.injEq] at h
    obtain ⟨rfl, rfl⟩ := h
    refine ⟨rfl, by omega, h1, by intro x hx; simp at hx, ?_⟩
    rw [List.drop_eq_nil_of_le (by rw [List.length_take]; omega)]; rfl
  | succ n ih =>
    intro at_ nx us h0 h1 h
    simp only [getNs] at h
    by_cases he : (getR b at_).2.2 = 0
    · rw [if_pos he] at h
      obtain ⟨g1, g2, g3, g4, g5, g6, g7⟩ := getR_ok hb (getR_triple he)
      cases hg : getNs b n (getR b at_).2.1 with
      | error e => rw [hg] at h; simp at h
      | ok p =>
        obtain ⟨us', nx'⟩ := p
        rw [hg] at h
        simp only [Except.ok.injEq, Prod.mk.injEq] at h
        obtain ⟨rfl, rfl⟩ := h
        obtain ⟨q1, q2, q3, q4, q5⟩ := ih _ _ _ (by omega) g3 hg
        refine ⟨by simp [q1], by omega, q3, ?_, ?_⟩
        · intro x hx
          rcases List.mem_cons.1 hx with rfl | hx
          · exact ⟨g5, g6⟩
          · exact q4 x hx
        · rw [List.flatMap_cons, g7, q5, piece_join (by omega) (by omega)]
    · rw [if_neg he] at h; simp at h
theorem getNs_err {b : List Int} : ∀ (n : Nat) (at_ : Int) (e : Int), getNs b n at_ = .error e → e ≠ 0 := by
  intro n
  induction n with
  | zero => intro at_ e h; simp [getNs] at h
  | succ n ih =>
    intro at_ e h
    simp only [getNs] at h
    by_cases he : (getR b at_).2.2 = 0
    · rw [if_pos he] at h
      cases hg : getNs b n (getR b at_).2.1 with
      | error e' => rw [hg] at h; simp only [Except.error.injEq] at h; subst h; exact ih _ _ hg
      | ok p => rw [hg] at h; simp at h
    · rw [if_neg he] at h; simp only [Except.error.injEq] at h; subst h; exact he
theorem getLs_ok {b us : List Int} {at_ most nx : Int} (hb : Bytes b) (h : getLs b at_ most = (us, nx, 0)) :
    0 ≤ at_ ∧ at_ < nx ∧ nx ≤ b.length ∧ U64s us ∧ (us.length : Int) ≤ b.length ∧ (us.length : Int) ≤ mx most 0 ∧ putLs us = (b.take nx.toNat).drop at_.toNat := by
  unfold getLs at h
  by_cases he : (getR b at_).2.2 = 0
  · rw [if_pos he] at h
    obtain ⟨g1, g2, g3, g4, g5, g6, g7⟩ := getR_ok hb (getR_triple he)
    by_cases hc : (getR b at_).1 > mx most 0
    · rw [if_pos hc] at h; simp at h
    rw [if_neg hc] at h
    cases hg : getNs b (getR b at_).1.toNat (getR b at_).2.1 with
    | error e => rw [hg] at h; simp only [Prod.mk.injEq] at h; exact absurd h.2.2 (getNs_err _ _ _ hg)
    | ok p =>
      obtain ⟨us', nx'⟩ := p
      rw [hg] at h
      simp only [Prod.mk.injEq, and_true] at h
      obtain ⟨rfl, rfl⟩ := h
      obtain ⟨q1, q2, q3, q4, q5⟩ := getNs_ok hb _ _ _ _ (by omega) g3 hg
      refine ⟨g1, by omega, q3, q4, by omega, by omega, ?_⟩
      unfold putLs
      rw [q5, q1, g7, piece_join (by omega) (by omega)]
  · rw [if_neg he] at h
    simp only [Prod.mk.injEq] at h
    exact absurd h.2.2 he
theorem getLs_bad {b us : List Int} {at_ most nx e : Int} (h : getLs b at_ most = (us, nx, e)) (he : e ≠ 0) : us = [] ∧ nx = 0 := by
  unfold getLs at h
  split at h
  · split at h
    · simp only [Prod.mk.injEq] at h; exact ⟨h.1.symm, h.2.1.symm⟩
    · split at h
      · simp only [Prod.mk.injEq] at h; omega
      · simp only [Prod.mk.injEq] at h; exact ⟨h.1.symm, h.2.1.symm⟩
  · simp only [Prod.mk.injEq] at h; exact ⟨h.1.symm, h.2.1.symm⟩
theorem getLs_bad2 {b : List Int} {at_ most : Int} (he : (getLs b at_ most).2.2 ≠ 0) : (getLs b at_ most).1 = [] ∧ (getLs b at_ most).2.1 = 0 := getLs_bad (b := b) (at_ := at_) (most := most) (us := (getLs b at_ most).1) (nx := (getLs b at_ most).2.1) (e := (getLs b at_ most).2.2) rfl he
theorem getLs_triple {b : List Int} {at_ most : Int} (h : (getLs b at_ most).2.2 = 0) : getLs b at_ most = ((getLs b at_ most).1, (getLs b at_ most).2.1, 0) := by rw [← h]

theorem get_l0 (b : List Int) (hb : Bytes b) (hl : b.length ≤ 140737488355328) (at_ : Nat) (ha : at_ ≤ b.length) (d : Nat) : ∀ (k i : Nat) (u : Int), i + d = 10 → 2 * d ≤ k → 1 ≤ d → at_ + i ≤ b.length → 0 ≤ u → u < 2 ^ (7 * i) →
    vint_Get.l0 k b (at_ : Int) u (i : Int) = some (match getL (b.drop (at_ + i)) i with | .ok (v, n) => (u + v * 2 ^ (7 * i), (at_ : Int) + i + n, 0) | .error e => (0, 0, e)) := by
  induction d with
  | zero => intro k i u hi hk h1; omega
  | succ d ih =>
    intro k i u hi hk _ hle hu0 hu1
    obtain ⟨k, rfl⟩ : ∃ m, k = m + 1 + 1 := ⟨k - 2, by omega⟩
    simp only [vint_Get.l0]
    rw [w64 (x := (b.length : Int) - at_) (by omega) (by omega)]
    by_cases hend : at_ + i = b.length
    · rw [if_pos (by omega), List.drop_eq_nil_of_le (by omega)]; simp [getL]
    have hlt : at_ + i < b.length := by omega
    have e1 : wrap64 ((at_ : Int) + (i : Int)) = ((at_ + i : Nat) : Int) := by rw [w64 (by omega) (by omega)]; omega
    have hc := hb _ (List.getElem_mem hlt)
    rw [if_neg (by omega), e1, if_pos (by omega), if_pos (by omega), rd_nat hlt, drop_cons hlt, getL]
    generalize hcc : b[at_ + i] = c at hc ⊢
    have e2 : wrap64 (7 * (i : Int)) = ((7 * i : Nat) : Int) := by rw [w64 (by omega) (by omega)]; omega
    have e3 : IntKind.u64.wrap ((7 * i : Nat) : Int) = ((7 * i : Nat) : Int) := u64w (by omega) (by omega)
    have e4 : IntKind.u64.wrap (c % 128) = c % 128 := u64w (by omega) (by omega)
    have key : ∀ (h9 : ¬ (i = 9 ∧ c > 1)), vint_Get.j2 (k + 1) b (at_ : Int) u (i : Int) c false = some (match (if i = 9 ∧ c > 1 then .error 20 else if c ≥ 128 then (match getL (b.drop (at_ + i + 1)) (i + 1) with | .ok (v, n) => .ok (c - 128 + 128 * v, n + 1) | .error e => .error e)
        else if c = 0 ∧ i > 0 then .error 5 else .ok (c, 1) : Except Int (Int × Nat)) with | .ok (v, n) => (u + v * 2 ^ (7 * i), (at_ : Int) + i + n, 0) | .error e => (0, 0, e)) := by
      intro h9
      have hm : c % 128 < 2 ^ (64 - 7 * i) := by
        by_cases hi9 : i = 9
        · subst hi9; have : ¬ c > 1 := fun h => h9 ⟨rfl, h⟩; simp; omega
        · have : (2 : Int) ^ 8 ≤ 2 ^ (64 - 7 * i) := ipow_le (by decide) (by omega)
          omega
      have hpos : (0 : Int) < 2 ^ (7 * i) := Int.pow_pos (by decide)
      have e64 : (2 : Int) ^ 64 = 2 ^ (64 - 7 * i) * 2 ^ (7 * i) := by rw [← Int.pow_add]; congr 1; omega
      have hmul : c % 128 * 2 ^ (7 * i) ≤ (2 ^ (64 - 7 * i) - 1) * 2 ^ (7 * i) := Int.mul_le_mul_of_nonneg_right (by omega) (Int.le_of_lt hpos)
      have hfit : u + c % 128 * 2 ^ (7 * i) < 2 ^ 64 := by
        rw [e64]; rw [Int.sub_mul] at hmul; omega
      have e5 : Go.bits .or .u64 u (shl .u64 (IntKind.u64.wrap (Go.bits .and .u8 c 127)) (IntKind.u64.wrap (wrap64 (7 * (i : Int))))) = u + c % 128 * 2 ^ (7 * i) := by
        rw [and127 hc.1 hc.2, e4, e2, e3, shl64 (by omega) rfl (by omega) (by omega), or_low hu0 hu1 (by omega) hfit]
      simp only [vint_Get.j2, Bool.false_eq_true, if_false]
      rw [e5, e2, e3, if_pos (by omega), if_neg h9]
      by_cases h128 : c ≥ 128
      · have hi9 : i ≠ 9 := fun h => h9 ⟨h, by omega⟩
        have hlt2 : u + c % 128 * 2 ^ (7 * i) < 2 ^ (7 * (i + 1)) := by
          have e : (2 : Int) ^ (7 * (i + 1)) = 128 * 2 ^ (7 * i) := by rw [Nat.mul_add, Int.pow_add, Int.mul_comm]; rfl
          have : c % 128 * 2 ^ (7 * i) ≤ 127 * 2 ^ (7 * i) := Int.mul_le_mul_of_nonneg_right (by omega) (Int.le_of_lt hpos)
          omega
        have hge : 0 ≤ c % 128 * 2 ^ (7 * i) := Int.mul_nonneg (by omega) (Int.le_of_lt hpos)
        rw [if_pos h128, if_pos h128, wsucc (by omega), ih k (i + 1) _ (by omega) (by omega) (by omega) (by omega) (by omega) hlt2, show at_ + (i + 1) = at_ + i + 1 by omega]
        cases getL (b.drop (at_ + i + 1)) (i + 1) with
        | error e => rfl
        | ok p =>
          obtain ⟨v, n⟩ := p
          simp only [Option.some.injEq, Prod.mk.injEq, and_true]
          constructor
          · have e : (2 : Int) ^ (7 * (i + 1)) = 128 * 2 ^ (7 * i) := by rw [Nat.mul_add, Int.pow_add, Int.mul_comm]; rfl
            rw [e, show c % 128 = c - 128 by omega, Int.add_mul, Int.add_assoc]
            congr 2
            rw [← Int.mul_assoc, Int.mul_comm v 128]
          · omega
      · rw [if_neg h128, if_neg h128]
        have e6 : wrap64 (((at_ + i : Nat) : Int) + 1) = (at_ : Int) + i + (1 : Nat) := by rw [w64 (by omega) (by omega)]; omega
        by_cases h0 : c = 0
        · rw [if_pos h0]
          by_cases hi0 : (i : Int) > 0
          · rw [if_pos hi0, if_pos ⟨h0, by omega⟩]
          · rw [if_neg hi0, if_neg (by omega), e1, e6, show c % 128 = c by omega]
        · rw [if_neg h0, if_neg (by omega), e1, e6, show c % 128 = c by omega]
    by_cases hi9 : i = 9
    · rw [if_pos (by omega)]
      by_cases hc1 : c > 1
      · simp only [vint_Get.j2, decide_eq_true hc1, if_true]
        rw [if_pos ⟨hi9, hc1⟩]
      · rw [decide_eq_false hc1]
        exact key (fun h => hc1 h.2)
    · rw [if_neg (by omega)]
      exact key (fun h => hi9 h.1)
theorem get_at (b : List Int) (hb : Bytes b) (hl : b.length ≤ 140737488355328) (at_ : Int) (k : Nat) (hk : 22 ≤ k) : vint_Get.f k b at_ = some (getR b at_) := by
  obtain ⟨k, rfl⟩ : ∃ m, k = m + 1 := ⟨k - 1, by omega⟩
  unfold vint_Get.f getR
  by_cases h0 : at_ < 0
  · rw [if_pos h0, if_pos (Or.inl h0)]; simp [vint_Get.j0]
  rw [if_neg h0]
  by_cases h1 : at_ > b.length
  · rw [if_pos (Or.inr h1)]; simp [vint_Get.j0, h1]
  rw [if_neg (by omega)]
  simp only [vint_Get.j0, h1, decide_false, Bool.false_eq_true, if_false]
  obtain ⟨a, rfl⟩ := Int.eq_ofNat_of_zero_le (Int.not_lt.1 h0)
  have := get_l0 b hb hl a (by omega) 10 k 0 0 rfl (by omega) (by decide) (by omega) (by decide) (by decide)
  simp only [Int.natCast_zero] at this
  rw [this]
  simp only [Nat.add_zero, Int.toNat_natCast, Nat.mul_zero, Int.pow_zero, Int.mul_one, Int.zero_add, Int.add_zero]

theorem getlist_l0 (b : List Int) (hb : Bytes b) (hl : b.length < 17592186044416) (c : Nat) (hc64 : c < 18446744073709551616) (M : Nat) : ∀ (at_ : Int) (acc : List Int) (i d k : Nat), 0 ≤ at_ → at_ ≤ b.length → (b.length : Int) < at_ + M → i + d = c → (acc.length : Int) ≤ at_ → M + 23 ≤ k →
    vint_GetList.l0 k b at_ acc c i = some (match getNs b d at_ with | .ok (us, nx) => (acc ++ us, nx, 0) | .error e => ([], 0, e)) := by
  induction M with
  | zero => intro at_ acc i d k h0 h1 h2; omega
  | succ M ih =>
    intro at_ acc i d k h0 h1 h2 hi ha hk
    obtain ⟨k, rfl⟩ : ∃ m, k = m + 1 := ⟨k - 1, by omega⟩
    simp only [vint_GetList.l0]
    cases d with
    | zero => rw [if_neg (by omega)]; simp [getNs]
    | succ d =>
      rw [if_pos (by omega), get_at b hb (by omega) at_ k (by omega)]
      simp only [Option.bind_some, getNs]
      by_cases he : (getR b at_).2.2 = 0
      · obtain ⟨g1, g2, g3, g4, g5, g6, g7⟩ := getR_ok hb (getR_triple he)
        rw [if_pos he, if_pos he, if_pos (by omega), u64w (by omega) (by omega), show (i : Int) + 1 = ((i + 1 : Nat) : Int) by omega,
          ih _ _ (i + 1) d k (by omega) g3 (by omega) (by omega) (by rw [List.length_append, List.length_singleton]; omega) (by omega)]
        cases getNs b d (getR b at_).2.1 with
        | error e => rfl
        | ok p => simp
      · rw [if_neg he, if_neg he]
theorem getlist_at (b : List Int) (hb : Bytes b) (hl : b.length < 17592186044416) (at_ most : Int) (hm : most < 9223372036854775808) (k : Nat) (hk : b.length + 30 ≤ k) : vint_GetList.f k b at_ most = some (getLs b at_ most) := by
  unfold vint_GetList.f getLs
  rw [get_at b hb (by omega) at_ k (by omega)]
  simp only [Option.bind_some]
  by_cases he : (getR b at_).2.2 = 0
  · obtain ⟨g1, g2, g3, g4, g5, g6, g7⟩ := getR_ok hb (getR_triple he)
    have hmx : 0 ≤ mx most 0 ∧ mx most 0 < 9223372036854775808 := by unfold mx; split <;> omega
    rw [if_pos he, if_pos he, u64w hmx.1 (by omega)]
    by_cases hc : (getR b at_).1 > mx most 0
    · rw [if_pos hc, if_pos hc]
    · rw [if_neg hc, if_neg hc]
      have := getlist_l0 b hb hl (getR b at_).1.toNat (by omega) (b.length + 1) (getR b at_).2.1 [] 0 (getR b at_).1.toNat k (by omega) g3 (by omega) (by omega) (by simp only [List.length_nil]; omega) (by omega)
      rw [Int.toNat_of_nonneg g5] at this
      simp only [Int.natCast_zero, List.nil_append] at this
      rw [this]
  · rw [if_neg he, if_neg he]

theorem rget_l0 (b : List Int) (hb : Bytes b) (hl : b.length ≤ 140737488355328) (at_ : Nat) (ha : at_ ≤ b.length) (d : Nat) : ∀ (k i : Nat) (u : Int), i + d = 10 → 2 * d ≤ k → 1 ≤ d → at_ + i ≤ b.length → 0 ≤ u → u < 2 ^ (7 * i) →
    stoaref02_Get.l0 k b (at_ : Int) u (2 ^ (7 * i)) ((at_ : Int) + i) = some (match getL (b.drop (at_ + i)) i with | .ok (v, n) => (u + v * 2 ^ (7 * i), (at_ : Int) + i + n, 0) | .error e => (0, 0, e)) := by
  induction d with
  | zero => intro k i u hi hk h1; omega
  | succ d ih =>
    intro k i u hi hk _ hle hu0 hu1
    obtain ⟨k, rfl⟩ : ∃ m, k = m + 1 + 1 := ⟨k - 2, by omega⟩
    simp only [stoaref02_Get.l0]
    by_cases hend : at_ + i = b.length
    · rw [if_neg (by omega), List.drop_eq_nil_of_le (by omega)]; simp [getL]
    have hlt : at_ + i < b.length := by omega
    have hc := hb _ (List.getElem_mem hlt)
    rw [if_pos (by omega), if_pos (by omega), show (at_ : Int) + (i : Int) = ((at_ + i : Nat) : Int) by omega, rd_nat hlt, drop_cons hlt, getL, w64 (x := ((at_ + i : Nat) : Int) - at_) (by omega) (by omega)]
    generalize hcc : b[at_ + i] = c at hc ⊢
    rw [u64w (x := c) (by omega) (by omega)]
    have key : ∀ (h9 : ¬ (i = 9 ∧ c > 1)), stoaref02_Get.j2 (k + 1) b (at_ : Int) u (2 ^ (7 * i)) ((at_ + i : Nat) : Int) c false = some (match (if i = 9 ∧ c > 1 then .error 20 else if c ≥ 128 then (match getL (b.drop (at_ + i + 1)) (i + 1) with | .ok (v, n) => .ok (c - 128 + 128 * v, n + 1) | .error e => .error e)
        else if c = 0 ∧ i > 0 then .error 5 else .ok (c, 1) : Except Int (Int × Nat)) with | .ok (v, n) => (u + v * 2 ^ (7 * i), ((at_ + i : Nat) : Int) + n, 0) | .error e => (0, 0, e)) := by
      intro h9
      have hm : c % 128 < 2 ^ (64 - 7 * i) := by
        by_cases hi9 : i = 9
        · subst hi9; have : ¬ c > 1 := fun h => h9 ⟨rfl, h⟩; simp; omega
        · have : (2 : Int) ^ 8 ≤ 2 ^ (64 - 7 * i) := ipow_le (by decide) (by omega)
          omega
      have hpos : (0 : Int) < 2 ^ (7 * i) := Int.pow_pos (by decide)
      have e64 : (2 : Int) ^ 64 = 2 ^ (64 - 7 * i) * 2 ^ (7 * i) := by rw [← Int.pow_add]; congr 1; omega
      have hmul : c % 128 * 2 ^ (7 * i) ≤ (2 ^ (64 - 7 * i) - 1) * 2 ^ (7 * i) := Int.mul_le_mul_of_nonneg_right (by omega) (Int.le_of_lt hpos)
      have hge : 0 ≤ c % 128 * 2 ^ (7 * i) := Int.mul_nonneg (by omega) (Int.le_of_lt hpos)
      have hfit : u + c % 128 * 2 ^ (7 * i) < 2 ^ 64 := by
        rw [e64]; rw [Int.sub_mul] at hmul; omega
      have e5 : IntKind.u64.wrap (u + (IntKind.u64.wrap ((Int.tmod c 128) * 2 ^ (7 * i)))) = u + c % 128 * 2 ^ (7 * i) := by
        rw [Int.tmod_eq_emod_of_nonneg (by omega), u64w (x := c % 128 * 2 ^ (7 * i)) hge (by omega), u64w (by omega) (by omega)]
      simp only [stoaref02_Get.j2, Bool.false_eq_true, if_false]
      rw [e5, if_neg h9]
      by_cases h128 : c ≥ 128
      · have hi9 : i ≠ 9 := fun h => h9 ⟨h, by omega⟩
        have e7 : (2 : Int) ^ (7 * (i + 1)) = 2 ^ (7 * i) * 128 := by rw [Nat.mul_add, Int.pow_add]; rfl
        have hlt2 : u + c % 128 * 2 ^ (7 * i) < 2 ^ (7 * (i + 1)) := by
          have : c % 128 * 2 ^ (7 * i) ≤ 127 * 2 ^ (7 * i) := Int.mul_le_mul_of_nonneg_right (by omega) (Int.le_of_lt hpos)
          omega
        have hpw : (2 : Int) ^ (7 * (i + 1)) ≤ 2 ^ 63 := ipow_le (by decide) (by omega)
        rw [if_neg (by omega), if_pos h128, ← e7, u64w (x := (2 : Int) ^ (7 * (i + 1))) (by omega) (by omega), w64 (by omega) (by omega), show ((at_ + i : Nat) : Int) + 1 = (at_ : Int) + ((i + 1 : Nat) : Int) by omega,
          ih k (i + 1) _ (by omega) (by omega) (by omega) (by omega) (by omega) hlt2, show at_ + (i + 1) = at_ + i + 1 by omega]
        cases getL (b.drop (at_ + i + 1)) (i + 1) with
        | error e => rfl
        | ok p =>
          obtain ⟨v, n⟩ := p
          simp only [Option.some.injEq, Prod.mk.injEq, and_true]
          constructor
          · have e : (2 : Int) ^ (7 * (i + 1)) = 128 * 2 ^ (7 * i) := by rw [Nat.mul_add, Int.pow_add, Int.mul_comm]; rfl
            rw [e, show c % 128 = c - 128 by omega, Int.add_mul, Int.add_assoc]
            congr 2
            rw [← Int.mul_assoc, Int.mul_comm v 128]
          · omega
      · rw [if_pos (by omega), if_neg h128]
        have e6 : wrap64 (((at_ + i : Nat) : Int) + 1) = ((at_ + i : Nat) : Int) + (1 : Nat) := by rw [w64 (by omega) (by omega)]; omega
        by_cases h0 : c = 0
        · rw [if_pos h0]
          by_cases hi0 : ((at_ + i : Nat) : Int) > (at_ : Int)
          · rw [if_pos hi0, if_pos ⟨h0, by omega⟩]
          · rw [if_neg hi0, if_neg (by omega), e6, show c % 128 = c by omega]
        · rw [if_neg h0, if_neg (by omega), e6, show c % 128 = c by omega]
    by_cases hi9 : i = 9
    · rw [if_pos (by omega)]
      by_cases hc1 : c > 1
      · simp only [stoaref02_Get.j2, decide_eq_true hc1, if_true]
        rw [if_pos ⟨hi9, hc1⟩]
      · rw [decide_eq_false hc1]
        exact key (fun h => hc1 h.2)
    · rw [if_neg (by omega)]
      exact key (fun h => hi9 h.1)
theorem rget_at (b : List Int) (hb : Bytes b) (hl : b.length ≤ 140737488355328) (at_ : Int) (k : Nat) (hk : 22 ≤ k) : stoaref02_Get.f k b at_ = some (getR b at_) := by
  obtain ⟨k, rfl⟩ : ∃ m, k = m + 1 := ⟨k - 1, by omega⟩
  unfold stoaref02_Get.f getR
  by_cases h0 : at_ < 0
  · rw [if_pos h0, if_pos (Or.inl h0)]; simp [stoaref02_Get.j0]
  rw [if_neg h0]
  by_cases h1 : at_ > b.length
  · rw [if_pos (Or.inr h1)]; simp [stoaref02_Get.j0, h1]
  rw [if_neg (by omega)]
  simp only [stoaref02_Get.j0, h1, decide_false, Bool.false_eq_true, if_false]
  obtain ⟨a, rfl⟩ := Int.eq_ofNat_of_zero_le (Int.not_lt.1 h0)
  have := rget_l0 b hb hl a (by omega) 10 k 0 0 rfl (by omega) (by decide) (by omega) (by decide) (by decide)
  simp only [Int.natCast_zero, Nat.mul_zero, Int.pow_zero, Int.add_zero] at this
  rw [this]
  simp only [Nat.add_zero, Int.toNat_natCast, Nat.mul_zero, Int.pow_zero, Int.mul_one, Int.zero_add, Int.add_zero]

theorem rgetlist_l0 (b : List Int) (hb : Bytes b) (hl : b.length < 17592186044416) (c : Nat) (hc64 : c < 18446744073709551616) (M : Nat) : ∀ (at_ : Int) (acc : List Int) (i d k : Nat), 0 ≤ at_ → at_ ≤ b.length → (b.length : Int) < at_ + M → i + d = c → (acc.length : Int) ≤ at_ → M + 23 ≤ k →
    stoaref02_GetList.l0 k b c at_ acc i = some (match getNs b d at_ with | .ok (us, nx) => (acc ++ us, nx, 0) | .error e => ([], 0, e)) := by
  induction M with
  | zero => intro at_ acc i d k h0 h1 h2; omega
  | succ M ih =>
    intro at_ acc i d k h0 h1 h2 hi ha hk
    obtain ⟨k, rfl⟩ : ∃ m, k = m + 1 := ⟨k - 1, by omega⟩
    simp only [stoaref02_GetList.l0]
    cases d with
    | zero => rw [if_neg (by omega)]; simp [getNs]
    | succ d =>
      rw [if_pos (by omega), rget_at b hb (by omega) at_ k (by omega)]
      simp only [Option.bind_some, getNs]
      by_cases he : (getR b at_).2.2 = 0
      · obtain ⟨g1, g2, g3, g4, g5, g6, g7⟩ := getR_ok hb (getR_triple he)
        rw [if_pos he, if_pos he, if_pos (by omega), u64w (by omega) (by omega), show (i : Int) + 1 = ((i + 1 : Nat) : Int) by omega,
          ih _ _ (i + 1) d k (by omega) g3 (by omega) (by omega) (by rw [List.length_append, List.length_singleton]; omega) (by omega)]
        cases getNs b d (getR b at_).2.1 with
        | error e => rfl
        | ok p => simp
      · rw [if_neg he, if_neg he]
theorem rgetlist_at (b : List Int) (hb : Bytes b) (hl : b.length < 17592186044416) (at_ most : Int) (hm : most < 9223372036854775808) (k : Nat) (hk : b.length + 31 ≤ k) : stoaref02_GetList.f k b at_ most = some (getLs b at_ most) := by
  obtain ⟨k, rfl⟩ : ∃ m, k = m + 1 := ⟨k - 1, by omega⟩
  unfold stoaref02_GetList.f getLs
  rw [rget_at b hb (by omega) at_ (k + 1) (by omega)]
  simp only [Option.bind_some]
  by_cases he : (getR b at_).2.2 = 0
  · obtain ⟨g1, g2, g3, g4, g5, g6, g7⟩ := getR_ok hb (getR_triple he)
    have key : ∀ m : Int, 0 ≤ m → m < 9223372036854775808 → m = mx most 0 → stoaref02_GetList.j0 (k + 1) b m (getR b at_).1 (getR b at_).2.1 = some (if (getR b at_).1 > mx most 0 then ([], 0, 4) else match getNs b (getR b at_).1.toNat (getR b at_).2.1 with | .ok (us, nx) => (us, nx, 0) | .error e => ([], 0, e)) := by
      intro m h0 h1 hm
      subst hm
      simp only [stoaref02_GetList.j0]
      rw [u64w h0 (by omega)]
      by_cases hc : (getR b at_).1 > mx most 0
      · rw [if_pos hc, if_pos hc]
      · rw [if_neg hc, if_neg hc]
        have := rgetlist_l0 b hb hl (getR b at_).1.toNat (by omega) (b.length + 1) (getR b at_).2.1 [] 0 (getR b at_).1.toNat k (by omega) g3 (by omega) (by omega) (by simp only [List.length_nil]; omega) (by omega)
        rw [Int.toNat_of_nonneg g5] at this
        simp only [Int.natCast_zero, List.nil_append] at this
        rw [this]
    rw [if_pos he, if_pos he]
    by_cases hneg : most < 0
    · rw [if_pos hneg]; exact key 0 (by omega) (by omega) (by unfold mx; rw [if_pos hneg])
    · rw [if_neg hneg]; exact key most (by omega) (by omega) (by unfold mx; rw [if_neg hneg])
  · rw [if_neg he, if_neg he]

theorem lists_l0 (b ls x us : List Int) (hu : us.length ≤ 17592186044416) (K : Nat) (hI : ∀ k, K ≤ k → stoaref01_Intact.f k (b ++ marks) b = some true) (hS : ∀ k, K ≤ k → stoaref01_SameNumbers.f k us us = some true) (d : Nat) : ∀ (k i : Nat) (xs : List Int), i + d = xs.length → xs.length ≤ 140737488355328 → d + K < k →
    stoalaw02_VintLists.l0 k b (b ++ marks) xs us us (xs.length : Int) i = some true := by
  induction d with
  | zero =>
    intro k i xs hi hx hk
    obtain ⟨k, rfl⟩ : ∃ m, k = m + 1 := ⟨k - 1, by omega⟩
    simp only [stoalaw02_VintLists.l0]
    rw [if_neg (by omega), hS k (by omega), Option.bind_some, if_pos rfl, hI k (by omega), Option.bind_some]
  | succ d ih =>
    intro k i xs hi hx hk
    obtain ⟨k, rfl⟩ : ∃ m, k = m + 1 := ⟨k - 1, by omega⟩
    simp only [stoalaw02_VintLists.l0]
    rw [if_pos (by omega), if_pos (by omega), if_pos (by omega), wsucc (by omega)]
    have := ih k (i + 1) (xs.set (i : Int).toNat (IntKind.u64.wrap (rd xs i + 1))) (by rw [List.length_set]; omega) (by rw [List.length_set]; omega) (by omega)
    rw [List.length_set] at this
    exact this
theorem VintLists : stoalaw02_VintLists.PureUpto := by
  intro b a m _ _ hb ha hm hbulk
  have hb := bytesWf hb
  have ha := i64Wf ha
  have hm := i64Wf hm
  have hlen : (getLs b a m).1.length ≤ 1048576 := by
    by_cases he : (getLs b a m).2.2 = 0
    · obtain ⟨g1, g2, g3, g4, g5, g6, g7⟩ := getLs_ok hb (getLs_triple he); omega
    · rw [(getLs_bad2 he).1]; simp
  obtain ⟨K1, h1⟩ := alive_ev
  obtain ⟨K2, h2⟩ := wide_ev b (by omega)
  obtain ⟨K3, h3⟩ := intact_ev b (by omega)
  obtain ⟨K4, h4⟩ := samen_ev (getLs b a m).1 (getLs b a m).1 (by omega)
  obtain ⟨k, hk⟩ : ∃ k, k = K1 + K2 + K3 + K4 + b.length + 1048676 := ⟨_, rfl⟩
  refine ⟨k + 1, ?_⟩
  simp only [stoalaw02_VintLists.f]
  rw [h1 _ (by omega)]; simp only [Option.bind_some, if_true]
  rw [h2 _ (by omega)]; simp only [Option.bind_some]
  rw [if_pos (by omega), if_pos (by rw [List.length_append]; omega), Int.toNat_natCast, List.take_left, getlist_at b hb (by omega) a m hm.2 _ (by omega)]; simp only [Option.bind_some]
  rw [rgetlist_at b hb (by omega) a m hm.2 _ (by omega)]; simp only [Option.bind_some, if_true]
  rw [h4 _ (by omega)]; simp only [Option.bind_some, decide_true, if_true, Bool.not_true]
  simp only [stoalaw02_VintLists.j0, Bool.false_eq_true, if_false]
  have hl := lists_l0 b (b ++ marks) [] (getLs b a m).1 (by omega) (K3 + K4) (fun k hk => h3 k (by omega)) (fun k hk => by rw [h4 k (by omega)]; simp) (getLs b a m).1.length k 0 (getLs b a m).1 (by omega) (by omega) (by omega)
  simpa using hl

end Go.Proofs.Ytlfjelfafcaepaa.Pure
