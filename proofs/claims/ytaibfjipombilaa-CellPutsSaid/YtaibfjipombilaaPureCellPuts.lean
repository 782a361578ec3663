/- Put answers as the document says at all kinds and cells; the cell is as it was, the bytes new memory. No condition. -/
import Derived.Test.YtaibfjipombilaaPCellPutsx9
import Derived.Laws.BitsLemmas
set_option linter.unusedVariables false
set_option linter.unusedSimpArgs false
set_option maxRecDepth 20000
namespace Go.Proofs.Ytaibfjipombilaa.Pure
open Go.RowKit Go.Proofs.Ytaibfjipombilaa.PCellPuts Go.Proofs.YtaibfjipombilaaW.PrintWords Go.Proofs.YtaibfjipombilaaW.PrintLast Go.Proofs.YtaibfjipombilaaW.PrintMore

/-! ### base: numbers, lists (no program in sight) -/
theorem w64 {x : Int} (h0 : -9223372036854775808 ≤ x) (h1 : x ≤ 9223372036854775807) : wrap64 x = x := by
  unfold wrap64; omega
theorem u64r (x : Int) : IntKind.u64.wrap x = x % 18446744073709551616 := by
  simp [IntKind.wrap, IntKind.bits, IntKind.signed]
theorem u32r (x : Int) : IntKind.u32.wrap x = x % 4294967296 := by
  simp [IntKind.wrap, IntKind.bits, IntKind.signed]
theorem u64w {x : Int} (h0 : 0 ≤ x) (h1 : x < 18446744073709551616) : IntKind.u64.wrap x = x := by
  rw [u64r]; omega
theorem wsucc {i : Nat} (h : i < 9223372036854775807) : wrap64 ((i : Int) + 1) = ((i + 1 : Nat) : Int) := by
  unfold wrap64; omega
theorem byteWf {x : Int} (h : (Lit.int .u8 x).wf = true) : 0 ≤ x ∧ x < 256 := by
  simp [Lit.wf, IntKind.min, IntKind.max, IntKind.signed, IntKind.bits] at h
  omega
theorem u64Wf {x : Int} (h : (Lit.int .u64 x).wf = true) : 0 ≤ x ∧ x < 18446744073709551616 := by
  simp [Lit.wf, IntKind.min, IntKind.max, IntKind.signed, IntKind.bits] at h
  omega
theorem i64Wf {x : Int} (h : (Lit.int .i64 x).wf = true) : -9223372036854775808 ≤ x ∧ x < 9223372036854775808 := by
  simp [Lit.wf, IntKind.min, IntKind.max, IntKind.signed, IntKind.bits] at h
  omega
def Bytes (l : List Int) : Prop := ∀ x ∈ l, 0 ≤ x ∧ x < 256
def U64s (l : List Int) : Prop := ∀ x ∈ l, 0 ≤ x ∧ x < 18446744073709551616
theorem bytesWf {l : List Int} (h : ∀ x ∈ l, (Lit.int .u8 x).wf = true) : Bytes l := fun x hx => byteWf (h x hx)
theorem u64sWf {l : List Int} (h : ∀ x ∈ l, (Lit.int .u64 x).wf = true) : U64s l := fun x hx => u64Wf (h x hx)
theorem Bytes.app {a b : List Int} (ha : Bytes a) (hb : Bytes b) : Bytes (a ++ b) := fun x hx => (List.mem_append.1 hx).elim (ha x) (hb x)
theorem Bytes.left {a b : List Int} (h : Bytes (a ++ b)) : Bytes a := fun x hx => h x (List.mem_append_left _ hx)
theorem Bytes.right {a b : List Int} (h : Bytes (a ++ b)) : Bytes b := fun x hx => h x (List.mem_append_right _ hx)
theorem Bytes.drop {a : List Int} (h : Bytes a) (n : Nat) : Bytes (a.drop n) := fun x hx => h x (List.mem_of_mem_drop hx)
theorem Bytes.take {a : List Int} (h : Bytes a) (n : Nat) : Bytes (a.take n) := fun x hx => h x (List.mem_of_mem_take hx)
theorem U64s.drop {a : List Int} (h : U64s a) (n : Nat) : U64s (a.drop n) := fun x hx => h x (List.mem_of_mem_drop hx)
theorem U64s.take {a : List Int} (h : U64s a) (n : Nat) : U64s (a.take n) := fun x hx => h x (List.mem_of_mem_take hx)
theorem rd_nat {l : List Int} {i : Nat} (h : i < l.length) : rd l (i : Int) = l[i] := by
  simp [rd, List.getD_eq_getElem?_getD, h]
theorem rd_int {l : List Int} {i : Int} (h0 : 0 ≤ i) (h : i.toNat < l.length) : rd l i = l[i.toNat] := by
  simp [rd, List.getD_eq_getElem?_getD, h]
theorem drop_cons {l : List Int} {i : Nat} (h : i < l.length) : l.drop i = l[i] :: l.drop (i + 1) := List.drop_eq_getElem_cons h
theorem take_succ_snoc {l : List Int} {i : Nat} (h : i < l.length) : l.take (i + 1) = l.take i ++ [l[i]] := by rw [List.take_add_one, List.getElem?_eq_getElem h]; rfl
theorem pow_pos' (n : Nat) : (0 : Int) < 128 ^ n := Int.pow_pos (by decide)
theorem pow128 (n : Nat) : (128 : Int) ^ n = 2 ^ (7 * n) := by rw [Int.pow_mul]; rfl
theorem ipow_le {b : Int} (hb : 1 ≤ b) {m n : Nat} (h : m ≤ n) : b ^ m ≤ b ^ n := by
  obtain ⟨a, rfl⟩ := Int.eq_ofNat_of_zero_le (show 0 ≤ b by omega)
  exact_mod_cast Nat.pow_le_pow_right (by omega) h

theorem copy_l0 (a : List Int) (hl : a.length ≤ 140737488355328) (d : Nat) : ∀ (k i : Nat), i + d = a.length → d < k →
    stoaref01_Copy.l0 k a (a.take i) i = some a := by
  induction d with
  | zero =>
    intro k i hi hk
    obtain ⟨k, rfl⟩ : ∃ m, k = m + 1 := ⟨k - 1, by omega⟩
    simp only [stoaref01_Copy.l0]
    rw [if_neg (by omega), List.take_of_length_le (by omega)]
  | succ d ih =>
    intro k i hi hk
    obtain ⟨k, rfl⟩ : ∃ m, k = m + 1 := ⟨k - 1, by omega⟩
    have h1 : i < a.length := by omega
    simp only [stoaref01_Copy.l0]
    rw [if_pos (by omega), if_pos (by omega), if_pos (by rw [List.length_take]; omega), rd_nat h1, wsucc (by omega), ← take_succ_snoc h1]
    exact ih k (i + 1) (by omega) (by omega)
theorem copy_ev (a : List Int) (hl : a.length ≤ 140737488355328) : ∃ K, ∀ k, K ≤ k → stoaref01_Copy.f k a = some a := by
  refine ⟨a.length + 1, fun k hk => ?_⟩
  have := copy_l0 a hl a.length k 0 (by omega) (by omega)
  simpa [stoaref01_Copy.f] using this

theorem same_l0 (a b : List Int) (hab : a.length = b.length) (hl : a.length ≤ 140737488355328) (d : Nat) : ∀ (k i : Nat), i + d = a.length → d < k →
    stoaref01_Same.l0 k a b i = some (decide (a.drop i = b.drop i)) := by
  induction d with
  | zero =>
    intro k i hi hk
    obtain ⟨k, rfl⟩ : ∃ m, k = m + 1 := ⟨k - 1, by omega⟩
    simp only [stoaref01_Same.l0]
    rw [if_neg (by omega), List.drop_eq_nil_of_le (by omega), List.drop_eq_nil_of_le (by omega)]; simp
  | succ d ih =>
    intro k i hi hk
    obtain ⟨k, rfl⟩ : ∃ m, k = m + 1 := ⟨k - 1, by omega⟩
    have h1 : i < a.length := by omega
    have h2 : i < b.length := by omega
    simp only [stoaref01_Same.l0]
    rw [if_pos (by omega), if_pos (by omega), if_pos (by omega), rd_nat h1, rd_nat h2, wsucc (by omega), show a.drop i = a[i] :: a.drop (i + 1) from drop_cons h1, show b.drop i = b[i] :: b.drop (i + 1) from drop_cons h2]
    by_cases e : a[i] = b[i]
    · rw [if_pos e, ih k (i + 1) (by omega) (by omega)]; simp only [e, List.cons.injEq, true_and]
    · rw [if_neg e]; simp only [e, List.cons.injEq, false_and, decide_false]
theorem same_at (a b : List Int) (hl : a.length ≤ 140737488355328) (k : Nat) (hk : a.length + 1 ≤ k) : stoaref01_Same.f k a b = some (decide (a = b)) := by
  simp only [stoaref01_Same.f]
  by_cases h : a.length = b.length
  · rw [if_pos (by omega)]
    have := same_l0 a b h hl a.length k 0 (by omega) (by omega)
    simpa using this
  · rw [if_neg (by omega)]
    have : a ≠ b := fun e => h (by rw [e])
    simp [this]
theorem same_ev (a b : List Int) (hl : a.length ≤ 140737488355328) : ∃ K, ∀ k, K ≤ k → stoaref01_Same.f k a b = some (decide (a = b)) :=
  ⟨_, fun k hk => same_at a b hl k hk⟩

def turn90 (c : Int) : Int := Go.bits .xor .u8 c 90
theorem spoil_l0 (a : List Int) (hl : a.length ≤ 140737488355328) (d : Nat) : ∀ (k i : Nat), i + d = a.length → d < k →
    stoaref01_Spoil.l0 k ((a.take i).map turn90 ++ a.drop i) i = some (a.map turn90) := by
  induction d with
  | zero =>
    intro k i hi hk
    obtain ⟨k, rfl⟩ : ∃ m, k = m + 1 := ⟨k - 1, by omega⟩
    simp only [stoaref01_Spoil.l0]
    rw [if_neg (by rw [List.length_append, List.length_map, List.length_take, List.length_drop]; omega), List.take_of_length_le (by omega), List.drop_eq_nil_of_le (by omega), List.append_nil]
  | succ d ih =>
    intro k i hi hk
    obtain ⟨k, rfl⟩ : ∃ m, k = m + 1 := ⟨k - 1, by omega⟩
    have h1 : i < a.length := by omega
    have hlen : ((a.take i).map turn90 ++ a.drop i).length = a.length := by rw [List.length_append, List.length_map, List.length_take, List.length_drop]; omega
    have hti : ((a.take i).map turn90).length = i := by rw [List.length_map, List.length_take]; omega
    have hrd : rd ((a.take i).map turn90 ++ a.drop i) (i : Int) = a[i] := by
      rw [rd_nat (by omega), List.getElem_append_right (by omega)]
      simp only [hti, Nat.sub_self, List.getElem_drop, Nat.add_zero]
    have hset : ((a.take i).map turn90 ++ a.drop i).set i (turn90 a[i]) = (a.take (i + 1)).map turn90 ++ a.drop (i + 1) := by
      rw [List.set_append_right _ _ (by omega), hti, Nat.sub_self, show a.drop i = a[i] :: a.drop (i + 1) from drop_cons h1, List.set_cons_zero, take_succ_snoc h1, List.map_append, List.append_assoc]; rfl
    simp only [stoaref01_Spoil.l0]
    rw [if_pos (by omega), if_pos (by omega), hrd, Int.toNat_natCast, wsucc (by omega), show Go.bits .xor .u8 a[i] 90 = turn90 a[i] from rfl, hset]
    exact ih k (i + 1) (by omega) (by omega)
theorem spoil_at (a : List Int) (hl : a.length ≤ 140737488355328) (k : Nat) (hk : a.length + 1 ≤ k) : stoaref01_Spoil.f k a = some (a.map turn90) := by
  have := spoil_l0 a hl a.length k 0 (by omega) (by omega)
  simpa [stoaref01_Spoil.f] using this
theorem turned_l0 (a : List Int) (hl : a.length ≤ 140737488355328) (d : Nat) : ∀ (k i : Nat), i + d = a.length → d < k → stoaref01_Turned.l0 k (a.map turn90) a i = some true := by
  induction d with
  | zero =>
    intro k i hi hk
    obtain ⟨k, rfl⟩ : ∃ m, k = m + 1 := ⟨k - 1, by omega⟩
    simp only [stoaref01_Turned.l0]
    rw [if_neg (by omega)]
  | succ d ih =>
    intro k i hi hk
    obtain ⟨k, rfl⟩ : ∃ m, k = m + 1 := ⟨k - 1, by omega⟩
    have h1 : i < a.length := by omega
    have h2 : i < (a.map turn90).length := by rw [List.length_map]; omega
    simp only [stoaref01_Turned.l0]
    rw [if_pos (by omega), if_pos (by omega), if_pos (by omega), rd_nat h2, rd_nat h1, List.getElem_map, if_pos (show turn90 a[i] = Go.bits .xor .u8 a[i] 90 from rfl), wsucc (by omega)]
    exact ih k (i + 1) (by omega) (by omega)
theorem turned_at (a : List Int) (hl : a.length ≤ 140737488355328) (k : Nat) (hk : a.length + 1 ≤ k) : stoaref01_Turned.f k (a.map turn90) a = some true := by
  have := turned_l0 a hl a.length k 0 (by omega) (by omega)
  unfold stoaref01_Turned.f
  rw [List.length_map, if_pos rfl]; exact this
theorem apart_at (a : List Int) (hl : a.length < 140737488355200) (k : Nat) (hk : a.length + 3 ≤ k) : stoaref01_Apart.f k a a a = some (true, a.map turn90) := by
  obtain ⟨k, rfl⟩ : ∃ m, k = m + 1 := ⟨k - 1, by omega⟩
  unfold stoaref01_Apart.f
  rw [if_pos hl, same_at a a (by omega) _ (by omega), Option.bind_some, decide_eq_true rfl, if_pos rfl, Option.bind_some, Bool.not_true]
  simp only [stoaref01_Apart.j0]
  rw [if_neg (by decide), spoil_at a (by omega) k (by omega), Option.bind_some, w64 (by omega) (by omega), if_pos (by omega), turned_at a (by omega) k (by omega), Option.bind_some, if_pos rfl, same_at a a (by omega) k (by omega), Option.bind_some, decide_eq_true rfl]

theorem alive_ev : ∃ K, ∀ k, K ≤ k → stoalaw05_alive.f k = some true := by
  have h : stoalaw05_alive.f 40 = some true := by decide +kernel
  exact Ev.of (fun k => stoalaw05_alive.mono k) h

/-! ### m_bits: or, and, shifts as arithmetic -/
theorem wraps_u64 (n : Int) (h0 : 0 ≤ n) (h1 : n < 2 ^ 64) : IntKind.u64.wrap n = n := by
  rw [u64r]; omega
theorem and127 {x : Int} (h0 : 0 ≤ x) (h1 : x < 256) : Go.bits .and .u8 x 127 = x % 128 := Go.bits_mask .u8 8 (by decide) Go.wraps_u8 7 (by decide) x h0 h1
/-- A number below 2^j, and one whose lowest j bits are 0: 'or' adds. -/
theorem or_low {j : Nat} {x y : Int} (hx0 : 0 ≤ x) (hx : x < 2 ^ j) (hy0 : 0 ≤ y) (hb : x + y * 2 ^ j < 2 ^ 64) :
    Go.bits .or .u64 x (y * 2 ^ j) = x + y * 2 ^ j := by
  have hp : (0 : Int) < 2 ^ j := Int.pow_pos (by decide)
  obtain ⟨a, rfl⟩ := Int.eq_ofNat_of_zero_le hx0
  obtain ⟨b, rfl⟩ := Int.eq_ofNat_of_zero_le hy0
  have ha : a < 2 ^ j := by exact_mod_cast hx
  have hab : a + b * 2 ^ j < 2 ^ 64 := by exact_mod_cast hb
  have e : ((b : Int) * 2 ^ j) = ((2 ^ j * b : Nat) : Int) := by rw [Nat.mul_comm]; simp
  have hc : a + 2 ^ j * b < 2 ^ 64 := by rw [Nat.mul_comm]; exact hab
  rw [e, (Go.bits_nat .u64 64 (by decide) wraps_u64 a (2 ^ j * b) (by omega) (by omega)).2, Nat.or_comm, ← Nat.two_pow_add_eq_or_of_lt ha b]
  omega
theorem shl64 {x y : Int} (hx : 0 ≤ x) {n : Nat} (hy : y = n) (hn : n ≤ 64) (hb : x * 2 ^ n < 2 ^ 64) : shl .u64 x y = x * 2 ^ n := by
  subst hy
  have : (0 : Int) ≤ x * 2 ^ n := Int.mul_nonneg hx (Int.le_of_lt (Int.pow_pos (by decide)))
  have e : min n IntKind.u64.bits = n := by simp only [IntKind.bits]; omega
  unfold shl
  rw [Int.toNat_natCast, e, wraps_u64 _ this hb]

/-! ### m_vint: numbers in as few bytes as they need, by definition -/
def putL (u : Nat) : List Int := if u < 128 then [(u : Int)] else ((u % 128 + 128 : Nat) : Int) :: putL (u / 128)
theorem putL_small {u : Nat} (h : u < 128) : putL u = [(u : Int)] := by rw [putL, if_pos h]
theorem putL_big {u : Nat} (h : ¬ u < 128) : putL u = ((u % 128 + 128 : Nat) : Int) :: putL (u / 128) := by rw [putL, if_neg h]
def getL : List Int → Nat → Except Int (Int × Nat)
  | [], _ => .error 2
  | c :: r, i => if i = 9 ∧ c > 1 then .error 20 else if c ≥ 128 then (match getL r (i + 1) with | .ok (v, n) => .ok (c - 128 + 128 * v, n + 1) | .error e => .error e)
    else if c = 0 ∧ i > 0 then .error 5 else .ok (c, 1)
theorem putL_bytes (n : Nat) : ∀ u, u < n → Bytes (putL u) := by
  induction n with
  | zero => intro u h; omega
  | succ n ih =>
    intro u h
    by_cases hu : u < 128
    · rw [putL_small hu]; intro x hx; simp only [List.mem_singleton] at hx; omega
    · rw [putL_big hu]; intro x hx
      rcases List.mem_cons.1 hx with rfl | hx
      · omega
      · exact ih (u / 128) (by omega) x hx
theorem putL_pos (u : Nat) : 1 ≤ (putL u).length := by
  by_cases hu : u < 128
  · rw [putL_small hu]; simp
  · rw [putL_big hu]; simp
/-- How long the bytes are: bounds on the number. -/
theorem putL_len (n : Nat) : ∀ u, u < n → u < 2 ^ (7 * (putL u).length) ∧ (2 ≤ (putL u).length → 2 ^ (7 * ((putL u).length - 1)) ≤ u) := by
  induction n with
  | zero => intro u h; omega
  | succ n ih =>
    intro u h
    by_cases hu : u < 128
    · rw [putL_small hu]; simp; omega
    · rw [putL_big hu]
      obtain ⟨h1, h2⟩ := ih (u / 128) (by omega)
      have hp := putL_pos (u / 128)
      simp only [List.length_cons, Nat.add_sub_cancel]
      have e : 2 ^ (7 * ((putL (u / 128)).length + 1)) = 2 ^ (7 * (putL (u / 128)).length) * 128 := by rw [Nat.mul_add, Nat.pow_add]
      refine ⟨by rw [e]; omega, fun _ => ?_⟩
      by_cases hl : 2 ≤ (putL (u / 128)).length
      · have h3 := h2 hl
        have e2 : 2 ^ (7 * (putL (u / 128)).length) = 2 ^ (7 * ((putL (u / 128)).length - 1)) * 128 := by
          rw [show 7 * (putL (u / 128)).length = 7 * ((putL (u / 128)).length - 1) + 7 by omega, Nat.pow_add]
        rw [e2]; omega
      · rw [show (putL (u / 128)).length = 1 by omega]; omega
theorem putL_len_le {u j : Nat} (hj : 1 ≤ j) (h : u < 2 ^ (7 * j)) : (putL u).length ≤ j := by
  obtain ⟨_, h2⟩ := putL_len (u + 1) u (by omega)
  refine Decidable.byContradiction fun hc => ?_
  have h3 := h2 (by omega)
  have : 2 ^ (7 * j) ≤ 2 ^ (7 * ((putL u).length - 1)) := Nat.pow_le_pow_right (by decide) (by omega)
  omega
theorem putL_len10 {u : Nat} (h : u < 18446744073709551616) : (putL u).length ≤ 10 :=
  putL_len_le (by decide) (Nat.lt_trans h (by decide))
theorem putL_mono {u v : Nat} (h : u ≤ v) : (putL u).length ≤ (putL v).length := by
  obtain ⟨h1, _⟩ := putL_len (v + 1) v (by omega)
  exact putL_len_le (putL_pos v) (by omega)
/-- What is got: its bounds. -/
theorem getL_ok : ∀ (b : List Int) (i : Nat) (v : Int) (n : Nat), Bytes b → i ≤ 9 → getL b i = .ok (v, n) →
    0 ≤ v ∧ v < 2 ^ (64 - 7 * i) ∧ 1 ≤ n ∧ n ≤ b.length ∧ n + i ≤ 10 := by
  intro b
  induction b with
  | nil => intro i v n _ _ h; simp [getL] at h
  | cons c r ih =>
    intro i v n hb hi h
    have hc := hb c (List.mem_cons_self)
    have hr : Bytes r := fun x hx => hb x (List.mem_cons_of_mem _ hx)
    rw [getL] at h
    by_cases h9 : i = 9 ∧ c > 1
    · rw [if_pos h9] at h; simp at h
    rw [if_neg h9] at h
    by_cases h128 : c ≥ 128
    · rw [if_pos h128] at h
      have hi8 : i + 1 ≤ 9 := by omega
      cases hg : getL r (i + 1) with
      | error e => rw [hg] at h; simp at h
      | ok p =>
        obtain ⟨v', n'⟩ := p
        rw [hg] at h
        simp only [Except.ok.injEq, Prod.mk.injEq] at h
        obtain ⟨rfl, rfl⟩ := h
        obtain ⟨g1, g2, g3, g4, g5⟩ := ih (i + 1) v' n' hr hi8 hg
        have e : (2 : Int) ^ (64 - 7 * i) = 2 ^ (64 - 7 * (i + 1)) * 128 := by
          rw [show 64 - 7 * i = 64 - 7 * (i + 1) + 7 by omega, Int.pow_add]; rfl
        refine ⟨by omega, by rw [e]; omega, by omega, by simp only [List.length_cons]; omega, by omega⟩
    · rw [if_neg h128] at h
      by_cases h0 : c = 0 ∧ i > 0
      · rw [if_pos h0] at h; simp at h
      rw [if_neg h0] at h
      simp only [Except.ok.injEq, Prod.mk.injEq] at h
      obtain ⟨rfl, rfl⟩ := h
      refine ⟨by omega, ?_, by omega, by simp, by omega⟩
      by_cases hi9 : i = 9
      · subst hi9; have : ¬ c > 1 := fun h => h9 ⟨rfl, h⟩; simp; omega
      · have : (2 : Int) ^ 8 ≤ 2 ^ (64 - 7 * i) := ipow_le (by decide) (by omega)
        omega
/-- What was put is got again. -/
theorem getL_putL (n : Nat) : ∀ (u i : Nat) (rest : List Int), u < n → i ≤ 9 → u < 2 ^ (64 - 7 * i) → (i > 0 → u > 0) → getL (putL u ++ rest) i = .ok ((u : Int), (putL u).length) := by
  induction n with
  | zero => intro u i rest h; omega
  | succ n ih =>
    intro u i rest h hi hu hp
    by_cases hs : u < 128
    · rw [putL_small hs]
      simp only [List.singleton_append, getL, List.length_singleton]
      rw [if_neg, if_neg (by omega), if_neg (by omega)]
      rintro ⟨rfl, h1⟩
      simp at hu; omega
    · rw [putL_big hs]
      simp only [List.cons_append, getL, List.length_cons]
      have hi8 : i + 1 ≤ 9 := by
        refine Decidable.byContradiction fun hc => ?_
        have : i = 9 := by omega
        subst this; simp at hu; omega
      have e : (2 : Nat) ^ (64 - 7 * i) = 2 ^ (64 - 7 * (i + 1)) * 128 := by
        rw [show 64 - 7 * i = 64 - 7 * (i + 1) + 7 by omega, Nat.pow_add]
      rw [if_neg (by omega), if_pos (by omega), ih (u / 128) (i + 1) rest (by omega) hi8 (by omega) (by omega)]
      simp only [Except.ok.injEq, Prod.mk.injEq, and_true]
      omega
/-- A piece of what was put isn't enough. -/
theorem getL_short (n : Nat) : ∀ (u i m : Nat), u < n → i ≤ 9 → u < 2 ^ (64 - 7 * i) → m < (putL u).length → getL ((putL u).take m) i = .error 2 := by
  induction n with
  | zero => intro u i m h; omega
  | succ n ih =>
    intro u i m h hi hu hm
    cases m with
    | zero => simp [getL]
    | succ m =>
      by_cases hs : u < 128
      · rw [putL_small hs] at hm; simp at hm
      · rw [putL_big hs] at hm ⊢
        simp only [List.length_cons] at hm
        simp only [List.take_succ_cons, getL]
        have hi8 : i + 1 ≤ 9 := by
          refine Decidable.byContradiction fun hc => ?_
          have : i = 9 := by omega
          subst this; simp at hu; omega
        have e : (2 : Nat) ^ (64 - 7 * i) = 2 ^ (64 - 7 * (i + 1)) * 128 := by
          rw [show 64 - 7 * i = 64 - 7 * (i + 1) + 7 by omega, Nat.pow_add]
        rw [if_neg (by omega), if_pos (by omega), ih (u / 128) (i + 1) m (by omega) hi8 (by omega) (by omega)]
/-- Bytes that are got are the only ones. -/
theorem getL_only : ∀ (b : List Int) (i : Nat) (v : Int) (n : Nat), Bytes b → i ≤ 9 → getL b i = .ok (v, n) → putL v.toNat = b.take n ∧ (i > 0 → 0 < v) := by
  intro b
  induction b with
  | nil => intro i v n _ _ h; simp [getL] at h
  | cons c r ih =>
    intro i v n hb hi h
    have hc := hb c (List.mem_cons_self)
    have hr : Bytes r := fun x hx => hb x (List.mem_cons_of_mem _ hx)
    rw [getL] at h
    by_cases h9 : i = 9 ∧ c > 1
    · rw [if_pos h9] at h; simp at h
    rw [if_neg h9] at h
    by_cases h128 : c ≥ 128
    · rw [if_pos h128] at h
      have hi8 : i + 1 ≤ 9 := by omega
      cases hg : getL r (i + 1) with
      | error e => rw [hg] at h; simp at h
      | ok p =>
        obtain ⟨v', n'⟩ := p
        rw [hg] at h
        simp only [Except.ok.injEq, Prod.mk.injEq] at h
        obtain ⟨rfl, rfl⟩ := h
        obtain ⟨g1, g2⟩ := ih (i + 1) v' n' hr hi8 hg
        obtain ⟨q1, _⟩ := getL_ok r (i + 1) v' n' hr hi8 hg
        have g3 := g2 (by omega)
        refine ⟨?_, fun _ => by omega⟩
        rw [putL_big (by omega), show (c - 128 + 128 * v').toNat / 128 = v'.toNat by omega, g1, List.take_succ_cons]
        congr 1; omega
    · rw [if_neg h128] at h
      by_cases h0 : c = 0 ∧ i > 0
      · rw [if_pos h0] at h; simp at h
      rw [if_neg h0] at h
      simp only [Except.ok.injEq, Prod.mk.injEq] at h
      obtain ⟨rfl, rfl⟩ := h
      refine ⟨?_, by omega⟩
      rw [putL_small (by omega)]; simp; omega
/-- The answer of Get. -/
def getR (b : List Int) (at_ : Int) : Int × Int × Int :=
  if at_ < 0 ∨ at_ > b.length then (0, 0, 1) else match getL (b.drop at_.toNat) 0 with
    | .ok (v, n) => (v, at_ + n, 0)
    | .error e => (0, 0, e)
theorem getL_err : ∀ (b : List Int) (i : Nat) (e : Int), getL b i = .error e → e = 2 ∨ e = 20 ∨ e = 5 := by
  intro b
  induction b with
  | nil => intro i e h; simp only [getL, Except.error.injEq] at h; omega
  | cons c r ih =>
    intro i e h
    rw [getL] at h
    split at h
    · simp only [Except.error.injEq] at h; omega
    split at h
    · split at h
      · simp at h
      · rename_i e' hg; simp only [Except.error.injEq] at h; subst h; exact ih _ _ hg
    split at h
    · simp only [Except.error.injEq] at h; omega
    · simp at h
theorem getR_ok {b : List Int} {at_ v nx : Int} (hb : Bytes b) (h : getR b at_ = (v, nx, 0)) :
    0 ≤ at_ ∧ at_ < nx ∧ nx ≤ b.length ∧ nx ≤ at_ + 10 ∧ 0 ≤ v ∧ v < 18446744073709551616 ∧ putL v.toNat = (b.take nx.toNat).drop at_.toNat := by
  unfold getR at h
  split at h
  · simp at h
  rename_i ha
  split at h
  · rename_i v' n hg
    simp only [Prod.mk.injEq, and_true] at h
    obtain ⟨rfl, rfl⟩ := h
    obtain ⟨g1, g2, g3, g4, g5⟩ := getL_ok _ 0 _ _ (hb.drop _) (by decide) hg
    obtain ⟨q1, _⟩ := getL_only _ 0 _ _ (hb.drop _) (by decide) hg
    rw [List.length_drop] at g4
    refine ⟨by omega, by omega, by omega, by omega, g1, by simpa using g2, ?_⟩
    rw [q1, List.drop_take, show (at_ + (n : Int)).toNat - at_.toNat = n by omega]
  · rename_i e hg
    have := getL_err _ _ _ hg
    simp only [Prod.mk.injEq] at h
    omega
theorem getR_bad {b : List Int} {at_ v nx e : Int} (h : getR b at_ = (v, nx, e)) (he : e ≠ 0) : v = 0 ∧ nx = 0 := by
  unfold getR at h
  split at h
  · simp only [Prod.mk.injEq] at h; omega
  split at h
  · simp only [Prod.mk.injEq] at h; omega
  · simp only [Prod.mk.injEq] at h; omega
theorem getR_put (a c : List Int) {u : Nat} (hu : u < 18446744073709551616) : getR (a ++ putL u ++ c) (a.length : Int) = ((u : Int), (a.length : Int) + (putL u).length, 0) := by
  unfold getR
  rw [if_neg (by simp only [List.length_append]; omega), Int.toNat_natCast, List.append_assoc, List.drop_left, getL_putL (u + 1) u 0 c (by omega) (by decide) (by simpa using hu) (by omega)]
theorem getR_bad2 {b : List Int} {at_ : Int} (he : (getR b at_).2.2 ≠ 0) : (getR b at_).1 = 0 ∧ (getR b at_).2.1 = 0 := getR_bad (b := b) (at_ := at_) (v := (getR b at_).1) (nx := (getR b at_).2.1) (e := (getR b at_).2.2) rfl he

def foldI (v : Int) : Int := if 0 ≤ v then 2 * v else -2 * v - 1
def unfoldI (u : Int) : Int := if u % 2 = 0 then u / 2 else -(u / 2) - 1

/-! ### m_cell: one value of a table, by definition -/
theorem zero_in : ∀ l : List Int, Bytes l → (0 ≤ Lib.indexByte (Lib.bytesOf l) (0 : Int).toNat.toUInt8 ↔ 0 ∈ l)
  | [], _ => by simp [Lib.bytesOf, Lib.indexByte]
  | x :: l, h => by
    have hx := h x List.mem_cons_self
    have ih := zero_in l (fun y hy => h y (List.mem_cons_of_mem _ hy))
    have hge := Lib.indexByte_ge (Lib.bytesOf l) (0 : Int).toNat.toUInt8
    have hb : Lib.bytesOf (x :: l) = UInt8.ofNat x.toNat :: Lib.bytesOf l := rfl
    rw [hb, Lib.indexByte]
    by_cases h0 : x = 0
    · subst h0; simp
    · have hne : (UInt8.ofNat x.toNat == (0 : Int).toNat.toUInt8) = false := by
        rw [beq_eq_false_iff_ne]
        intro he
        have := congrArg UInt8.toNat he
        simp only [UInt8.toNat_ofNat', Int.toNat_zero] at this
        have h2 : x.toNat % 2 ^ 8 = x.toNat := Nat.mod_eq_of_lt (by omega)
        rw [h2] at this
        have h3 : ((0 : Nat).toUInt8).toNat = 0 := rfl
        omega
      rw [hne]
      simp only [Bool.false_eq_true, if_false, List.mem_cons]
      by_cases hm : Lib.indexByte (Lib.bytesOf l) (0 : Int).toNat.toUInt8 = -1
      · rw [hm] at ih ⊢
        have : ¬ (0 ∈ l) := fun q => absurd (ih.2 q) (by decide)
        simp [this, Ne.symm h0]
      · have hn : (Lib.indexByte (Lib.bytesOf l) (0 : Int).toNat.toUInt8 == -1) = false := by rw [beq_eq_false_iff_ne]; exact hm
        rw [hn]
        simp only [Bool.false_eq_true, if_false]
        constructor
        · intro _; exact .inr (ih.1 (by omega))
        · intro _; omega
def holdsR (kind v : Int) : Bool :=
  if kind = 1 then decide (-128 ≤ v ∧ v ≤ 127) else if kind = 2 then decide (-32768 ≤ v ∧ v ≤ 32767) else if kind = 3 then decide (-2147483648 ≤ v ∧ v ≤ 2147483647)
  else if kind = 4 then true else if kind = 5 then decide (0 ≤ v ∧ v ≤ 65535) else decide (0 ≤ v ∧ v ≤ 1)
def textR (kind : Int) (b : List Int) : Int := if b.length > 200 then 4 else if kind = 7 ∧ 0 ∈ b then 5 else 0
def checkR (kind : Int) (null n : Bool) (i : Int) (b : List Int) : Int :=
  if kind < 1 ∨ kind > 8 then 1 else if n = true then (if null = true then (if i = 0 ∧ b = [] then 0 else 50) else 51)
  else if kind ≤ 6 then (if b = [] then (if holdsR kind i = true then 0 else 52) else 50) else if i = 0 then textR kind b else 50
def putC (kind : Int) (n : Bool) (i : Int) (b : List Int) : List Int × Int :=
  if checkR kind true n i b = 0 then (if n = true then ([0], 0) else if kind ≤ 6 then (1 :: putL (foldI i).toNat, 0) else (1 :: (putL b.length ++ b), 0)) else ([], checkR kind true n i b)
def bad5 (e : Int) : Bool × Int × List Int × Int × Int := (false, 0, [], 0, e)
def getC (kind : Int) (b : List Int) (at_ : Int) : Bool × Int × List Int × Int × Int :=
  if kind < 1 ∨ kind > 8 ∨ at_ < 0 ∨ at_ > b.length then bad5 1 else if at_ = b.length then bad5 2 else if rd b at_ > 1 then bad5 5 else if rd b at_ = 0 then (true, 0, [], at_ + 1, 0)
  else if (getR b (at_ + 1)).2.2 = 0 then
    (if kind ≤ 6 then (if holdsR kind (unfoldI (getR b (at_ + 1)).1) = true then (false, unfoldI (getR b (at_ + 1)).1, [], (getR b (at_ + 1)).2.1, 0) else bad5 52)
     else if (getR b (at_ + 1)).1 > 200 then bad5 4 else if (getR b (at_ + 1)).1 > b.length - (getR b (at_ + 1)).2.1 then bad5 2
     else if textR kind ((b.take ((getR b (at_ + 1)).2.1 + (getR b (at_ + 1)).1).toNat).drop (getR b (at_ + 1)).2.1.toNat) = 0 then
       (false, 0, (b.take ((getR b (at_ + 1)).2.1 + (getR b (at_ + 1)).1).toNat).drop (getR b (at_ + 1)).2.1.toNat, (getR b (at_ + 1)).2.1 + (getR b (at_ + 1)).1, 0)
     else bad5 (textR kind ((b.take ((getR b (at_ + 1)).2.1 + (getR b (at_ + 1)).1).toNat).drop (getR b (at_ + 1)).2.1.toNat)))
  else bad5 (getR b (at_ + 1)).2.2
theorem textR_err (kind : Int) (b : List Int) : textR kind b = 0 ∨ textR kind b = 4 ∨ textR kind b = 5 := by
  unfold textR; split
  · omega
  · split <;> omega
/-- What is got, taken apart. -/
theorem getC_ok {kind : Int} {b : List Int} {at_ : Int} (hb : Bytes b) (h : (getC kind b at_).2.2.2.2 = 0) :
    (1 ≤ kind ∧ kind ≤ 8 ∧ 0 ≤ at_ ∧ at_ < b.length) ∧
    ((rd b at_ = 0 ∧ getC kind b at_ = (true, 0, [], at_ + 1, 0)) ∨
     (rd b at_ = 1 ∧ (getR b (at_ + 1)).2.2 = 0 ∧ kind ≤ 6 ∧ holdsR kind (unfoldI (getR b (at_ + 1)).1) = true ∧ getC kind b at_ = (false, unfoldI (getR b (at_ + 1)).1, [], (getR b (at_ + 1)).2.1, 0)) ∨
     (rd b at_ = 1 ∧ (getR b (at_ + 1)).2.2 = 0 ∧ 6 < kind ∧ (getR b (at_ + 1)).1 ≤ 200 ∧ (getR b (at_ + 1)).1 ≤ b.length - (getR b (at_ + 1)).2.1 ∧
       textR kind ((b.take ((getR b (at_ + 1)).2.1 + (getR b (at_ + 1)).1).toNat).drop (getR b (at_ + 1)).2.1.toNat) = 0 ∧
       getC kind b at_ = (false, 0, (b.take ((getR b (at_ + 1)).2.1 + (getR b (at_ + 1)).1).toNat).drop (getR b (at_ + 1)).2.1.toNat, (getR b (at_ + 1)).2.1 + (getR b (at_ + 1)).1, 0))) := by
  unfold getC at h ⊢
  by_cases h1 : kind < 1 ∨ kind > 8 ∨ at_ < 0 ∨ at_ > b.length
  · rw [if_pos h1] at h; simp [bad5] at h
  rw [if_neg h1] at h ⊢
  by_cases h2 : at_ = b.length
  · rw [if_pos h2] at h; simp [bad5] at h
  rw [if_neg h2] at h ⊢
  refine ⟨by omega, ?_⟩
  have hc : 0 ≤ rd b at_ := by
    rw [rd_int (by omega) (by omega)]
    exact (hb _ (List.getElem_mem (by omega))).1
  by_cases h3 : rd b at_ > 1
  · rw [if_pos h3] at h; simp [bad5] at h
  rw [if_neg h3] at h ⊢
  by_cases h4 : rd b at_ = 0
  · rw [if_pos h4]; exact .inl ⟨h4, rfl⟩
  rw [if_neg h4] at h ⊢
  by_cases h5 : (getR b (at_ + 1)).2.2 = 0
  · rw [if_pos h5] at h ⊢
    by_cases h6 : kind ≤ 6
    · rw [if_pos h6] at h ⊢
      by_cases h7 : holdsR kind (unfoldI (getR b (at_ + 1)).1) = true
      · rw [if_pos h7]; exact .inr (.inl ⟨by omega, h5, h6, h7, rfl⟩)
      · rw [if_neg h7] at h; simp [bad5] at h
    · rw [if_neg h6] at h ⊢
      by_cases h7 : (getR b (at_ + 1)).1 > 200
      · rw [if_pos h7] at h; simp [bad5] at h
      rw [if_neg h7] at h ⊢
      by_cases h8 : (getR b (at_ + 1)).1 > b.length - (getR b (at_ + 1)).2.1
      · rw [if_pos h8] at h; simp [bad5] at h
      rw [if_neg h8] at h ⊢
      by_cases h9 : textR kind ((b.take ((getR b (at_ + 1)).2.1 + (getR b (at_ + 1)).1).toNat).drop (getR b (at_ + 1)).2.1.toNat) = 0
      · rw [if_pos h9]; exact .inr (.inr ⟨by omega, h5, by omega, by omega, by omega, h9, rfl⟩)
      · rw [if_neg h9] at h; simp only [bad5] at h; exact absurd h h9
  · rw [if_neg h5] at h; simp only [bad5] at h; exact absurd h h5
theorem getC_bad {kind : Int} {b : List Int} {at_ : Int} (h : (getC kind b at_).2.2.2.2 ≠ 0) : (getC kind b at_).1 = false ∧ (getC kind b at_).2.1 = 0 ∧ (getC kind b at_).2.2.1 = [] ∧ (getC kind b at_).2.2.2.1 = 0 := by
  unfold getC at h ⊢
  repeat' split
  all_goals first | exact ⟨rfl, rfl, rfl, rfl⟩ | skip
  all_goals (exfalso; apply h; simp_all)
/-- Bytes that are got are the only ones, and their cell has no error. -/
theorem getC_only {kind : Int} {b : List Int} {at_ : Int} (hb : Bytes b) (h : (getC kind b at_).2.2.2.2 = 0) :
    checkR kind true (getC kind b at_).1 (getC kind b at_).2.1 (getC kind b at_).2.2.1 = 0 ∧ at_ < (getC kind b at_).2.2.2.1 ∧ (getC kind b at_).2.2.2.1 ≤ b.length ∧
      putC kind (getC kind b at_).1 (getC kind b at_).2.1 (getC kind b at_).2.2.1 = ((b.take (getC kind b at_).2.2.2.1.toNat).drop at_.toNat, 0) := by
  obtain ⟨⟨k1, k2, a0, a1⟩, hc⟩ := getC_ok hb h
  have hlt : at_.toNat < b.length := by omega
  have hrd : rd b at_ = b[at_.toNat] := rd_int a0 hlt
  have hcut : ∀ n : Nat, at_.toNat < n → n ≤ b.length → (b.take n).drop at_.toNat = b[at_.toNat] :: (b.take n).drop (at_.toNat + 1) := by
    intro n h1 h2
    have hl : at_.toNat < (b.take n).length := by rw [List.length_take]; omega
    rw [drop_cons hl, List.getElem_take]
  rcases hc with ⟨h0, hg⟩ | ⟨h1, h5, h6, h7, hg⟩ | ⟨h1, h5, h6, h7, h8, h9, hg⟩
  · rw [hg]
    have hch : checkR kind true true 0 [] = 0 := by unfold checkR; rw [if_neg (by omega), if_pos rfl, if_pos rfl, if_pos ⟨rfl, rfl⟩]
    refine ⟨hch, by simp only; omega, by simp only; omega, ?_⟩
    unfold putC
    rw [if_pos hch, if_pos rfl]
    simp only
    rw [hcut _ (by omega) (by omega), ← hrd, h0, List.drop_eq_nil_of_le (by rw [List.length_take]; omega)]
  · obtain ⟨g1, g2, g3, g4, g5, g6, g7⟩ := getR_ok hb (show getR b (at_ + 1) = ((getR b (at_ + 1)).1, (getR b (at_ + 1)).2.1, 0) by rw [← h5])
    rw [hg]
    have hch : checkR kind true false (unfoldI (getR b (at_ + 1)).1) [] = 0 := by unfold checkR; rw [if_neg (by omega), if_neg (by decide), if_pos h6, if_pos rfl, if_pos h7]
    have hf : foldI (unfoldI (getR b (at_ + 1)).1) = (getR b (at_ + 1)).1 := by unfold foldI unfoldI; split <;> split <;> omega
    refine ⟨hch, by simp only; omega, by simp only; omega, ?_⟩
    unfold putC
    rw [if_pos hch, if_neg (by simp), if_pos h6, hf, g7]
    simp only
    rw [hcut _ (by omega) (by omega), ← hrd, h1, show (at_ + 1).toNat = at_.toNat + 1 by omega]
  · obtain ⟨g1, g2, g3, g4, g5, g6, g7⟩ := getR_ok hb (show getR b (at_ + 1) = ((getR b (at_ + 1)).1, (getR b (at_ + 1)).2.1, 0) by rw [← h5])
    rw [hg]
    generalize hs : (b.take ((getR b (at_ + 1)).2.1 + (getR b (at_ + 1)).1).toNat).drop (getR b (at_ + 1)).2.1.toNat = s at h9
    have hsl : s.length = (getR b (at_ + 1)).1.toNat := by rw [← hs, List.length_drop, List.length_take]; omega
    have hch : checkR kind true false 0 s = 0 := by unfold checkR; rw [if_neg (by omega), if_neg (by decide), if_neg (by omega), if_pos rfl]; exact h9
    refine ⟨hch, by simp only; omega, by simp only; omega, ?_⟩
    unfold putC
    rw [if_pos hch, if_neg (by simp), if_neg (by omega)]
    simp only
    rw [hcut _ (by omega) (by omega), ← hrd, h1, hsl, g7, ← hs, show (at_ + 1).toNat = at_.toNat + 1 by omega]
    congr 2
    generalize hx : (getR b (at_ + 1)).2.1.toNat = x
    generalize hy : ((getR b (at_ + 1)).2.1 + (getR b (at_ + 1)).1).toNat = y
    have hxy : x ≤ y := by omega
    have hax : at_.toNat + 1 ≤ x := by omega
    rw [List.drop_take, List.drop_take, List.drop_take, show y - (at_.toNat + 1) = (x - (at_.toNat + 1)) + (y - x) by omega, List.take_add, List.drop_drop, show at_.toNat + 1 + (x - (at_.toNat + 1)) = x by omega]

theorem i8r (x : Int) : IntKind.i8.wrap x = (x + 128) % 256 - 128 := by
  simp only [IntKind.wrap, IntKind.bits, IntKind.signed]; simp; split <;> omega
theorem i16r (x : Int) : IntKind.i16.wrap x = (x + 32768) % 65536 - 32768 := by
  simp only [IntKind.wrap, IntKind.bits, IntKind.signed]; simp; split <;> omega
def narrowR (v size : Int) : Int × Bool :=
  if size = 1 then ((v + 128) % 256 - 128, ((v + 128) % 256 - 128) == v) else if size = 2 then ((v + 32768) % 65536 - 32768, ((v + 32768) % 65536 - 32768) == v)
  else if size = 4 then ((v + 2147483648) % 4294967296 - 2147483648, ((v + 2147483648) % 4294967296 - 2147483648) == v) else if size = 8 then (v, true) else (0, false)
theorem narrow_at (v size : Int) : bits_Narrow.f v size = some (narrowR v size) := by
  unfold bits_Narrow.f narrowR
  by_cases h1 : size = 1
  · rw [if_pos h1, if_pos h1, i8r, w64 (by omega) (by omega)]
  rw [if_neg h1, if_neg h1]
  by_cases h2 : size = 2
  · rw [if_pos h2, if_pos h2, i16r, w64 (by omega) (by omega)]
  rw [if_neg h2, if_neg h2]
  by_cases h4 : size = 4
  · rw [if_pos h4, if_pos h4, show wrap32 v = (v + 2147483648) % 4294967296 - 2147483648 by unfold wrap32; rfl, w64 (by omega) (by omega)]
  rw [if_neg h4, if_neg h4]
  by_cases h8 : size = 8
  · rw [if_pos h8, if_pos h8]; simp
  · rw [if_neg h8, if_neg h8]

theorem number_at5 (kind : Int) : cell_Number.f kind = some (decide (1 ≤ kind ∧ kind ≤ 6)) := by
  unfold cell_Number.f
  by_cases h : kind ≥ 1
  · rw [if_pos h]; simp [h]
  · rw [if_neg h]; simp [h]
theorem known_at (kind : Int) : cell_known.f kind = some (decide (1 ≤ kind ∧ kind ≤ 8)) := by
  unfold cell_known.f
  by_cases h : kind ≥ 1
  · rw [if_pos h]; simp [h]
  · rw [if_neg h]; simp [h]
theorem u16r (x : Int) : IntKind.u16.wrap x = x % 65536 := by simp [IntKind.wrap, IntKind.bits, IntKind.signed]
theorem holds_at {kind v : Int} (h1 : 1 ≤ kind) (h6 : kind ≤ 6) : cell_holds.f kind v = some (holdsR kind v) := by
  unfold cell_holds.f holdsR
  by_cases h5 : kind = 5
  · subst h5
    rw [if_pos rfl, u16r, w64 (by omega) (by omega)]
    congr 1
    rw [Bool.eq_iff_iff]; simp; omega
  rw [if_neg h5]
  by_cases h6' : kind = 6
  · subst h6'
    rw [if_pos rfl]
    congr 1
    rw [Bool.eq_iff_iff]; simp; omega
  rw [if_neg h6', w64 (by omega) (by omega), u64w (by omega) (by omega), if_pos (by omega), narrow_at, Option.bind_some]
  have hk : kind = 1 ∨ kind = 2 ∨ kind = 3 ∨ kind = 4 := by omega
  rcases hk with rfl | rfl | rfl | rfl
  · rw [show shl .i64 1 (1 - 1) = 1 by decide +kernel]
    unfold narrowR
    rw [if_pos rfl]; congr 1; rw [Bool.eq_iff_iff]; simp; omega
  · rw [show shl .i64 1 (2 - 1) = 2 by decide +kernel]
    unfold narrowR
    rw [if_neg (by decide), if_pos rfl]; congr 1; rw [Bool.eq_iff_iff]; simp; omega
  · rw [show shl .i64 1 (3 - 1) = 4 by decide +kernel]
    unfold narrowR
    rw [if_neg (by decide), if_neg (by decide), if_pos rfl]; congr 1; rw [Bool.eq_iff_iff]; simp; omega
  · rw [show shl .i64 1 (4 - 1) = 8 by decide +kernel]
    unfold narrowR
    rw [if_neg (by decide), if_neg (by decide), if_neg (by decide), if_pos rfl]; simp
theorem text_at {kind : Int} {b : List Int} (hb : Bytes b) : cell_text.f kind b = some (textR kind b) := by
  unfold cell_text.f textR
  by_cases h1 : b.length > 200
  · rw [if_pos (by omega), if_pos h1]
  rw [if_neg (by omega), if_neg h1]
  by_cases h7 : kind = 7
  · rw [if_pos h7]
    unfold bytes_IndexByte.f
    rw [Option.bind_some]
    by_cases hz : 0 ∈ b
    · rw [if_pos ((zero_in b hb).2 hz), if_pos ⟨h7, hz⟩]
    · rw [if_neg (fun h => hz ((zero_in b hb).1 h)), if_neg (fun h => hz h.2)]
  · rw [if_neg h7, if_neg (fun h => h7 h.1)]
theorem len0 {b : List Int} : ((b.length : Int) > 0) ↔ b ≠ [] := by
  cases b with
  | nil => simp
  | cons x l => simp
theorem check_at (kind : Int) (null n : Bool) (i : Int) (b : List Int) (hb : Bytes b) (k : Nat) (hk : 4 ≤ k) : cell_Check.f k kind null n i b = some (checkR kind null n i b) := by
  obtain ⟨k, rfl⟩ : ∃ m, k = m + 1 + 1 + 1 + 1 := ⟨k - 4, by omega⟩
  unfold cell_Check.f checkR
  rw [known_at, Option.bind_some]
  by_cases h1 : kind < 1 ∨ kind > 8
  · rw [decide_eq_false (by omega), if_neg (by decide), if_pos h1]
  rw [decide_eq_true (by omega), if_pos rfl, if_neg h1]
  cases n with
  | true =>
    rw [if_pos rfl, if_pos rfl]
    simp only [cell_Check.j0]
    cases null with
    | false => rw [if_pos (by rfl), if_neg (by decide)]
    | true =>
      rw [if_neg (by decide), if_pos trivial, if_pos rfl]
      by_cases h0 : i = 0
      · rw [if_pos h0]
        simp only [cell_Check.j1]
        by_cases hbb : b = []
        · rw [if_neg (by simp [hbb]), if_pos trivial, if_pos ⟨h0, hbb⟩]
        · rw [if_pos (decide_eq_true (len0.2 hbb)), if_neg (fun h => hbb h.2)]
      · rw [if_neg h0]
        simp only [cell_Check.j1]
        rw [if_pos trivial, if_neg (fun h => h0 h.1)]
  | false =>
    rw [if_neg (by decide), if_neg (by decide)]
    simp only [cell_Check.j0]
    rw [if_neg (by decide), if_neg (by decide)]
    simp only [cell_Check.j1]
    rw [if_neg (by decide), if_neg (by decide), number_at5, Option.bind_some]
    by_cases h6 : kind ≤ 6
    · rw [decide_eq_true (show 1 ≤ kind ∧ kind ≤ 6 by omega), if_pos rfl, if_pos h6]
      simp only [cell_Check.j2]
      by_cases hbb : b = []
      · rw [if_neg (by simp [hbb]), number_at5, Option.bind_some, decide_eq_true (show 1 ≤ kind ∧ kind ≤ 6 by omega), if_pos rfl, if_pos hbb]
        simp only [cell_Check.j3]
        rw [if_neg (by decide), number_at5, Option.bind_some, decide_eq_true (show 1 ≤ kind ∧ kind ≤ 6 by omega), if_pos rfl, holds_at (by omega) h6, Option.bind_some]
        cases holdsR kind i <;> rfl
      · rw [if_pos (decide_eq_true (len0.2 hbb)), if_neg hbb]
        simp only [cell_Check.j3]
        rw [if_pos (decide_eq_true (len0.2 hbb))]
    · rw [decide_eq_false (show ¬ (1 ≤ kind ∧ kind ≤ 6) by omega), if_neg (by decide), if_neg h6]
      simp only [cell_Check.j2]
      rw [if_neg (by decide), number_at5, Option.bind_some, decide_eq_false (show ¬ (1 ≤ kind ∧ kind ≤ 6) by omega), if_neg (by decide)]
      simp only [cell_Check.j3]
      by_cases h0 : i = 0
      · subst h0
        rw [if_neg (by decide), if_pos rfl, number_at5, Option.bind_some, decide_eq_false (show ¬ (1 ≤ kind ∧ kind ≤ 6) by omega), if_neg (by decide), text_at hb, Option.bind_some]
      · rw [if_pos (by simpa using h0), if_neg h0]

theorem or128 {x : Int} (h0 : 0 ≤ x) (h1 : x < 256) : Go.bits .or .u8 x 128 = x % 128 + 128 := by
  have : ∀ n : Fin 256, Go.bits .or .u8 ((n.val : Nat) : Int) 128 = ((n.val : Nat) : Int) % 128 + 128 := by decide +kernel
  have h := this ⟨x.toNat, by omega⟩
  simp only at h
  rwa [Int.toNat_of_nonneg h0] at h
theorem put_l0 (n : Nat) : ∀ (u k : Nat) (acc : List Int), u < n → acc.length + (putL u).length ≤ 140737488355328 → (putL u).length ≤ k →
    vint_Put.l0 k (u : Int) acc = some (acc ++ putL u) := by
  induction n with
  | zero => intro u k acc h; omega
  | succ n ih =>
    intro u k acc h hl hk
    have hp := putL_pos u
    obtain ⟨k, rfl⟩ : ∃ m, k = m + 1 := ⟨k - 1, by omega⟩
    simp only [vint_Put.l0]
    by_cases hs : u < 128
    · rw [if_neg (by omega), if_pos (by omega), putL_small hs, show (u : Int) % 256 = u by omega]
    · rw [putL_big hs, List.length_cons] at hl hk
      have hp := putL_pos (u / 128)
      rw [if_pos (by omega), if_pos (by omega), or128 (by omega) (by omega), show (u : Int) / 128 = ((u / 128 : Nat) : Int) by omega,
        ih (u / 128) k _ (by omega) (by rw [List.length_append, List.length_singleton]; omega) (by omega), putL_big hs, List.append_assoc]
      congr 3
      simp only [List.singleton_append, List.cons.injEq, and_true]
      omega
theorem put_at {u : Int} (h0 : 0 ≤ u) (h1 : u < 18446744073709551616) (k : Nat) (hk : 10 ≤ k) : vint_Put.f k u = some (putL u.toNat) := by
  have hl := putL_len10 (u := u.toNat) (by omega)
  have := put_l0 (u.toNat + 1) u.toNat k [] (by omega) (by simp only [List.length_nil]; omega) (by omega)
  rw [Int.toNat_of_nonneg h0] at this
  simpa [vint_Put.f] using this

/-! ### m_xor: xor as arithmetic -/
theorem nat_xor_top {x : Nat} (j : Nat) (h : x < 2 ^ j) : x ^^^ 2 ^ j = x + 2 ^ j := by
  apply Nat.eq_of_testBit_eq
  intro i
  rw [Nat.testBit_xor, Nat.testBit_two_pow]
  rcases Nat.lt_trichotomy i j with hi | hi | hi
  · rw [Nat.add_comm, Nat.testBit_two_pow_add_gt hi, decide_eq_false (by omega)]; simp
  · subst hi
    rw [Nat.add_comm, Nat.testBit_two_pow_add_eq]; simp
  · have h1 : x + 2 ^ j < 2 ^ i := by
      have : 2 ^ (j + 1) ≤ 2 ^ i := Nat.pow_le_pow_right (by decide) hi
      rw [Nat.pow_succ] at this; omega
    rw [Nat.testBit_lt_two_pow h1, Nat.testBit_lt_two_pow (show x < 2 ^ i by omega), decide_eq_false (by omega)]; rfl
theorem nat_xor_top' {x : Nat} (j : Nat) (h : x < 2 ^ j) : (x + 2 ^ j) ^^^ 2 ^ j = x := by
  rw [← nat_xor_top j h, Nat.xor_assoc, Nat.xor_self, Nat.xor_zero]
theorem xor_u64_nat (a b : Nat) (ha : a < 2 ^ 64) (hb : b < 2 ^ 64) : Go.bits .xor .u64 (a : Int) (b : Int) = ((a ^^^ b : Nat) : Int) := by
  have hx := Nat.xor_lt_two_pow ha hb
  rw [show Go.bits .xor .u64 (a : Int) (b : Int) = IntKind.u64.wrap ((BitVec.ofInt 64 (a : Int) ^^^ BitVec.ofInt 64 (b : Int)).toNat : Int) from rfl, BitVec.ofInt_natCast, BitVec.ofInt_natCast, BitVec.toNat_xor, BitVec.toNat_ofNat, BitVec.toNat_ofNat, Nat.mod_eq_of_lt ha, Nat.mod_eq_of_lt hb]
  exact wraps_u64 _ (Int.natCast_nonneg _) (by exact_mod_cast hx)
theorem xor_zero {x : Int} (h0 : 0 ≤ x) (h1 : x < 18446744073709551616) : Go.bits .xor .u64 x 0 = x := by
  obtain ⟨a, rfl⟩ := Int.eq_ofNat_of_zero_le h0
  have := xor_u64_nat a 0 (by omega) (by decide)
  simpa using this
theorem xor_all {x : Int} (h0 : 0 ≤ x) (h1 : x < 18446744073709551616) : Go.bits .xor .u64 x 18446744073709551615 = 18446744073709551615 - x := by
  obtain ⟨a, rfl⟩ := Int.eq_ofNat_of_zero_le h0
  have e : BitVec.ofInt 64 18446744073709551615 = BitVec.allOnes 64 := by decide
  rw [show Go.bits .xor .u64 (a : Int) 18446744073709551615 = IntKind.u64.wrap ((BitVec.ofInt 64 (a : Int) ^^^ BitVec.ofInt 64 18446744073709551615).toNat : Int) from rfl, e, BitVec.ofInt_natCast, BitVec.xor_allOnes, BitVec.toNat_not, BitVec.toNat_ofNat,
    Nat.mod_eq_of_lt (show a < 2 ^ 64 by omega), wraps_u64 _ (by omega) (by omega)]; omega
theorem xor_top {x : Int} (h0 : 0 ≤ x) (h1 : x < 18446744073709551616) : Go.bits .xor .u64 x 9223372036854775808 = if x < 9223372036854775808 then x + 9223372036854775808 else x - 9223372036854775808 := by
  obtain ⟨a, rfl⟩ := Int.eq_ofNat_of_zero_le h0
  have h := xor_u64_nat a (2 ^ 63) (by omega) (by decide)
  rw [show ((2 ^ 63 : Nat) : Int) = 9223372036854775808 from rfl] at h
  rw [h]
  by_cases hc : a < 2 ^ 63
  · rw [nat_xor_top 63 hc, if_pos (by omega)]; omega
  · have := nat_xor_top' (x := a - 2 ^ 63) 63 (by omega)
    rw [show a - 2 ^ 63 + 2 ^ 63 = a by omega] at this
    rw [this, if_neg (by omega)]; omega
theorem i64_wrap_nat {n : Nat} (h : n < 2 ^ 64) : IntKind.i64.wrap (n : Int) = if n < 2 ^ 63 then (n : Int) else (n : Int) - 18446744073709551616 := by
  rw [Go.IntKind.wrap_i64]; split <;> omega
theorem xor_i64_zero {x : Int} (h0 : 0 ≤ x) (h1 : x < 9223372036854775808) : Go.bits .xor .i64 x 0 = x := by
  obtain ⟨a, rfl⟩ := Int.eq_ofNat_of_zero_le h0
  have e : BitVec.ofInt 64 0 = 0#64 := by decide
  rw [show Go.bits .xor .i64 (a : Int) 0 = IntKind.i64.wrap ((BitVec.ofInt 64 (a : Int) ^^^ BitVec.ofInt 64 0).toNat : Int) from rfl, e, BitVec.ofInt_natCast, BitVec.xor_zero, BitVec.toNat_ofNat, Nat.mod_eq_of_lt (show a < 2 ^ 64 by omega), i64_wrap_nat (by omega), if_pos (by omega)]
theorem xor_i64_all {x : Int} (h0 : 0 ≤ x) (h1 : x < 9223372036854775808) : Go.bits .xor .i64 x (-1) = -1 - x := by
  obtain ⟨a, rfl⟩ := Int.eq_ofNat_of_zero_le h0
  have e : BitVec.ofInt 64 (-1) = BitVec.allOnes 64 := by decide
  rw [show Go.bits .xor .i64 (a : Int) (-1) = IntKind.i64.wrap ((BitVec.ofInt 64 (a : Int) ^^^ BitVec.ofInt 64 (-1)).toNat : Int) from rfl, e, BitVec.ofInt_natCast, BitVec.xor_allOnes, BitVec.toNat_not, BitVec.toNat_ofNat, Nat.mod_eq_of_lt (show a < 2 ^ 64 by omega), i64_wrap_nat (by omega), if_neg (by omega)]; omega

/-! ### m_le: bytes as one number, the lowest first -/
def nat : List Int → Nat
  | [] => 0
  | c :: r => c.toNat + 256 * nat r
def leb (m : Nat) : Nat → List Int
  | 0 => []
  | n + 1 => ((m % 256 : Nat) : Int) :: leb (m / 256) n
theorem leb_len (n : Nat) : ∀ m, (leb m n).length = n := by
  induction n with
  | zero => intro m; rfl
  | succ n ih => intro m; simp [leb, ih]
theorem leb_bytes (n : Nat) : ∀ m, Bytes (leb m n) := by
  induction n with
  | zero => intro m x hx; simp [leb] at hx
  | succ n ih =>
    intro m x hx
    rw [leb] at hx
    rcases List.mem_cons.1 hx with rfl | hx
    · omega
    · exact ih _ x hx
theorem p8 (n : Nat) : 2 ^ (8 * (n + 1)) = 256 * 2 ^ (8 * n) := by rw [Nat.mul_add, Nat.pow_add, Nat.mul_comm]
theorem nat_leb (n : Nat) : ∀ m, m < 2 ^ (8 * n) → nat (leb m n) = m := by
  induction n with
  | zero => intro m h; simp at h; simp [leb, nat, h]
  | succ n ih =>
    intro m h
    rw [p8] at h
    rw [leb, nat, ih (m / 256) (by omega)]
    omega
theorem nat_lt {b : List Int} (h : Bytes b) : nat b < 2 ^ (8 * b.length) := by
  induction b with
  | nil => simp [nat]
  | cons c r ih =>
    have hc := h c List.mem_cons_self
    have := ih (fun x hx => h x (List.mem_cons_of_mem _ hx))
    rw [nat, List.length_cons, p8]; omega
theorem nat_inj {a : List Int} : ∀ {b : List Int}, Bytes a → Bytes b → a.length = b.length → nat a = nat b → a = b := by
  induction a with
  | nil => intro b _ _ h _; cases b with
    | nil => rfl
    | cons => simp at h
  | cons c r ih =>
    intro b ha hb hl h
    cases b with
    | nil => simp at hl
    | cons d s =>
      have h1 := ha c List.mem_cons_self
      have h2 := hb d List.mem_cons_self
      rw [nat, nat] at h
      have hn : nat r = nat s := by omega
      rw [ih (fun x hx => ha x (List.mem_cons_of_mem _ hx)) (fun x hx => hb x (List.mem_cons_of_mem _ hx)) (by simpa using hl) hn, show c = d by omega]
theorem leb_nat {b : List Int} (h : Bytes b) : leb (nat b) b.length = b :=
  nat_inj (leb_bytes _ _) h (leb_len _ _) (nat_leb _ _ (nat_lt h))
theorem nat_at {b : List Int} : ∀ (h : Bytes b) (k : Nat) (hk : k < b.length), nat b / 2 ^ (8 * k) % 256 = (b[k]).toNat := by
  induction b with
  | nil => intro h k hk; simp at hk
  | cons c r ih =>
    intro h k hk
    have hc := h c List.mem_cons_self
    cases k with
    | zero => simp only [nat, Nat.mul_zero, Nat.pow_zero, Nat.div_one, List.getElem_cons_zero]; omega
    | succ k =>
      rw [nat, p8, ← Nat.div_div_eq_div_mul, show (c.toNat + 256 * nat r) / 256 = nat r by omega]
      simpa using ih (fun x hx => h x (List.mem_cons_of_mem _ hx)) k (by simpa using hk)
theorem nat_set {b : List Int} (c : Int) : ∀ (k : Nat) (hk : k < b.length), nat (b.set k c) + (b[k]).toNat * 2 ^ (8 * k) = nat b + c.toNat * 2 ^ (8 * k) := by
  induction b with
  | nil => intro k hk; simp at hk
  | cons d r ih =>
    intro k hk
    cases k with
    | zero => simp [nat]; omega
    | succ k =>
      have := ih k (by simpa using hk)
      simp only [List.set_cons_succ, nat, List.getElem_cons_succ]
      rw [p8, Nat.mul_left_comm, Nat.mul_left_comm c.toNat]
      omega
theorem Bytes.set {b : List Int} (h : Bytes b) {c : Int} (hc : 0 ≤ c ∧ c < 256) (k : Nat) : Bytes (b.set k c) := fun x hx => by
  rcases List.mem_or_eq_of_mem_set hx with hx | rfl
  · exact h x hx
  · exact hc
theorem zeros_bytes (n : Nat) : Bytes (List.replicate n 0) := fun x hx => by rw [List.eq_of_mem_replicate hx]; omega
theorem nat_zeros (n : Nat) : nat (List.replicate n 0) = 0 := by
  induction n with
  | zero => rfl
  | succ n ih => rw [List.replicate_succ, nat, ih]; rfl
theorem nat_app (a b : List Int) : nat (a ++ b) = nat a + 2 ^ (8 * a.length) * nat b := by
  induction a with
  | nil => simp [nat]
  | cons c r ih => rw [List.cons_append, nat, nat, ih, List.length_cons, p8, Nat.mul_assoc]; omega
/-- A chunk that lies within one byte. -/
theorem nat_chunk {b : List Int} (h : Bytes b) (at_ t : Nat) (hk : at_ / 8 < b.length) (ht : at_ % 8 + t ≤ 8) :
    nat b / 2 ^ at_ % 2 ^ t = (b[at_ / 8]).toNat / 2 ^ (at_ % 8) % 2 ^ t := by
  rw [← nat_at h (at_ / 8) hk]
  have e : at_ = 8 * (at_ / 8) + at_ % 8 := by omega
  have e1 : nat b / 2 ^ at_ = nat b / 2 ^ (8 * (at_ / 8)) / 2 ^ (at_ % 8) := by
    rw [Nat.div_div_eq_div_mul, ← Nat.pow_add, ← e]
  rw [e1]
  generalize nat b / 2 ^ (8 * (at_ / 8)) = X
  generalize at_ % 8 = s at ht
  apply Nat.eq_of_testBit_eq
  intro i
  rw [show (256 : Nat) = 2 ^ 8 from rfl]
  simp only [Nat.testBit_mod_two_pow, Nat.testBit_div_two_pow]
  by_cases hi : i < t
  · simp only [hi, decide_true, Bool.true_and]
    rw [decide_eq_true (show i + s < 8 by omega)]; simp
  · simp [hi]
theorem mod_split (X g t : Nat) : X % 2 ^ (g + t) = X % 2 ^ g + 2 ^ g * (X / 2 ^ g % 2 ^ t) := by
  rw [Nat.pow_add, Nat.mod_mul]
theorem div_pow_add (X a b : Nat) : X / 2 ^ (a + b) = X / 2 ^ a / 2 ^ b := by rw [Nat.pow_add, Nat.div_div_eq_div_mul]

/-! ### m_bits2: more of or, and, shifts -/
theorem i64_and7 {x : Int} (h0 : 0 ≤ x) (h1 : x < 9223372036854775808) : Go.bits .and .i64 x 7 = x % 8 :=
  Go.bits_mask .i64 63 (by decide) (fun n h0 h1 => by rw [Go.IntKind.wrap_i64]; omega) 3 (by decide) x h0 (by simpa using h1)
theorem u64_mask {x : Int} (h0 : 0 ≤ x) (h1 : x < 18446744073709551616) {i : Nat} (hi : i ≤ 64) : Go.bits .and .u64 x (2 ^ i - 1) = x % 2 ^ i :=
  Go.bits_mask .u64 64 (by decide) wraps_u64 i hi x h0 (by simpa using h1)
theorem or_low8 {j : Nat} {x y : Int} (hx0 : 0 ≤ x) (hx : x < 2 ^ j) (hy0 : 0 ≤ y) (hb : x + y * 2 ^ j < 2 ^ 8) :
    Go.bits .or .u8 x (y * 2 ^ j) = x + y * 2 ^ j := by
  have hp : (0 : Int) < 2 ^ j := Int.pow_pos (by decide)
  obtain ⟨a, rfl⟩ := Int.eq_ofNat_of_zero_le hx0
  obtain ⟨b, rfl⟩ := Int.eq_ofNat_of_zero_le hy0
  have ha : a < 2 ^ j := by exact_mod_cast hx
  have hab : a + b * 2 ^ j < 2 ^ 8 := by exact_mod_cast hb
  have e : ((b : Int) * 2 ^ j) = ((2 ^ j * b : Nat) : Int) := by rw [Nat.mul_comm]; simp
  have hc : a + 2 ^ j * b < 2 ^ 8 := by rw [Nat.mul_comm]; exact hab
  rw [e, (Go.bits_nat .u8 8 (by decide) Go.wraps_u8 a (2 ^ j * b) (by omega) (by omega)).2, Nat.or_comm, ← Nat.two_pow_add_eq_or_of_lt ha b]
  omega
theorem shl8 {x y : Int} (hx : 0 ≤ x) {n : Nat} (hy : y = n) (hn : n ≤ 8) (hb : x * 2 ^ n < 2 ^ 8) : shl .u8 x y = x * 2 ^ n := by
  subst hy
  have : (0 : Int) ≤ x * 2 ^ n := Int.mul_nonneg hx (Int.le_of_lt (Int.pow_pos (by decide)))
  have e : min n IntKind.u8.bits = n := by simp only [IntKind.bits]; omega
  unfold shl
  rw [Int.toNat_natCast, e, Go.wraps_u8 _ this hb]
theorem shr8 {x y : Int} {n : Nat} (hy : y = n) (hn : n ≤ 8) : shr .u8 x y = x / 2 ^ n := by
  subst hy
  have e : min n IntKind.u8.bits = n := by simp only [IntKind.bits]; omega
  unfold shr
  rw [Int.toNat_natCast, e]
theorem shr64 {x y : Int} {n : Nat} (hy : y = n) (hn : n ≤ 64) : shr .u64 x y = x / 2 ^ n := by
  subst hy
  have e : min n IntKind.u64.bits = n := by simp only [IntKind.bits]; omega
  unfold shr
  rw [Int.toNat_natCast, e]
theorem toNat_div2 {x : Int} (h0 : 0 ≤ x) (n : Nat) : (x / 2 ^ n).toNat = x.toNat / 2 ^ n := by
  obtain ⟨a, rfl⟩ := Int.eq_ofNat_of_zero_le h0
  rw [show (2 : Int) ^ n = ((2 ^ n : Nat) : Int) by simp, ← Int.natCast_ediv, Int.toNat_natCast, Int.toNat_natCast]
theorem toNat_mod2 {x : Int} (h0 : 0 ≤ x) (n : Nat) : (x % 2 ^ n).toNat = x.toNat % 2 ^ n := by
  obtain ⟨a, rfl⟩ := Int.eq_ofNat_of_zero_le h0
  rw [show (2 : Int) ^ n = ((2 ^ n : Nat) : Int) by simp, ← Int.natCast_emod, Int.toNat_natCast, Int.toNat_natCast]
theorem divmod2 {x : Int} (h0 : 0 ≤ x) (s t : Nat) : x / 2 ^ s % 2 ^ t = ((x.toNat / 2 ^ s % 2 ^ t : Nat) : Int) := by
  obtain ⟨a, rfl⟩ := Int.eq_ofNat_of_zero_le h0
  simp
theorem mn_nat (a b : Nat) : mn (a : Int) (b : Int) = ((min a b : Nat) : Int) := by unfold mn; split <;> omega

theorem fold_at {v : Int} (h0 : -9223372036854775808 ≤ v) (h1 : v < 9223372036854775808) : bits_Fold.f v = some (foldI v) := by
  unfold bits_Fold.f foldI
  congr 1
  by_cases h : 0 ≤ v
  · rw [if_pos h, show v / 9223372036854775808 = 0 by omega, show IntKind.u64.wrap (wrap64 (v * 2)) = v * 2 by rw [u64r]; unfold wrap64; omega, show IntKind.u64.wrap 0 = 0 by rw [u64r]; rfl, xor_zero (by omega) (by omega)]; omega
  · rw [if_neg h, show v / 9223372036854775808 = -1 by omega, show IntKind.u64.wrap (wrap64 (v * 2)) = v * 2 + 18446744073709551616 by rw [u64r]; unfold wrap64; omega, show IntKind.u64.wrap (-1) = 18446744073709551615 by rw [u64r]; rfl, xor_all (by omega) (by omega)]; omega
theorem unfold_at {u : Int} (h0 : 0 ≤ u) (h1 : u < 18446744073709551616) : bits_Unfold.f u = some (unfoldI u) := by
  unfold bits_Unfold.f unfoldI
  congr 1
  have e : Go.bits .and .u64 u 1 = u % 2 := by
    have := u64_mask h0 h1 (i := 1) (by decide); simpa using this
  rw [e, w64 (x := u / 2) (by omega) (by omega), w64 (x := u % 2) (by omega) (by omega)]
  by_cases h : u % 2 = 0
  · rw [if_pos h, h, show wrap64 (-0) = 0 by unfold wrap64; omega, xor_i64_zero (by omega) (by omega)]
  · rw [if_neg h, show u % 2 = 1 by omega, show wrap64 (-1) = -1 by unfold wrap64; omega, xor_i64_all (by omega) (by omega)]; omega

theorem cput_at (kind : Int) (n : Bool) (i : Int) (b : List Int) (hb : Bytes b) (hi : -9223372036854775808 ≤ i ∧ i < 9223372036854775808) (k : Nat) (hk : 10 ≤ k) : cell_Put.f k kind n i b = some (putC kind n i b) := by
  unfold cell_Put.f putC
  rw [check_at kind true n i b hb k (by omega), Option.bind_some]
  by_cases he : checkR kind true n i b = 0
  · rw [if_pos he, if_pos he]
    cases n with
    | true => rw [if_pos rfl, if_pos rfl]
    | false =>
      have hkind : 1 ≤ kind ∧ kind ≤ 8 := by
        refine Decidable.byContradiction fun hc => ?_
        unfold checkR at he
        rw [if_pos (by omega)] at he
        exact absurd he (by decide)
      rw [if_neg (by decide), if_neg (by decide), number_at5, Option.bind_some]
      by_cases h6 : kind ≤ 6
      · have hf : 0 ≤ foldI i ∧ foldI i < 18446744073709551616 := by unfold foldI; split <;> omega
        have hl := putL_len10 (u := (foldI i).toNat) (by omega)
        rw [decide_eq_true (show 1 ≤ kind ∧ kind ≤ 6 by omega), if_pos rfl, if_pos h6, Option.bind_some, fold_at hi.1 hi.2, Option.bind_some, put_at hf.1 hf.2 k hk, Option.bind_some, if_pos (by simp only [List.length_singleton]; omega)]
        rfl
      · have hbl : b.length ≤ 200 := by
          refine Decidable.byContradiction fun hc => ?_
          unfold checkR at he
          rw [if_neg (by omega), if_neg (by decide), if_neg h6] at he
          by_cases h0 : i = 0
          · rw [if_pos h0] at he
            unfold textR at he
            rw [if_pos (by omega)] at he
            exact absurd he (by decide)
          · rw [if_neg h0] at he
            exact absurd he (by decide)
        have hl := putL_len10 (u := b.length) (by omega)
        rw [decide_eq_false (show ¬ (1 ≤ kind ∧ kind ≤ 6) by omega), if_neg (by decide), if_neg h6, Option.bind_some, u64w (by omega) (by omega), put_at (by omega) (by omega) k hk, Option.bind_some, Int.toNat_natCast, if_pos (by simp only [List.length_singleton]; omega), Option.bind_some,
          if_pos (by simp only [List.length_append, List.length_singleton]; omega), List.append_assoc]
        rfl
  · rw [if_neg he, if_neg he]

theorem zero_l0 (b : List Int) (hl : b.length ≤ 17592186044416) (d : Nat) : ∀ (k i : Nat), i + d = b.length → d < k → stoaref05_Zero.l0 k b i = some (decide (0 ∈ b.drop i)) := by
  induction d with
  | zero =>
    intro k i hi hk
    obtain ⟨k, rfl⟩ : ∃ m, k = m + 1 := ⟨k - 1, by omega⟩
    simp only [stoaref05_Zero.l0]
    rw [if_neg (by omega), List.drop_eq_nil_of_le (by omega)]; simp
  | succ d ih =>
    intro k i hi hk
    obtain ⟨k, rfl⟩ : ∃ m, k = m + 1 := ⟨k - 1, by omega⟩
    have h1 : i < b.length := by omega
    simp only [stoaref05_Zero.l0]
    rw [if_pos (by omega), if_pos (by omega), rd_nat h1, wsucc (by omega), show b.drop i = b[i] :: b.drop (i + 1) from drop_cons h1]
    by_cases e : b[i] = 0
    · rw [if_pos e, e]; simp
    · rw [if_neg e, ih k (i + 1) (by omega) (by omega)]
      have : (0 ∈ b[i] :: b.drop (i + 1)) ↔ 0 ∈ b.drop (i + 1) := by
        rw [List.mem_cons]; exact ⟨fun h => h.elim (fun q => absurd q.symm e) id, .inr⟩
      rw [decide_eq_decide.2 this]
theorem zero_at (b : List Int) (hl : b.length ≤ 17592186044416) (k : Nat) (hk : b.length + 1 ≤ k) : stoaref05_Zero.f k b = some (decide (0 ∈ b)) := by
  have := zero_l0 b hl b.length k 0 (by omega) (by omega)
  simpa [stoaref05_Zero.f] using this
theorem least_at {kind : Int} (h1 : 1 ≤ kind) (h6 : kind ≤ 6) : ∃ l g, stoaref05_Least.f kind = some l ∧ stoaref05_Greatest.f kind = some g ∧
    ∀ v : Int, -9223372036854775808 ≤ v → v ≤ 9223372036854775807 → holdsR kind v = decide (l ≤ v ∧ v ≤ g) := by
  have hk : kind = 1 ∨ kind = 2 ∨ kind = 3 ∨ kind = 4 ∨ kind = 5 ∨ kind = 6 := by omega
  rcases hk with rfl | rfl | rfl | rfl | rfl | rfl
  · exact ⟨_, _, rfl, rfl, fun v _ _ => rfl⟩
  · exact ⟨_, _, rfl, rfl, fun v _ _ => rfl⟩
  · exact ⟨_, _, rfl, rfl, fun v _ _ => rfl⟩
  · refine ⟨_, _, rfl, rfl, fun v h1 h2 => ?_⟩
    rw [decide_eq_true ⟨h1, h2⟩]; rfl
  · exact ⟨_, _, rfl, rfl, fun v _ _ => rfl⟩
  · exact ⟨_, _, rfl, rfl, fun v _ _ => rfl⟩
theorem rcheck_at (kind : Int) (null n : Bool) (i : Int) (b : List Int) (hi : -9223372036854775808 ≤ i ∧ i ≤ 9223372036854775807) (k : Nat) (hk : 210 ≤ k) :
    stoaref05_Check.f k kind null n i b = some (checkR kind null n i b) := by
  obtain ⟨k, rfl⟩ : ∃ m, k = m + 1 := ⟨k - 1, by omega⟩
  unfold stoaref05_Check.f checkR
  by_cases h1 : kind < 1
  · rw [if_pos h1, if_pos (.inl h1)]; simp only [stoaref05_Check.j0]; rw [if_pos trivial]
  rw [if_neg h1]
  simp only [stoaref05_Check.j0]
  by_cases h8 : kind > 8
  · rw [if_pos (decide_eq_true h8), if_pos (.inr h8)]
  rw [if_neg (show ¬ (decide (kind > 8) = true) by simpa using h8), if_neg (show ¬ (kind < 1 ∨ kind > 8) by omega)]
  have hb0 : ((b.length : Int) > 0) ↔ b ≠ [] := by cases b with
    | nil => simp
    | cons x l => simp
  cases n with
  | true =>
    rw [if_pos rfl, if_pos rfl]
    cases null with
    | false => rw [if_neg (by decide), if_neg (by decide)]
    | true =>
      rw [if_pos rfl, if_pos rfl]
      by_cases h0 : i = 0
      · rw [if_pos h0]
        by_cases hb : b = []
        · rw [if_neg (fun h => hb0.1 h hb), if_pos ⟨h0, hb⟩]
        · rw [if_pos (hb0.2 hb), if_neg (fun h => hb h.2)]
      · rw [if_neg h0, if_neg (fun h => h0 h.1)]
  | false =>
    rw [if_neg (show ¬ (false = true) by decide), if_neg (show ¬ (false = true) by decide)]
    by_cases h6 : kind ≤ 6
    · rw [if_pos h6, if_pos h6]
      by_cases hb : b = []
      · rw [if_neg (fun h => hb0.1 h hb), if_pos hb]
        obtain ⟨l, g, e1, e2, e3⟩ := least_at (show 1 ≤ kind by omega) h6
        rw [e1, Option.bind_some, e3 i hi.1 hi.2]
        by_cases c1 : i < l
        · rw [if_pos c1, if_neg (by simp only [decide_eq_true_eq]; omega)]
        · rw [if_neg c1, e2, Option.bind_some]
          by_cases c2 : i > g
          · rw [if_pos c2, if_neg (by simp only [decide_eq_true_eq]; omega)]
          · rw [if_neg c2, if_pos (by simp only [decide_eq_true_eq]; omega)]
      · rw [if_pos (hb0.2 hb), if_neg hb]
    · rw [if_neg h6, if_neg h6]
      by_cases h0 : i = 0
      · rw [if_pos h0, if_pos h0]
        unfold textR
        by_cases h2 : b.length > 200
        · rw [if_pos (by omega), if_pos h2]
        rw [if_neg (by omega), if_neg h2]
        by_cases h7 : kind = 7
        · rw [if_pos h7, zero_at b (by omega) _ (by omega), Option.bind_some]
          by_cases hz : 0 ∈ b
          · rw [if_pos (decide_eq_true hz), if_pos ⟨h7, hz⟩]
          · rw [if_neg (by simpa using hz), if_neg (fun h => hz h.2)]
        · rw [if_neg h7, if_neg (fun h => h7 h.1)]
      · rw [if_neg h0, if_neg h0]
theorem checkR_len {kind : Int} {null : Bool} {i : Int} {b : List Int} (h : checkR kind null false i b = 0) (h6 : ¬ kind ≤ 6) : b.length ≤ 200 := by
  unfold checkR at h
  by_cases h1 : kind < 1 ∨ kind > 8
  · rw [if_pos h1] at h; simp at h
  rw [if_neg h1, if_neg (show ¬ (false = true) by decide), if_neg h6] at h
  by_cases h0 : i = 0
  · rw [if_pos h0] at h
    unfold textR at h
    by_cases hl : b.length > 200
    · rw [if_pos hl] at h; simp at h
    · omega
  · rw [if_neg h0] at h; simp at h

theorem rput_l0 (n : Nat) : ∀ (u k : Nat) (acc : List Int), u < n → u < 18446744073709551616 → acc.length + (putL u).length ≤ 140737488355328 → (putL u).length ≤ k →
    stoaref02_Put.l0 k (u : Int) acc = some (acc ++ putL u) := by
  induction n with
  | zero => intro u k acc h; omega
  | succ n ih =>
    intro u k acc h h64 hl hk
    have hp := putL_pos u
    obtain ⟨k, rfl⟩ : ∃ m, k = m + 1 := ⟨k - 1, by omega⟩
    simp only [stoaref02_Put.l0]
    by_cases hs : u < 128
    · rw [if_neg (by omega), if_pos (by omega), putL_small hs, show (u : Int) % 256 = u by omega]
    · rw [putL_big hs, List.length_cons] at hl hk
      have hp := putL_pos (u / 128)
      rw [if_pos (by omega), if_pos (by omega), Int.tmod_eq_emod_of_nonneg (by omega), Int.tdiv_eq_ediv_of_nonneg (by omega), u64w (x := (u : Int) / 128) (by omega) (by omega), u64w (x := (u : Int) % 128 + 128) (by omega) (by omega), show (u : Int) / 128 = ((u / 128 : Nat) : Int) by omega,
        ih (u / 128) k _ (by omega) (by omega) (by rw [List.length_append, List.length_singleton]; omega) (by omega), putL_big hs, List.append_assoc]
      congr 3
      simp only [List.singleton_append, List.cons.injEq, and_true]
      omega
theorem rput_at {u : Int} (h0 : 0 ≤ u) (h1 : u < 18446744073709551616) (k : Nat) (hk : 10 ≤ k) : stoaref02_Put.f k u = some (putL u.toNat) := by
  have hl := putL_len10 (u := u.toNat) (by omega)
  have := rput_l0 (u.toNat + 1) u.toNat k [] (by omega) (by omega) (by simp only [List.length_nil]; omega) (by omega)
  rw [Int.toNat_of_nonneg h0] at this
  simpa [stoaref02_Put.f] using this

theorem cat_l1 (a b : List Int) (hl : a.length + b.length ≤ 140737488355328) (d : Nat) : ∀ (k i : Nat), i + d = b.length → d < k →
    stoaref01_Cat.l1 k b (a ++ b.take i) i = some (a ++ b) := by
  induction d with
  | zero =>
    intro k i hi hk
    obtain ⟨k, rfl⟩ : ∃ m, k = m + 1 := ⟨k - 1, by omega⟩
    simp only [stoaref01_Cat.l1]
    rw [if_neg (by omega), List.take_of_length_le (by omega)]
  | succ d ih =>
    intro k i hi hk
    obtain ⟨k, rfl⟩ : ∃ m, k = m + 1 := ⟨k - 1, by omega⟩
    have h1 : i < b.length := by omega
    simp only [stoaref01_Cat.l1]
    rw [if_pos (by omega), if_pos (by omega), if_pos (by rw [List.length_append, List.length_take]; omega), rd_nat h1, wsucc (by omega), List.append_assoc, ← take_succ_snoc h1]
    exact ih k (i + 1) (by omega) (by omega)
theorem cat_l0 (a b : List Int) (hl : a.length + b.length ≤ 140737488355328) (d : Nat) : ∀ (k i : Nat), i + d = a.length → d + b.length + 1 < k →
    stoaref01_Cat.l0 k a b (a.take i) i = some (a ++ b) := by
  induction d with
  | zero =>
    intro k i hi hk
    obtain ⟨k, rfl⟩ : ∃ m, k = m + 1 := ⟨k - 1, by omega⟩
    simp only [stoaref01_Cat.l0]
    rw [if_neg (by omega), List.take_of_length_le (by omega)]
    have := cat_l1 a b hl b.length k 0 (by omega) (by omega)
    simpa using this
  | succ d ih =>
    intro k i hi hk
    obtain ⟨k, rfl⟩ : ∃ m, k = m + 1 := ⟨k - 1, by omega⟩
    have h1 : i < a.length := by omega
    simp only [stoaref01_Cat.l0]
    rw [if_pos (by omega), if_pos (by omega), if_pos (by rw [List.length_take]; omega), rd_nat h1, wsucc (by omega), ← take_succ_snoc h1]
    exact ih k (i + 1) (by omega) (by omega)
theorem cat_at (a b : List Int) (hl : a.length + b.length ≤ 140737488355328) (k : Nat) (hk : a.length + b.length + 2 ≤ k) : stoaref01_Cat.f k a b = some (a ++ b) := by
  have := cat_l0 a b hl a.length k 0 (by omega) (by omega)
  simpa [stoaref01_Cat.f] using this
theorem cat_ev (a b : List Int) (hl : a.length + b.length ≤ 140737488355328) : ∃ K, ∀ k, K ≤ k → stoaref01_Cat.f k a b = some (a ++ b) :=
  ⟨_, fun k hk => cat_at a b hl k hk⟩

theorem rfold_at {v : Int} (h0 : -9223372036854775808 ≤ v) (h1 : v < 9223372036854775808) : stoaref05_Fold.f v = some (foldI v) := by
  unfold stoaref05_Fold.f foldI
  by_cases h : v ≥ 0
  · rw [if_pos h, u64w (x := v) (by omega) (by omega), u64w (by omega) (by omega)]
    congr 1
    split <;> omega
  · rw [if_neg h, w64 (show -9223372036854775808 ≤ v + 1 by omega) (by omega), w64 (by omega) (by omega), u64w (x := -(v + 1)) (by omega) (by omega), u64w (x := -(v + 1) * 2) (by omega) (by omega), u64w (by omega) (by omega)]
    congr 1
    split <;> omega
theorem foldI_range {v : Int} (h0 : -9223372036854775808 ≤ v) (h1 : v < 9223372036854775808) : 0 ≤ foldI v ∧ foldI v < 18446744073709551616 := by
  unfold foldI; split <;> omega
theorem rputc_at (kind : Int) (n : Bool) (i : Int) (b : List Int) (hi : -9223372036854775808 ≤ i ∧ i < 9223372036854775808) (k : Nat) (hk : 230 ≤ k) :
    stoaref05_Put.f k kind n i b = some (putC kind n i b) := by
  unfold stoaref05_Put.f putC
  rw [rcheck_at _ _ _ _ _ ⟨hi.1, by omega⟩ _ (by omega), Option.bind_some]
  by_cases hc : checkR kind true n i b = 0
  · rw [if_pos hc, if_pos hc]
    cases n with
    | true => rw [if_pos rfl, if_pos rfl]
    | false =>
      rw [if_neg (show ¬ (false = true) by decide), if_neg (show ¬ (false = true) by decide)]
      by_cases h6 : kind ≤ 6
      · obtain ⟨f1, f2⟩ := foldI_range hi.1 hi.2
        have hl := putL_len10 (u := (foldI i).toNat) (by omega)
        rw [if_pos h6, if_pos h6, rfold_at hi.1 hi.2, Option.bind_some, rput_at f1 f2 _ (by omega), Option.bind_some, cat_at _ _ (by simp; omega) _ (by simp; omega), Option.bind_some]; rfl
      · have hl2 := checkR_len hc h6
        have hl := putL_len10 (u := b.length) (by omega)
        rw [if_neg h6, if_neg h6, u64w (by omega) (by omega), rput_at (by omega) (by omega) _ (by omega), Option.bind_some, Int.toNat_natCast, cat_at _ _ (by simp; omega) _ (by simp; omega), Option.bind_some, cat_at _ _ (by simp; omega) _ (by simp; omega), Option.bind_some]; rfl
  · rw [if_neg hc, if_neg hc]
theorem putC_len (kind : Int) (n : Bool) (i : Int) (b : List Int) (hi : -9223372036854775808 ≤ i ∧ i < 9223372036854775808) : (putC kind n i b).1.length ≤ 220 := by
  unfold putC
  by_cases hc : checkR kind true n i b = 0
  · rw [if_pos hc]
    cases n with
    | true => rw [if_pos rfl]; simp
    | false =>
      rw [if_neg (show ¬ (false = true) by decide)]
      by_cases h6 : kind ≤ 6
      · obtain ⟨f1, f2⟩ := foldI_range hi.1 hi.2
        have hl := putL_len10 (u := (foldI i).toNat) (by omega)
        rw [if_pos h6]; simp only [List.length_cons]; omega
      · have hl2 := checkR_len hc h6
        have hl := putL_len10 (u := b.length) (by omega)
        rw [if_neg h6]; simp only [List.length_cons, List.length_append]; omega
  · rw [if_neg hc]; simp

theorem CellPuts : stoalaw05_CellPuts.Pure := by
  intro kind n i b hkd hi _ hl hb
  have hl : b.length ≤ 140737488351232 := by omega
  have hb := bytesWf hb
  have hi := i64Wf hi
  have hp := putC_len kind n i b hi
  obtain ⟨K1, h1⟩ := alive_ev
  obtain ⟨K2, h2⟩ := copy_ev b (by omega)
  obtain ⟨k, hk⟩ : ∃ k, k = K1 + K2 + b.length + 240 := ⟨_, rfl⟩
  refine ⟨k, ?_⟩
  have ha : stoaref05_Alike.f k n i b n i b = some true := by
    unfold stoaref05_Alike.f
    rw [if_pos (by simp), if_pos rfl, same_at _ _ (by omega) _ (by omega), Option.bind_some, decide_eq_true rfl]
  unfold stoalaw05_CellPuts.f
  rw [h1 _ (by omega), Option.bind_some, if_pos rfl]
  unfold stoaref05_Twin.f
  rw [h2 _ (by omega), Option.bind_some, Option.bind_some, rputc_at _ _ _ _ hi _ (by omega), Option.bind_some, cput_at _ _ _ _ hb hi _ (by omega), Option.bind_some, Option.bind_some, if_pos rfl, if_pos rfl, ha, Option.bind_some, if_pos rfl,
    apart_at (putC kind n i b).1 (by omega) _ (by omega), Option.bind_some, if_pos rfl, Option.bind_some]

end Go.Proofs.Ytaibfjipombilaa.Pure
