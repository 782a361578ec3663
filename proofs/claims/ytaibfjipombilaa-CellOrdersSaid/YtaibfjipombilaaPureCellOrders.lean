/- Compare answers as the document says; turned about it is turned about; equal cells alone are 0; of three cells it never goes in a ring. No condition. -/
import Derived.Test.YtaibfjipombilaaPCellOrdersx9
import Derived.Laws.BitsLemmas
set_option linter.unusedVariables false
set_option linter.unusedSimpArgs false
set_option maxRecDepth 20000
namespace Go.Proofs.Ytaibfjipombilaa.Pure
open Go.RowKit Go.Proofs.Ytaibfjipombilaa.PCellOrders Go.Proofs.YtaibfjipombilaaW.PrintWords Go.Proofs.YtaibfjipombilaaW.PrintLast Go.Proofs.YtaibfjipombilaaW.PrintMore

/-! ### base: numbers, lists (no program in sight) -/
theorem w64 {x : Int} (h0 : -9223372036854775808 ≤ x) (h1 : x ≤ 9223372036854775807) : wrap64 x = x := by
  unfold wrap64; omega
theorem u64r (x : Int) : IntKind.u64.wrap x = x % 18446744073709551616 := by
  simp [IntKind.wrap, IntKind.bits, IntKind.signed]
theorem u32r (x : Int) : IntKind.u32.wrap x = x % 4294967296 := by
  simp [IntKind.wrap, IntKind.bits, IntKind.signed]
theorem u64w {x : Int} (h0 : 0 ≤ x) (h1 : x < 18446744073709551616) : IntKind.u64.wrap x = x := by
  rw [u64r]; omega
theorem wsucc {i : Nat} (h : i < 9223372036854775807) : wrap64 ((i : Int) + 1) = ((i + 1 : Nat) : Int) := by
  unfold wrap64; omega
theorem byteWf {x : Int} (h : (Lit.int .u8 x).wf = true) : 0 ≤ x ∧ x < 256 := by
  simp [Lit.wf, IntKind.min, IntKind.max, IntKind.signed, IntKind.bits] at h
  omega
theorem u64Wf {x : Int} (h : (Lit.int .u64 x).wf = true) : 0 ≤ x ∧ x < 18446744073709551616 := by
  simp [Lit.wf, IntKind.min, IntKind.max, IntKind.signed, IntKind.bits] at h
  omega
theorem i64Wf {x : Int} (h : (Lit.int .i64 x).wf = true) : -9223372036854775808 ≤ x ∧ x < 9223372036854775808 := by
  simp [Lit.wf, IntKind.min, IntKind.max, IntKind.signed, IntKind.bits] at h
  omega
def Bytes (l : List Int) : Prop := ∀ x ∈ l, 0 ≤ x ∧ x < 256
def U64s (l : List Int) : Prop := ∀ x ∈ l, 0 ≤ x ∧ x < 18446744073709551616
theorem bytesWf {l : List Int} (h : ∀ x ∈ l, (Lit.int .u8 x).wf = true) : Bytes l := fun x hx => byteWf (h x hx)
theorem u64sWf {l : List Int} (h : ∀ x ∈ l, (Lit.int .u64 x).wf = true) : U64s l := fun x hx => u64Wf (h x hx)
theorem Bytes.app {a b : List Int} (ha : Bytes a) (hb : Bytes b) : Bytes (a ++ b) := fun x hx => (List.mem_append.1 hx).elim (ha x) (hb x)
theorem Bytes.left {a b : List Int} (h : Bytes (a ++ b)) : Bytes a := fun x hx => h x (List.mem_append_left _ hx)
theorem Bytes.right {a b : List Int} (h : Bytes (a ++ b)) : Bytes b := fun x hx => h x (List.mem_append_right _ hx)
theorem Bytes.drop {a : List Int} (h : Bytes a) (n : Nat) : Bytes (a.drop n) := fun x hx => h x (List.mem_of_mem_drop hx)
theorem Bytes.take {a : List Int} (h : Bytes a) (n : Nat) : Bytes (a.take n) := fun x hx => h x (List.mem_of_mem_take hx)
theorem U64s.drop {a : List Int} (h : U64s a) (n : Nat) : U64s (a.drop n) := fun x hx => h x (List.mem_of_mem_drop hx)
theorem U64s.take {a : List Int} (h : U64s a) (n : Nat) : U64s (a.take n) := fun x hx => h x (List.mem_of_mem_take hx)
theorem rd_nat {l : List Int} {i : Nat} (h : i < l.length) : rd l (i : Int) = l[i] := by
  simp [rd, List.getD_eq_getElem?_getD, h]
theorem rd_int {l : List Int} {i : Int} (h0 : 0 ≤ i) (h : i.toNat < l.length) : rd l i = l[i.toNat] := by
  simp [rd, List.getD_eq_getElem?_getD, h]
theorem drop_cons {l : List Int} {i : Nat} (h : i < l.length) : l.drop i = l[i] :: l.drop (i + 1) := List.drop_eq_getElem_cons h
theorem take_succ_snoc {l : List Int} {i : Nat} (h : i < l.length) : l.take (i + 1) = l.take i ++ [l[i]] := by rw [List.take_add_one, List.getElem?_eq_getElem h]; rfl
theorem pow_pos' (n : Nat) : (0 : Int) < 128 ^ n := Int.pow_pos (by decide)
theorem pow128 (n : Nat) : (128 : Int) ^ n = 2 ^ (7 * n) := by rw [Int.pow_mul]; rfl
theorem ipow_le {b : Int} (hb : 1 ≤ b) {m n : Nat} (h : m ≤ n) : b ^ m ≤ b ^ n := by
  obtain ⟨a, rfl⟩ := Int.eq_ofNat_of_zero_le (show 0 ≤ b by omega)
  exact_mod_cast Nat.pow_le_pow_right (by omega) h

theorem same_l0 (a b : List Int) (hab : a.length = b.length) (hl : a.length ≤ 140737488355328) (d : Nat) : ∀ (k i : Nat), i + d = a.length → d < k →
    stoaref01_Same.l0 k a b i = some (decide (a.drop i = b.drop i)) := by
  induction d with
  | zero =>
    intro k i hi hk
    obtain ⟨k, rfl⟩ : ∃ m, k = m + 1 := ⟨k - 1, by omega⟩
    simp only [stoaref01_Same.l0]
    rw [if_neg (by omega), List.drop_eq_nil_of_le (by omega), List.drop_eq_nil_of_le (by omega)]; simp
  | succ d ih =>
    intro k i hi hk
    obtain ⟨k, rfl⟩ : ∃ m, k = m + 1 := ⟨k - 1, by omega⟩
    have h1 : i < a.length := by omega
    have h2 : i < b.length := by omega
    simp only [stoaref01_Same.l0]
    rw [if_pos (by omega), if_pos (by omega), if_pos (by omega), rd_nat h1, rd_nat h2, wsucc (by omega), show a.drop i = a[i] :: a.drop (i + 1) from drop_cons h1, show b.drop i = b[i] :: b.drop (i + 1) from drop_cons h2]
    by_cases e : a[i] = b[i]
    · rw [if_pos e, ih k (i + 1) (by omega) (by omega)]; simp only [e, List.cons.injEq, true_and]
    · rw [if_neg e]; simp only [e, List.cons.injEq, false_and, decide_false]
theorem same_at (a b : List Int) (hl : a.length ≤ 140737488355328) (k : Nat) (hk : a.length + 1 ≤ k) : stoaref01_Same.f k a b = some (decide (a = b)) := by
  simp only [stoaref01_Same.f]
  by_cases h : a.length = b.length
  · rw [if_pos (by omega)]
    have := same_l0 a b h hl a.length k 0 (by omega) (by omega)
    simpa using this
  · rw [if_neg (by omega)]
    have : a ≠ b := fun e => h (by rw [e])
    simp [this]
theorem same_ev (a b : List Int) (hl : a.length ≤ 140737488355328) : ∃ K, ∀ k, K ≤ k → stoaref01_Same.f k a b = some (decide (a = b)) :=
  ⟨_, fun k hk => same_at a b hl k hk⟩

theorem alive_ev : ∃ K, ∀ k, K ≤ k → stoalaw05_alive.f k = some true := by
  have h : stoalaw05_alive.f 40 = some true := by decide +kernel
  exact Ev.of (fun k => stoalaw05_alive.mono k) h

/-! ### m_cmp: which of two lists stands ahead -/
def cmpL : List Int → List Int → Int
  | [], [] => 0
  | [], _ :: _ => -1
  | _ :: _, [] => 1
  | x :: a, y :: b => if x < y then -1 else if x > y then 1 else cmpL a b
theorem cmpL_range : ∀ a b, cmpL a b = -1 ∨ cmpL a b = 0 ∨ cmpL a b = 1
  | [], [] => .inr (.inl rfl)
  | [], _ :: _ => .inl rfl
  | _ :: _, [] => .inr (.inr rfl)
  | x :: a, y :: b => by
    unfold cmpL
    by_cases h : x < y
    · rw [if_pos h]; exact .inl rfl
    rw [if_neg h]
    by_cases h2 : x > y
    · rw [if_pos h2]; exact .inr (.inr rfl)
    rw [if_neg h2]; exact cmpL_range a b
theorem cmpL_anti : ∀ a b, cmpL b a = - cmpL a b
  | [], [] => rfl
  | [], _ :: _ => rfl
  | _ :: _, [] => rfl
  | x :: a, y :: b => by
    rcases Int.lt_trichotomy x y with h | h | h
    · simp only [cmpL, gt_iff_lt, if_pos h, if_neg (show ¬ y < x by omega)]; rfl
    · subst h; simp only [cmpL, gt_iff_lt, if_neg (Int.lt_irrefl x)]; exact cmpL_anti a b
    · simp only [cmpL, gt_iff_lt, if_pos h, if_neg (show ¬ x < y by omega)]
theorem cmpL_zero : ∀ a b, cmpL a b = 0 ↔ a = b
  | [], [] => by simp [cmpL]
  | [], _ :: _ => by simp [cmpL]
  | _ :: _, [] => by simp [cmpL]
  | x :: a, y :: b => by
    unfold cmpL
    by_cases h : x < y
    · rw [if_pos h, List.cons.injEq]; constructor
      · intro q; simp at q
      · intro q; omega
    rw [if_neg h]
    by_cases h2 : x > y
    · rw [if_pos h2, List.cons.injEq]; constructor
      · intro q; simp at q
      · intro q; omega
    rw [if_neg h2, cmpL_zero a b, List.cons.injEq]
    exact ⟨fun q => ⟨by omega, q⟩, fun q => q.2⟩
theorem cmpL_trans : ∀ a b c, cmpL a b ≤ 0 → cmpL b c ≤ 0 → cmpL a c ≤ 0
  | [], _, [], _, _ => by simp [cmpL]
  | [], _, _ :: _, _, _ => by simp [cmpL]
  | _ :: _, [], _, h, _ => by simp [cmpL] at h
  | _ :: _, _ :: _, [], _, h => by simp [cmpL] at h
  | x :: a, y :: b, z :: c, h1, h2 => by
    unfold cmpL at h1 h2 ⊢
    by_cases c3 : x < z
    · rw [if_pos c3]; decide
    rw [if_neg c3]
    by_cases p1 : x < y
    · by_cases q1 : y < z
      · omega
      rw [if_neg q1] at h2
      by_cases q2 : y > z
      · rw [if_pos q2] at h2; omega
      omega
    rw [if_neg p1] at h1
    by_cases p2 : x > y
    · rw [if_pos p2] at h1; omega
    rw [if_neg p2] at h1
    by_cases q1 : y < z
    · omega
    rw [if_neg q1] at h2
    by_cases q2 : y > z
    · rw [if_pos q2] at h2; omega
    rw [if_neg q2] at h2
    rw [if_neg (by omega)]
    exact cmpL_trans a b c h1 h2
theorem compareBytes_eq : ∀ a b, Bytes a → Bytes b → Lib.compareBytes (Lib.bytesOf a) (Lib.bytesOf b) = cmpL a b
  | [], [], _, _ => rfl
  | [], _ :: _, _, _ => rfl
  | _ :: _, [], _, _ => rfl
  | x :: a, y :: b, ha, hb => by
    have hx := ha x List.mem_cons_self
    have hy := hb y List.mem_cons_self
    have ih := compareBytes_eq a b (fun z hz => ha z (List.mem_cons_of_mem _ hz)) (fun z hz => hb z (List.mem_cons_of_mem _ hz))
    have e1 : Lib.bytesOf (x :: a) = UInt8.ofNat x.toNat :: Lib.bytesOf a := rfl
    have e2 : Lib.bytesOf (y :: b) = UInt8.ofNat y.toNat :: Lib.bytesOf b := rfl
    have lt : ∀ u v : Int, (0 ≤ u ∧ u < 256) → (0 ≤ v ∧ v < 256) → ((UInt8.ofNat u.toNat < UInt8.ofNat v.toNat) ↔ u < v) := by
      intro u v hu hv
      rw [UInt8.lt_iff_toNat_lt, UInt8.toNat_ofNat', UInt8.toNat_ofNat', Nat.mod_eq_of_lt (show u.toNat < 2 ^ 8 by omega), Nat.mod_eq_of_lt (show v.toNat < 2 ^ 8 by omega)]
      omega
    rw [e1, e2]
    unfold Lib.compareBytes cmpL
    by_cases h : x < y
    · rw [if_pos ((lt x y hx hy).2 h), if_pos h]
    rw [if_neg (fun q => h ((lt x y hx hy).1 q)), if_neg h]
    by_cases h2 : x > y
    · rw [if_pos ((lt y x hy hx).2 h2), if_pos h2]
    rw [if_neg (fun q => h2 ((lt y x hy hx).1 q)), if_neg h2]; exact ih

/-! ### m_bits: or, and, shifts as arithmetic -/
theorem wraps_u64 (n : Int) (h0 : 0 ≤ n) (h1 : n < 2 ^ 64) : IntKind.u64.wrap n = n := by
  rw [u64r]; omega
theorem and127 {x : Int} (h0 : 0 ≤ x) (h1 : x < 256) : Go.bits .and .u8 x 127 = x % 128 := Go.bits_mask .u8 8 (by decide) Go.wraps_u8 7 (by decide) x h0 h1
/-- A number below 2^j, and one whose lowest j bits are 0: 'or' adds. -/
theorem or_low {j : Nat} {x y : Int} (hx0 : 0 ≤ x) (hx : x < 2 ^ j) (hy0 : 0 ≤ y) (hb : x + y * 2 ^ j < 2 ^ 64) :
    Go.bits .or .u64 x (y * 2 ^ j) = x + y * 2 ^ j := by
  have hp : (0 : Int) < 2 ^ j := Int.pow_pos (by decide)
  obtain ⟨a, rfl⟩ := Int.eq_ofNat_of_zero_le hx0
  obtain ⟨b, rfl⟩ := Int.eq_ofNat_of_zero_le hy0
  have ha : a < 2 ^ j := by exact_mod_cast hx
  have hab : a + b * 2 ^ j < 2 ^ 64 := by exact_mod_cast hb
  have e : ((b : Int) * 2 ^ j) = ((2 ^ j * b : Nat) : Int) := by rw [Nat.mul_comm]; simp
  have hc : a + 2 ^ j * b < 2 ^ 64 := by rw [Nat.mul_comm]; exact hab
  rw [e, (Go.bits_nat .u64 64 (by decide) wraps_u64 a (2 ^ j * b) (by omega) (by omega)).2, Nat.or_comm, ← Nat.two_pow_add_eq_or_of_lt ha b]
  omega
theorem shl64 {x y : Int} (hx : 0 ≤ x) {n : Nat} (hy : y = n) (hn : n ≤ 64) (hb : x * 2 ^ n < 2 ^ 64) : shl .u64 x y = x * 2 ^ n := by
  subst hy
  have : (0 : Int) ≤ x * 2 ^ n := Int.mul_nonneg hx (Int.le_of_lt (Int.pow_pos (by decide)))
  have e : min n IntKind.u64.bits = n := by simp only [IntKind.bits]; omega
  unfold shl
  rw [Int.toNat_natCast, e, wraps_u64 _ this hb]

/-! ### m_vint: numbers in as few bytes as they need, by definition -/
def putL (u : Nat) : List Int := if u < 128 then [(u : Int)] else ((u % 128 + 128 : Nat) : Int) :: putL (u / 128)
theorem putL_small {u : Nat} (h : u < 128) : putL u = [(u : Int)] := by rw [putL, if_pos h]
theorem putL_big {u : Nat} (h : ¬ u < 128) : putL u = ((u % 128 + 128 : Nat) : Int) :: putL (u / 128) := by rw [putL, if_neg h]
def getL : List Int → Nat → Except Int (Int × Nat)
  | [], _ => .error 2
  | c :: r, i => if i = 9 ∧ c > 1 then .error 20 else if c ≥ 128 then (match getL r (i + 1) with | .ok (v, n) => .ok (c - 128 + 128 * v, n + 1) | .error e => .error e)
    else if c = 0 ∧ i > 0 then .error 5 else .ok (c, 1)
theorem putL_bytes (n : Nat) : ∀ u, u < n → Bytes (putL u) := by
  induction n with
  | zero => intro u h; omega
  | succ n ih =>
    intro u h
    by_cases hu : u < 128
    · rw [putL_small hu]; intro x hx; simp only [List.mem_singleton] at hx; omega
    · rw [putL_big hu]; intro x hx
      rcases List.mem_cons.1 hx with rfl | hx
      · omega
      · exact ih (u / 128) (by omega) x hx
theorem putL_pos (u : Nat) : 1 ≤ (putL u).length := by
  by_cases hu : u < 128
  · rw [putL_small hu]; simp
  · rw [putL_big hu]; simp
/-- How long the bytes are: bounds on the number. -/
theorem putL_len (n : Nat) : ∀ u, u < n → u < 2 ^ (7 * (putL u).length) ∧ (2 ≤ (putL u).length → 2 ^ (7 * ((putL u).length - 1)) ≤ u) := by
  induction n with
  | zero => intro u h; omega
  | succ n ih =>
    intro u h
    by_cases hu : u < 128
    · rw [putL_small hu]; simp; omega
    · rw [putL_big hu]
      obtain ⟨h1, h2⟩ := ih (u / 128) (by omega)
      have hp := putL_pos (u / 128)
      simp only [List.length_cons, Nat.add_sub_cancel]
      have e : 2 ^ (7 * ((putL (u / 128)).length + 1)) = 2 ^ (7 * (putL (u / 128)).length) * 128 := by rw [Nat.mul_add, Nat.pow_add]
      refine ⟨by rw [e]; omega, fun _ => ?_⟩
      by_cases hl : 2 ≤ (putL (u / 128)).length
      · have h3 := h2 hl
        have e2 : 2 ^ (7 * (putL (u / 128)).length) = 2 ^ (7 * ((putL (u / 128)).length - 1)) * 128 := by
          rw [show 7 * (putL (u / 128)).length = 7 * ((putL (u / 128)).length - 1) + 7 by omega, Nat.pow_add]
        rw [e2]; omega
      · rw [show (putL (u / 128)).length = 1 by omega]; omega
theorem putL_len_le {u j : Nat} (hj : 1 ≤ j) (h : u < 2 ^ (7 * j)) : (putL u).length ≤ j := by
  obtain ⟨_, h2⟩ := putL_len (u + 1) u (by omega)
  refine Decidable.byContradiction fun hc => ?_
  have h3 := h2 (by omega)
  have : 2 ^ (7 * j) ≤ 2 ^ (7 * ((putL u).length - 1)) := Nat.pow_le_pow_right (by decide) (by omega)
  omega
theorem putL_len10 {u : Nat} (h : u < 18446744073709551616) : (putL u).length ≤ 10 :=
  putL_len_le (by decide) (Nat.lt_trans h (by decide))
theorem putL_mono {u v : Nat} (h : u ≤ v) : (putL u).length ≤ (putL v).length := by
  obtain ⟨h1, _⟩ := putL_len (v + 1) v (by omega)
  exact putL_len_le (putL_pos v) (by omega)
/-- What is got: its bounds. -/
theorem getL_ok : ∀ (b : List Int) (i : Nat) (v : Int) (n : Nat), Bytes b → i ≤ 9 → getL b i = .ok (v, n) →
    0 ≤ v ∧ v < 2 ^ (64 - 7 * i) ∧ 1 ≤ n ∧ n ≤ b.length ∧ n + i ≤ 10 := by
  intro b
  induction b with
  | nil => intro i v n _ _ h; simp [getL] at h
  | cons c r ih =>
    intro i v n hb hi h
    have hc := hb c (List.mem_cons_self)
    have hr : Bytes r := fun x hx => hb x (List.mem_cons_of_mem _ hx)
    rw [getL] at h
    by_cases h9 : i = 9 ∧ c > 1
    · rw [if_pos h9] at h; simp at h
    rw [if_neg h9] at h
    by_cases h128 : c ≥ 128
    · rw [if_pos h128] at h
      have hi8 : i + 1 ≤ 9 := by omega
      cases hg : getL r (i + 1) with
      | error e => rw [hg] at h; simp at h
      | ok p =>
        obtain ⟨v', n'⟩ := p
        rw [hg] at h
        simp only [Except.ok.injEq, Prod.mk.injEq] at h
        obtain ⟨rfl, rfl⟩ := h
        obtain ⟨g1, g2, g3, g4, g5⟩ := ih (i + 1) v' n' hr hi8 hg
        have e : (2 : Int) ^ (64 - 7 * i) = 2 ^ (64 - 7 * (i + 1)) * 128 := by
          rw [show 64 - 7 * i = 64 - 7 * (i + 1) + 7 by omega, Int.pow_add]; rfl
        refine ⟨by omega, by rw [e]; omega, by omega, by simp only [List.length_cons]; omega, by omega⟩
    · rw [if_neg h128] at h
      by_cases h0 : c = 0 ∧ i > 0
      · rw [if_pos h0] at h; simp at h
      rw [if_neg h0] at h
      simp only [Except.ok.injEq, Prod.mk.injEq] at h
      obtain ⟨rfl, rfl⟩ := h
      refine ⟨by omega, ?_, by omega, by simp, by omega⟩
      by_cases hi9 : i = 9
      · subst hi9; have : ¬ c > 1 := fun h => h9 ⟨rfl, h⟩; simp; omega
      · have : (2 : Int) ^ 8 ≤ 2 ^ (64 - 7 * i) := ipow_le (by decide) (by omega)
        omega
/-- What was put is got again. -/
theorem getL_putL (n : Nat) : ∀ (u i : Nat) (rest : List Int), u < n → i ≤ 9 → u < 2 ^ (64 - 7 * i) → (i > 0 → u > 0) → getL (putL u ++ rest) i = .ok ((u : Int), (putL u).length) := by
  induction n with
  | zero => intro u i rest h; omega
  | succ n ih =>
    intro u i rest h hi hu hp
    by_cases hs : u < 128
    · rw [putL_small hs]
      simp only [List.singleton_append, getL, List.length_singleton]
      rw [if_neg, if_neg (by omega), if_neg (by omega)]
      rintro ⟨rfl, h1⟩
      simp at hu; omega
    · rw [putL_big hs]
      simp only [List.cons_append, getL, List.length_cons]
      have hi8 : i + 1 ≤ 9 := by
        refine Decidable.byContradiction fun hc => ?_
        have : i = 9 := by omega
        subst this; simp at hu; omega
      have e : (2 : Nat) ^ (64 - 7 * i) = 2 ^ (64 - 7 * (i + 1)) * 128 := by
        rw [show 64 - 7 * i = 64 - 7 * (i + 1) + 7 by omega, Nat.pow_add]
      rw [if_neg (by omega), if_pos (by omega), ih (u / 128) (i + 1) rest (by omega) hi8 (by omega) (by omega)]
      simp only [Except.ok.injEq, Prod.mk.injEq, and_true]
      omega
/-- A piece of what was put isn't enough. -/
theorem getL_short (n : Nat) : ∀ (u i m : Nat), u < n → i ≤ 9 → u < 2 ^ (64 - 7 * i) → m < (putL u).length → getL ((putL u).take m) i = .error 2 := by
  induction n with
  | zero => intro u i m h; omega
  | succ n ih =>
    intro u i m h hi hu hm
    cases m with
    | zero => simp [getL]
    | succ m =>
      by_cases hs : u < 128
      · rw [putL_small hs] at hm; simp at hm
      · rw [putL_big hs] at hm ⊢
        simp only [List.length_cons] at hm
        simp only [List.take_succ_cons, getL]
        have hi8 : i + 1 ≤ 9 := by
          refine Decidable.byContradiction fun hc => ?_
          have : i = 9 := by omega
          subst this; simp at hu; omega
        have e : (2 : Nat) ^ (64 - 7 * i) = 2 ^ (64 - 7 * (i + 1)) * 128 := by
          rw [show 64 - 7 * i = 64 - 7 * (i + 1) + 7 by omega, Nat.pow_add]
        rw [if_neg (by omega), if_pos (by omega), ih (u / 128) (i + 1) m (by omega) hi8 (by omega) (by omega)]
/-- Bytes that are got are the only ones. -/
theorem getL_only : ∀ (b : List Int) (i : Nat) (v : Int) (n : Nat), Bytes b → i ≤ 9 → getL b i = .ok (v, n) → putL v.toNat = b.take n ∧ (i > 0 → 0 < v) := by
  intro b
  induction b with
  | nil => intro i v n _ _ h; simp [getL] at h
  | cons c r ih =>
    intro i v n hb hi h
    have hc := hb c (List.mem_cons_self)
    have hr : Bytes r := fun x hx => hb x (List.mem_cons_of_mem _ hx)
    rw [getL] at h
    by_cases h9 : i = 9 ∧ c > 1
    · rw [if_pos h9] at h; simp at h
    rw [if_neg h9] at h
    by_cases h128 : c ≥ 128
    · rw [if_pos h128] at h
      have hi8 : i + 1 ≤ 9 := by omega
      cases hg : getL r (i + 1) with
      | error e => rw [hg] at h; simp at h
      | ok p =>
        obtain ⟨v', n'⟩ := p
        rw [hg] at h
        simp only [Except.ok.injEq, Prod.mk.injEq] at h
        obtain ⟨rfl, rfl⟩ := h
        obtain ⟨g1, g2⟩ := ih (i + 1) v' n' hr hi8 hg
        obtain ⟨q1, _⟩ := getL_ok r (i + 1) v' n' hr hi8 hg
        have g3 := g2 (by omega)
        refine ⟨?_, fun _ => by omega⟩
        rw [putL_big (by omega), show (c - 128 + 128 * v').toNat / 128 = v'.toNat by omega, g1, List.take_succ_cons]
        congr 1; omega
    · rw [if_neg h128] at h
      by_cases h0 : c = 0 ∧ i > 0
      · rw [if_pos h0] at h; simp at h
      rw [if_neg h0] at h
      simp only [Except.ok.injEq, Prod.mk.injEq] at h
      obtain ⟨rfl, rfl⟩ := h
      refine ⟨?_, by omega⟩
      rw [putL_small (by omega)]; simp; omega
/-- The answer of Get. -/
def getR (b : List Int) (at_ : Int) : Int × Int × Int :=
  if at_ < 0 ∨ at_ > b.length then (0, 0, 1) else match getL (b.drop at_.toNat) 0 with
    | .ok (v, n) => (v, at_ + n, 0)
    | .error e => (0, 0, e)
theorem getL_err : ∀ (b : List Int) (i : Nat) (e : Int), getL b i = .error e → e = 2 ∨ e = 20 ∨ e = 5 := by
  intro b
  induction b with
  | nil => intro i e h; simp only [getL, Except.error.injEq] at h; omega
  | cons c r ih =>
    intro i e h
    rw [getL] at h
    split at h
    · simp only [Except.error.injEq] at h; omega
    split at h
    · split at h
      · simp at h
      · rename_i e' hg; simp only [Except.error.injEq] at h; subst h; exact ih _ _ hg
    split at h
    · simp only [Except.error.injEq] at h; omega
    · simp at h
theorem getR_ok {b : List Int} {at_ v nx : Int} (hb : Bytes b) (h : getR b at_ = (v, nx, 0)) :
    0 ≤ at_ ∧ at_ < nx ∧ nx ≤ b.length ∧ nx ≤ at_ + 10 ∧ 0 ≤ v ∧ v < 18446744073709551616 ∧ putL v.toNat = (b.take nx.toNat).drop at_.toNat := by
  unfold getR at h
  split at h
  · simp at h
  rename_i ha
  split at h
  · rename_i v' n hg
    simp only [Prod.mk.injEq, and_true] at h
    obtain ⟨rfl, rfl⟩ := h
    obtain ⟨g1, g2, g3, g4, g5⟩ := getL_ok _ 0 _ _ (hb.drop _) (by decide) hg
    obtain ⟨q1, _⟩ := getL_only _ 0 _ _ (hb.drop _) (by decide) hg
    rw [List.length_drop] at g4
    refine ⟨by omega, by omega, by omega, by omega, g1, by simpa using g2, ?_⟩
    rw [q1, List.drop_take, show (at_ + (n : Int)).toNat - at_.toNat = n by omega]
  · rename_i e hg
    have := getL_err _ _ _ hg
    simp only [Prod.mk.injEq] at h
    omega
theorem getR_bad {b : List Int} {at_ v nx e : Int} (h : getR b at_ = (v, nx, e)) (he : e ≠ 0) : v = 0 ∧ nx = 0 := by
  unfold getR at h
  split at h
  · simp only [Prod.mk.injEq] at h; omega
  split at h
  · simp only [Prod.mk.injEq] at h; omega
  · simp only [Prod.mk.injEq] at h; omega
theorem getR_put (a c : List Int) {u : Nat} (hu : u < 18446744073709551616) : getR (a ++ putL u ++ c) (a.length : Int) = ((u : Int), (a.length : Int) + (putL u).length, 0) := by
  unfold getR
  rw [if_neg (by simp only [List.length_append]; omega), Int.toNat_natCast, List.append_assoc, List.drop_left, getL_putL (u + 1) u 0 c (by omega) (by decide) (by simpa using hu) (by omega)]
theorem getR_bad2 {b : List Int} {at_ : Int} (he : (getR b at_).2.2 ≠ 0) : (getR b at_).1 = 0 ∧ (getR b at_).2.1 = 0 := getR_bad (b := b) (at_ := at_) (v := (getR b at_).1) (nx := (getR b at_).2.1) (e := (getR b at_).2.2) rfl he

def foldI (v : Int) : Int := if 0 ≤ v then 2 * v else -2 * v - 1
def unfoldI (u : Int) : Int := if u % 2 = 0 then u / 2 else -(u / 2) - 1

/-! ### m_cell: one value of a table, by definition -/
theorem zero_in : ∀ l : List Int, Bytes l → (0 ≤ Lib.indexByte (Lib.bytesOf l) (0 : Int).toNat.toUInt8 ↔ 0 ∈ l)
  | [], _ => by simp [Lib.bytesOf, Lib.indexByte]
  | x :: l, h => by
    have hx := h x List.mem_cons_self
    have ih := zero_in l (fun y hy => h y (List.mem_cons_of_mem _ hy))
    have hge := Lib.indexByte_ge (Lib.bytesOf l) (0 : Int).toNat.toUInt8
    have hb : Lib.bytesOf (x :: l) = UInt8.ofNat x.toNat :: Lib.bytesOf l := rfl
    rw [hb, Lib.indexByte]
    by_cases h0 : x = 0
    · subst h0; simp
    · have hne : (UInt8.ofNat x.toNat == (0 : Int).toNat.toUInt8) = false := by
        rw [beq_eq_false_iff_ne]
        intro he
        have := congrArg UInt8.toNat he
        simp only [UInt8.toNat_ofNat', Int.toNat_zero] at this
        have h2 : x.toNat % 2 ^ 8 = x.toNat := Nat.mod_eq_of_lt (by omega)
        rw [h2] at this
        have h3 : ((0 : Nat).toUInt8).toNat = 0 := rfl
        omega
      rw [hne]
      simp only [Bool.false_eq_true, if_false, List.mem_cons]
      by_cases hm : Lib.indexByte (Lib.bytesOf l) (0 : Int).toNat.toUInt8 = -1
      · rw [hm] at ih ⊢
        have : ¬ (0 ∈ l) := fun q => absurd (ih.2 q) (by decide)
        simp [this, Ne.symm h0]
      · have hn : (Lib.indexByte (Lib.bytesOf l) (0 : Int).toNat.toUInt8 == -1) = false := by rw [beq_eq_false_iff_ne]; exact hm
        rw [hn]
        simp only [Bool.false_eq_true, if_false]
        constructor
        · intro _; exact .inr (ih.1 (by omega))
        · intro _; omega
def holdsR (kind v : Int) : Bool :=
  if kind = 1 then decide (-128 ≤ v ∧ v ≤ 127) else if kind = 2 then decide (-32768 ≤ v ∧ v ≤ 32767) else if kind = 3 then decide (-2147483648 ≤ v ∧ v ≤ 2147483647)
  else if kind = 4 then true else if kind = 5 then decide (0 ≤ v ∧ v ≤ 65535) else decide (0 ≤ v ∧ v ≤ 1)
def textR (kind : Int) (b : List Int) : Int := if b.length > 200 then 4 else if kind = 7 ∧ 0 ∈ b then 5 else 0
def checkR (kind : Int) (null n : Bool) (i : Int) (b : List Int) : Int :=
  if kind < 1 ∨ kind > 8 then 1 else if n = true then (if null = true then (if i = 0 ∧ b = [] then 0 else 50) else 51)
  else if kind ≤ 6 then (if b = [] then (if holdsR kind i = true then 0 else 52) else 50) else if i = 0 then textR kind b else 50
def putC (kind : Int) (n : Bool) (i : Int) (b : List Int) : List Int × Int :=
  if checkR kind true n i b = 0 then (if n = true then ([0], 0) else if kind ≤ 6 then (1 :: putL (foldI i).toNat, 0) else (1 :: (putL b.length ++ b), 0)) else ([], checkR kind true n i b)
def bad5 (e : Int) : Bool × Int × List Int × Int × Int := (false, 0, [], 0, e)
def getC (kind : Int) (b : List Int) (at_ : Int) : Bool × Int × List Int × Int × Int :=
  if kind < 1 ∨ kind > 8 ∨ at_ < 0 ∨ at_ > b.length then bad5 1 else if at_ = b.length then bad5 2 else if rd b at_ > 1 then bad5 5 else if rd b at_ = 0 then (true, 0, [], at_ + 1, 0)
  else if (getR b (at_ + 1)).2.2 = 0 then
    (if kind ≤ 6 then (if holdsR kind (unfoldI (getR b (at_ + 1)).1) = true then (false, unfoldI (getR b (at_ + 1)).1, [], (getR b (at_ + 1)).2.1, 0) else bad5 52)
     else if (getR b (at_ + 1)).1 > 200 then bad5 4 else if (getR b (at_ + 1)).1 > b.length - (getR b (at_ + 1)).2.1 then bad5 2
     else if textR kind ((b.take ((getR b (at_ + 1)).2.1 + (getR b (at_ + 1)).1).toNat).drop (getR b (at_ + 1)).2.1.toNat) = 0 then
       (false, 0, (b.take ((getR b (at_ + 1)).2.1 + (getR b (at_ + 1)).1).toNat).drop (getR b (at_ + 1)).2.1.toNat, (getR b (at_ + 1)).2.1 + (getR b (at_ + 1)).1, 0)
     else bad5 (textR kind ((b.take ((getR b (at_ + 1)).2.1 + (getR b (at_ + 1)).1).toNat).drop (getR b (at_ + 1)).2.1.toNat)))
  else bad5 (getR b (at_ + 1)).2.2
theorem textR_err (kind : Int) (b : List Int) : textR kind b = 0 ∨ textR kind b = 4 ∨ textR kind b = 5 := by
  unfold textR; split
  · omega
  · split <;> omega
/-- What is got, taken apart. -/
theorem getC_ok {kind : Int} {b : List Int} {at_ : Int} (hb : Bytes b) (h : (getC kind b at_).2.2.2.2 = 0) :
    (1 ≤ kind ∧ kind ≤ 8 ∧ 0 ≤ at_ ∧ at_ < b.length) ∧
    ((rd b at_ = 0 ∧ getC kind b at_ = (true, 0, [], at_ + 1, 0)) ∨
     (rd b at_ = 1 ∧ (getR b (at_ + 1)).2.2 = 0 ∧ kind ≤ 6 ∧ holdsR kind (unfoldI (getR b (at_ + 1)).1) = true ∧ getC kind b at_ = (false, unfoldI (getR b (at_ + 1)).1, [], (getR b (at_ + 1)).2.1, 0)) ∨
     (rd b at_ = 1 ∧ (getR b (at_ + 1)).2.2 = 0 ∧ 6 < kind ∧ (getR b (at_ + 1)).1 ≤ 200 ∧ (getR b (at_ + 1)).1 ≤ b.length - (getR b (at_ + 1)).2.1 ∧
       textR kind ((b.take ((getR b (at_ + 1)).2.1 + (getR b (at_ + 1)).1).toNat).drop (getR b (at_ + 1)).2.1.toNat) = 0 ∧
       getC kind b at_ = (false, 0, (b.take ((getR b (at_ + 1)).2.1 + (getR b (at_ + 1)).1).toNat).drop (getR b (at_ + 1)).2.1.toNat, (getR b (at_ + 1)).2.1 + (getR b (at_ + 1)).1, 0))) := by
  unfold getC at h ⊢
  by_cases h1 : kind < 1 ∨ kind > 8 ∨ at_ < 0 ∨ at_ > b.length
  · rw [if_pos h1] at h; simp [bad5] at h
  rw [if_neg h1] at h ⊢
  by_cases h2 : at_ = b.length
  · rw [if_pos h2] at h; simp [bad5] at h
  rw [if_neg h2] at h ⊢
  refine ⟨by omega, ?_⟩
  have hc : 0 ≤ rd b at_ := by
    rw [rd_int (by omega) (by omega)]
    exact (hb _ (List.getElem_mem (by omega))).1
  by_cases h3 : rd b at_ > 1
  · rw [if_pos h3] at h; simp [bad5] at h
  rw [if_neg h3] at h ⊢
  by_cases h4 : rd b at_ = 0
  · rw [if_pos h4]; exact .inl ⟨h4, rfl⟩
  rw [if_neg h4] at h ⊢
  by_cases h5 : (getR b (at_ + 1)).2.2 = 0
  · rw [if_pos h5] at h ⊢
    by_cases h6 : kind ≤ 6
    · rw [if_pos h6] at h ⊢
      by_cases h7 : holdsR kind (unfoldI (getR b (at_ + 1)).1) = true
      · rw [if_pos h7]; exact .inr (.inl ⟨by omega, h5, h6, h7, rfl⟩)
      · rw [if_neg h7] at h; simp [bad5] at h
    · rw [if_neg h6] at h ⊢
      by_cases h7 : (getR b (at_ + 1)).1 > 200
      · rw [if_pos h7] at h; simp [bad5] at h
      rw [if_neg h7] at h ⊢
      by_cases h8 : (getR b (at_ + 1)).1 > b.length - (getR b (at_ + 1)).2.1
      · rw [if_pos h8] at h; simp [bad5] at h
      rw [if_neg h8] at h ⊢
      by_cases h9 : textR kind ((b.take ((getR b (at_ + 1)).2.1 + (getR b (at_ + 1)).1).toNat).drop (getR b (at_ + 1)).2.1.toNat) = 0
      · rw [if_pos h9]; exact .inr (.inr ⟨by omega, h5, by omega, by omega, by omega, h9, rfl⟩)
      · rw [if_neg h9] at h; simp only [bad5] at h; exact absurd h h9
  · rw [if_neg h5] at h; simp only [bad5] at h; exact absurd h h5
theorem getC_bad {kind : Int} {b : List Int} {at_ : Int} (h : (getC kind b at_).2.2.2.2 ≠ 0) : (getC kind b at_).1 = false ∧ (getC kind b at_).2.1 = 0 ∧ (getC kind b at_).2.2.1 = [] ∧ (getC kind b at_).2.2.2.1 = 0 := by
  unfold getC at h ⊢
  repeat' split
  all_goals first | exact ⟨rfl, rfl, rfl, rfl⟩ | skip
  all_goals (exfalso; apply h; simp_all)
/-- Bytes that are got are the only ones, and their cell has no error. -/
theorem getC_only {kind : Int} {b : List Int} {at_ : Int} (hb : Bytes b) (h : (getC kind b at_).2.2.2.2 = 0) :
    checkR kind true (getC kind b at_).1 (getC kind b at_).2.1 (getC kind b at_).2.2.1 = 0 ∧ at_ < (getC kind b at_).2.2.2.1 ∧ (getC kind b at_).2.2.2.1 ≤ b.length ∧
      putC kind (getC kind b at_).1 (getC kind b at_).2.1 (getC kind b at_).2.2.1 = ((b.take (getC kind b at_).2.2.2.1.toNat).drop at_.toNat, 0) := by
  obtain ⟨⟨k1, k2, a0, a1⟩, hc⟩ := getC_ok hb h
  have hlt : at_.toNat < b.length := by omega
  have hrd : rd b at_ = b[at_.toNat] := rd_int a0 hlt
  have hcut : ∀ n : Nat, at_.toNat < n → n ≤ b.length → (b.take n).drop at_.toNat = b[at_.toNat] :: (b.take n).drop (at_.toNat + 1) := by
    intro n h1 h2
    have hl : at_.toNat < (b.take n).length := by rw [List.length_take]; omega
    rw [drop_cons hl, List.getElem_take]
  rcases hc with ⟨h0, hg⟩ | ⟨h1, h5, h6, h7, hg⟩ | ⟨h1, h5, h6, h7, h8, h9, hg⟩
  · rw [hg]
    have hch : checkR kind true true 0 [] = 0 := by unfold checkR; rw [if_neg (by omega), if_pos rfl, if_pos rfl, if_pos ⟨rfl, rfl⟩]
    refine ⟨hch, by simp only; omega, by simp only; omega, ?_⟩
    unfold putC
    rw [if_pos hch, if_pos rfl]
    simp only
    rw [hcut _ (by omega) (by omega), ← hrd, h0, List.drop_eq_nil_of_le (by rw [List.length_take]; omega)]
  · obtain ⟨g1, g2, g3, g4, g5, g6, g7⟩ := getR_ok hb (show getR b (at_ + 1) = ((getR b (at_ + 1)).1, (getR b (at_ + 1)).2.1, 0) by rw [← h5])
    rw [hg]
    have hch : checkR kind true false (unfoldI (getR b (at_ + 1)).1) [] = 0 := by unfold checkR; rw [if_neg (by omega), if_neg (by decide), if_pos h6, if_pos rfl, if_pos h7]
    have hf : foldI (unfoldI (getR b (at_ + 1)).1) = (getR b (at_ + 1)).1 := by unfold foldI unfoldI; split <;> split <;> omega
    refine ⟨hch, by simp only; omega, by simp only; omega, ?_⟩
    unfold putC
    rw [if_pos hch, if_neg (by simp), if_pos h6, hf, g7]
    simp only
    rw [hcut _ (by omega) (by omega), ← hrd, h1, show (at_ + 1).toNat = at_.toNat + 1 by omega]
  · obtain ⟨g1, g2, g3, g4, g5, g6, g7⟩ := getR_ok hb (show getR b (at_ + 1) = ((getR b (at_ + 1)).1, (getR b (at_ + 1)).2.1, 0) by rw [← h5])
    rw [hg]
    generalize hs : (b.take ((getR b (at_ + 1)).2.1 + (getR b (at_ + 1)).1).toNat).drop (getR b (at_ + 1)).2.1.toNat = s at h9
    have hsl : s.length = (getR b (at_ + 1)).1.toNat := by rw [← hs, List.length_drop, List.length_take]; omega
    have hch : checkR kind true false 0 s = 0 := by unfold checkR; rw [if_neg (by omega), if_neg (by decide), if_neg (by omega), if_pos rfl]; exact h9
    refine ⟨hch, by simp only; omega, by simp only; omega, ?_⟩
    unfold putC
    rw [if_pos hch, if_neg (by simp), if_neg (by omega)]
    simp only
    rw [hcut _ (by omega) (by omega), ← hrd, h1, hsl, g7, ← hs, show (at_ + 1).toNat = at_.toNat + 1 by omega]
    congr 2
    generalize hx : (getR b (at_ + 1)).2.1.toNat = x
    generalize hy : ((getR b (at_ + 1)).2.1 + (getR b (at_ + 1)).1).toNat = y
    have hxy : x ≤ y := by omega
    have hax : at_.toNat + 1 ≤ x := by omega
    rw [List.drop_take, List.drop_take, List.drop_take, show y - (at_.toNat + 1) = (x - (at_.toNat + 1)) + (y - x) by omega, List.take_add, List.drop_drop, show at_.toNat + 1 + (x - (at_.toNat + 1)) = x by omega]

theorem i8r (x : Int) : IntKind.i8.wrap x = (x + 128) % 256 - 128 := by
  simp only [IntKind.wrap, IntKind.bits, IntKind.signed]; simp; split <;> omega
theorem i16r (x : Int) : IntKind.i16.wrap x = (x + 32768) % 65536 - 32768 := by
  simp only [IntKind.wrap, IntKind.bits, IntKind.signed]; simp; split <;> omega
def narrowR (v size : Int) : Int × Bool :=
  if size = 1 then ((v + 128) % 256 - 128, ((v + 128) % 256 - 128) == v) else if size = 2 then ((v + 32768) % 65536 - 32768, ((v + 32768) % 65536 - 32768) == v)
  else if size = 4 then ((v + 2147483648) % 4294967296 - 2147483648, ((v + 2147483648) % 4294967296 - 2147483648) == v) else if size = 8 then (v, true) else (0, false)
theorem narrow_at (v size : Int) : bits_Narrow.f v size = some (narrowR v size) := by
  unfold bits_Narrow.f narrowR
  by_cases h1 : size = 1
  · rw [if_pos h1, if_pos h1, i8r, w64 (by omega) (by omega)]
  rw [if_neg h1, if_neg h1]
  by_cases h2 : size = 2
  · rw [if_pos h2, if_pos h2, i16r, w64 (by omega) (by omega)]
  rw [if_neg h2, if_neg h2]
  by_cases h4 : size = 4
  · rw [if_pos h4, if_pos h4, show wrap32 v = (v + 2147483648) % 4294967296 - 2147483648 by unfold wrap32; rfl, w64 (by omega) (by omega)]
  rw [if_neg h4, if_neg h4]
  by_cases h8 : size = 8
  · rw [if_pos h8, if_pos h8]; simp
  · rw [if_neg h8, if_neg h8]

theorem number_at5 (kind : Int) : cell_Number.f kind = some (decide (1 ≤ kind ∧ kind ≤ 6)) := by
  unfold cell_Number.f
  by_cases h : kind ≥ 1
  · rw [if_pos h]; simp [h]
  · rw [if_neg h]; simp [h]
theorem known_at (kind : Int) : cell_known.f kind = some (decide (1 ≤ kind ∧ kind ≤ 8)) := by
  unfold cell_known.f
  by_cases h : kind ≥ 1
  · rw [if_pos h]; simp [h]
  · rw [if_neg h]; simp [h]
theorem u16r (x : Int) : IntKind.u16.wrap x = x % 65536 := by simp [IntKind.wrap, IntKind.bits, IntKind.signed]
theorem holds_at {kind v : Int} (h1 : 1 ≤ kind) (h6 : kind ≤ 6) : cell_holds.f kind v = some (holdsR kind v) := by
  unfold cell_holds.f holdsR
  by_cases h5 : kind = 5
  · subst h5
    rw [if_pos rfl, u16r, w64 (by omega) (by omega)]
    congr 1
    rw [Bool.eq_iff_iff]; simp; omega
  rw [if_neg h5]
  by_cases h6' : kind = 6
  · subst h6'
    rw [if_pos rfl]
    congr 1
    rw [Bool.eq_iff_iff]; simp; omega
  rw [if_neg h6', w64 (by omega) (by omega), u64w (by omega) (by omega), if_pos (by omega), narrow_at, Option.bind_some]
  have hk : kind = 1 ∨ kind = 2 ∨ kind = 3 ∨ kind = 4 := by omega
  rcases hk with rfl | rfl | rfl | rfl
  · rw [show shl .i64 1 (1 - 1) = 1 by decide +kernel]
    unfold narrowR
    rw [if_pos rfl]; congr 1; rw [Bool.eq_iff_iff]; simp; omega
  · rw [show shl .i64 1 (2 - 1) = 2 by decide +kernel]
    unfold narrowR
    rw [if_neg (by decide), if_pos rfl]; congr 1; rw [Bool.eq_iff_iff]; simp; omega
  · rw [show shl .i64 1 (3 - 1) = 4 by decide +kernel]
    unfold narrowR
    rw [if_neg (by decide), if_neg (by decide), if_pos rfl]; congr 1; rw [Bool.eq_iff_iff]; simp; omega
  · rw [show shl .i64 1 (4 - 1) = 8 by decide +kernel]
    unfold narrowR
    rw [if_neg (by decide), if_neg (by decide), if_neg (by decide), if_pos rfl]; simp
theorem text_at {kind : Int} {b : List Int} (hb : Bytes b) : cell_text.f kind b = some (textR kind b) := by
  unfold cell_text.f textR
  by_cases h1 : b.length > 200
  · rw [if_pos (by omega), if_pos h1]
  rw [if_neg (by omega), if_neg h1]
  by_cases h7 : kind = 7
  · rw [if_pos h7]
    unfold bytes_IndexByte.f
    rw [Option.bind_some]
    by_cases hz : 0 ∈ b
    · rw [if_pos ((zero_in b hb).2 hz), if_pos ⟨h7, hz⟩]
    · rw [if_neg (fun h => hz ((zero_in b hb).1 h)), if_neg (fun h => hz h.2)]
  · rw [if_neg h7, if_neg (fun h => h7 h.1)]
theorem len0 {b : List Int} : ((b.length : Int) > 0) ↔ b ≠ [] := by
  cases b with
  | nil => simp
  | cons x l => simp
theorem check_at (kind : Int) (null n : Bool) (i : Int) (b : List Int) (hb : Bytes b) (k : Nat) (hk : 4 ≤ k) : cell_Check.f k kind null n i b = some (checkR kind null n i b) := by
  obtain ⟨k, rfl⟩ : ∃ m, k = m + 1 + 1 + 1 + 1 := ⟨k - 4, by omega⟩
  unfold cell_Check.f checkR
  rw [known_at, Option.bind_some]
  by_cases h1 : kind < 1 ∨ kind > 8
  · rw [decide_eq_false (by omega), if_neg (by decide), if_pos h1]
  rw [decide_eq_true (by omega), if_pos rfl, if_neg h1]
  cases n with
  | true =>
    rw [if_pos rfl, if_pos rfl]
    simp only [cell_Check.j0]
    cases null with
    | false => rw [if_pos (by rfl), if_neg (by decide)]
    | true =>
      rw [if_neg (by decide), if_pos trivial, if_pos rfl]
      by_cases h0 : i = 0
      · rw [if_pos h0]
        simp only [cell_Check.j1]
        by_cases hbb : b = []
        · rw [if_neg (by simp [hbb]), if_pos trivial, if_pos ⟨h0, hbb⟩]
        · rw [if_pos (decide_eq_true (len0.2 hbb)), if_neg (fun h => hbb h.2)]
      · rw [if_neg h0]
        simp only [cell_Check.j1]
        rw [if_pos trivial, if_neg (fun h => h0 h.1)]
  | false =>
    rw [if_neg (by decide), if_neg (by decide)]
    simp only [cell_Check.j0]
    rw [if_neg (by decide), if_neg (by decide)]
    simp only [cell_Check.j1]
    rw [if_neg (by decide), if_neg (by decide), number_at5, Option.bind_some]
    by_cases h6 : kind ≤ 6
    · rw [decide_eq_true (show 1 ≤ kind ∧ kind ≤ 6 by omega), if_pos rfl, if_pos h6]
      simp only [cell_Check.j2]
      by_cases hbb : b = []
      · rw [if_neg (by simp [hbb]), number_at5, Option.bind_some, decide_eq_true (show 1 ≤ kind ∧ kind ≤ 6 by omega), if_pos rfl, if_pos hbb]
        simp only [cell_Check.j3]
        rw [if_neg (by decide), number_at5, Option.bind_some, decide_eq_true (show 1 ≤ kind ∧ kind ≤ 6 by omega), if_pos rfl, holds_at (by omega) h6, Option.bind_some]
        cases holdsR kind i <;> rfl
      · rw [if_pos (decide_eq_true (len0.2 hbb)), if_neg hbb]
        simp only [cell_Check.j3]
        rw [if_pos (decide_eq_true (len0.2 hbb))]
    · rw [decide_eq_false (show ¬ (1 ≤ kind ∧ kind ≤ 6) by omega), if_neg (by decide), if_neg h6]
      simp only [cell_Check.j2]
      rw [if_neg (by decide), number_at5, Option.bind_some, decide_eq_false (show ¬ (1 ≤ kind ∧ kind ≤ 6) by omega), if_neg (by decide)]
      simp only [cell_Check.j3]
      by_cases h0 : i = 0
      · subst h0
        rw [if_neg (by decide), if_pos rfl, number_at5, Option.bind_some, decide_eq_false (show ¬ (1 ≤ kind ∧ kind ≤ 6) by omega), if_neg (by decide), text_at hb, Option.bind_some]
      · rw [if_pos (by simpa using h0), if_neg h0]

theorem zero_l0 (b : List Int) (hl : b.length ≤ 17592186044416) (d : Nat) : ∀ (k i : Nat), i + d = b.length → d < k → stoaref05_Zero.l0 k b i = some (decide (0 ∈ b.drop i)) := by
  induction d with
  | zero =>
    intro k i hi hk
    obtain ⟨k, rfl⟩ : ∃ m, k = m + 1 := ⟨k - 1, by omega⟩
    simp only [stoaref05_Zero.l0]
    rw [if_neg (by omega), List.drop_eq_nil_of_le (by omega)]; simp
  | succ d ih =>
    intro k i hi hk
    obtain ⟨k, rfl⟩ : ∃ m, k = m + 1 := ⟨k - 1, by omega⟩
    have h1 : i < b.length := by omega
    simp only [stoaref05_Zero.l0]
    rw [if_pos (by omega), if_pos (by omega), rd_nat h1, wsucc (by omega), show b.drop i = b[i] :: b.drop (i + 1) from drop_cons h1]
    by_cases e : b[i] = 0
    · rw [if_pos e, e]; simp
    · rw [if_neg e, ih k (i + 1) (by omega) (by omega)]
      have : (0 ∈ b[i] :: b.drop (i + 1)) ↔ 0 ∈ b.drop (i + 1) := by
        rw [List.mem_cons]; exact ⟨fun h => h.elim (fun q => absurd q.symm e) id, .inr⟩
      rw [decide_eq_decide.2 this]
theorem zero_at (b : List Int) (hl : b.length ≤ 17592186044416) (k : Nat) (hk : b.length + 1 ≤ k) : stoaref05_Zero.f k b = some (decide (0 ∈ b)) := by
  have := zero_l0 b hl b.length k 0 (by omega) (by omega)
  simpa [stoaref05_Zero.f] using this
theorem least_at {kind : Int} (h1 : 1 ≤ kind) (h6 : kind ≤ 6) : ∃ l g, stoaref05_Least.f kind = some l ∧ stoaref05_Greatest.f kind = some g ∧
    ∀ v : Int, -9223372036854775808 ≤ v → v ≤ 9223372036854775807 → holdsR kind v = decide (l ≤ v ∧ v ≤ g) := by
  have hk : kind = 1 ∨ kind = 2 ∨ kind = 3 ∨ kind = 4 ∨ kind = 5 ∨ kind = 6 := by omega
  rcases hk with rfl | rfl | rfl | rfl | rfl | rfl
  · exact ⟨_, _, rfl, rfl, fun v _ _ => rfl⟩
  · exact ⟨_, _, rfl, rfl, fun v _ _ => rfl⟩
  · exact ⟨_, _, rfl, rfl, fun v _ _ => rfl⟩
  · refine ⟨_, _, rfl, rfl, fun v h1 h2 => ?_⟩
    rw [decide_eq_true ⟨h1, h2⟩]; rfl
  · exact ⟨_, _, rfl, rfl, fun v _ _ => rfl⟩
  · exact ⟨_, _, rfl, rfl, fun v _ _ => rfl⟩
theorem rcheck_at (kind : Int) (null n : Bool) (i : Int) (b : List Int) (hi : -9223372036854775808 ≤ i ∧ i ≤ 9223372036854775807) (k : Nat) (hk : 210 ≤ k) :
    stoaref05_Check.f k kind null n i b = some (checkR kind null n i b) := by
  obtain ⟨k, rfl⟩ : ∃ m, k = m + 1 := ⟨k - 1, by omega⟩
  unfold stoaref05_Check.f checkR
  by_cases h1 : kind < 1
  · rw [if_pos h1, if_pos (.inl h1)]; simp only [stoaref05_Check.j0]; rw [if_pos trivial]
  rw [if_neg h1]
  simp only [stoaref05_Check.j0]
  by_cases h8 : kind > 8
  · rw [if_pos (decide_eq_true h8), if_pos (.inr h8)]
  rw [if_neg (show ¬ (decide (kind > 8) = true) by simpa using h8), if_neg (show ¬ (kind < 1 ∨ kind > 8) by omega)]
  have hb0 : ((b.length : Int) > 0) ↔ b ≠ [] := by cases b with
    | nil => simp
    | cons x l => simp
  cases n with
  | true =>
    rw [if_pos rfl, if_pos rfl]
    cases null with
    | false => rw [if_neg (by decide), if_neg (by decide)]
    | true =>
      rw [if_pos rfl, if_pos rfl]
      by_cases h0 : i = 0
      · rw [if_pos h0]
        by_cases hb : b = []
        · rw [if_neg (fun h => hb0.1 h hb), if_pos ⟨h0, hb⟩]
        · rw [if_pos (hb0.2 hb), if_neg (fun h => hb h.2)]
      · rw [if_neg h0, if_neg (fun h => h0 h.1)]
  | false =>
    rw [if_neg (show ¬ (false = true) by decide), if_neg (show ¬ (false = true) by decide)]
    by_cases h6 : kind ≤ 6
    · rw [if_pos h6, if_pos h6]
      by_cases hb : b = []
      · rw [if_neg (fun h => hb0.1 h hb), if_pos hb]
        obtain ⟨l, g, e1, e2, e3⟩ := least_at (show 1 ≤ kind by omega) h6
        rw [e1, Option.bind_some, e3 i hi.1 hi.2]
        by_cases c1 : i < l
        · rw [if_pos c1, if_neg (by simp only [decide_eq_true_eq]; omega)]
        · rw [if_neg c1, e2, Option.bind_some]
          by_cases c2 : i > g
          · rw [if_pos c2, if_neg (by simp only [decide_eq_true_eq]; omega)]
          · rw [if_neg c2, if_pos (by simp only [decide_eq_true_eq]; omega)]
      · rw [if_pos (hb0.2 hb), if_neg hb]
    · rw [if_neg h6, if_neg h6]
      by_cases h0 : i = 0
      · rw [if_pos h0, if_pos h0]
        unfold textR
        by_cases h2 : b.length > 200
        · rw [if_pos (by omega), if_pos h2]
        rw [if_neg (by omega), if_neg h2]
        by_cases h7 : kind = 7
        · rw [if_pos h7, zero_at b (by omega) _ (by omega), Option.bind_some]
          by_cases hz : 0 ∈ b
          · rw [if_pos (decide_eq_true hz), if_pos ⟨h7, hz⟩]
          · rw [if_neg (by simpa using hz), if_neg (fun h => hz h.2)]
        · rw [if_neg h7, if_neg (fun h => h7 h.1)]
      · rw [if_neg h0, if_neg h0]
theorem checkR_len {kind : Int} {null : Bool} {i : Int} {b : List Int} (h : checkR kind null false i b = 0) (h6 : ¬ kind ≤ 6) : b.length ≤ 200 := by
  unfold checkR at h
  by_cases h1 : kind < 1 ∨ kind > 8
  · rw [if_pos h1] at h; simp at h
  rw [if_neg h1, if_neg (show ¬ (false = true) by decide), if_neg h6] at h
  by_cases h0 : i = 0
  · rw [if_pos h0] at h
    unfold textR at h
    by_cases hl : b.length > 200
    · rw [if_pos hl] at h; simp at h
    · omega
  · rw [if_neg h0] at h; simp at h

def keyC (n : Bool) (i : Int) (b : List Int) : List Int := if n = true then [] else i :: b
theorem order_l0 (a b : List Int) (hl : a.length ≤ 17592186044416) (d : Nat) : ∀ (k i : Nat), i + d = a.length → i ≤ b.length → 2 * d + 1 < k → stoaref05_Order.l0 k a b i = some (cmpL (a.drop i) (b.drop i)) := by
  induction d with
  | zero =>
    intro k i hi hib hk
    obtain ⟨k, rfl⟩ : ∃ m, k = m + 1 + 1 := ⟨k - 2, by omega⟩
    simp only [stoaref05_Order.l0]
    rw [if_neg (by omega)]
    simp only [stoaref05_Order.j1]
    rw [if_neg (show ¬ (false = true) by decide), List.drop_eq_nil_of_le (show a.length ≤ i by omega)]
    by_cases h : i < b.length
    · rw [if_pos (by omega), show b.drop i = b[i] :: b.drop (i + 1) from drop_cons h]; rfl
    · rw [if_neg (by omega), if_neg (by omega), List.drop_eq_nil_of_le (by omega)]; rfl
  | succ d ih =>
    intro k i hi hib hk
    obtain ⟨k, rfl⟩ : ∃ m, k = m + 1 + 1 := ⟨k - 2, by omega⟩
    have h1 : i < a.length := by omega
    simp only [stoaref05_Order.l0]
    rw [if_pos (by omega)]
    simp only [stoaref05_Order.j1]
    rw [show a.drop i = a[i] :: a.drop (i + 1) from drop_cons h1]
    by_cases h2 : i < b.length
    · rw [if_pos (decide_eq_true (show (i : Int) < (b.length : Int) by omega)), if_pos (by omega), if_pos (by omega), if_pos (by omega), rd_nat h1, rd_nat h2, wsucc (by omega), show b.drop i = b[i] :: b.drop (i + 1) from drop_cons h2]
      simp only [cmpL]
      by_cases c1 : a[i] < b[i]
      · rw [if_pos c1, if_pos c1]
      rw [if_neg c1, if_neg c1]
      by_cases c2 : a[i] > b[i]
      · rw [if_pos c2, if_pos c2]
      rw [if_neg c2, if_neg c2]
      exact ih k (i + 1) (by omega) (by omega) (by omega)
    · rw [if_neg (by simp only [decide_eq_true_eq]; omega), if_neg (by omega), if_pos (by omega), List.drop_eq_nil_of_le (show b.length ≤ i by omega)]; rfl
theorem order_at (a b : List Int) (hl : a.length ≤ 17592186044416) (k : Nat) (hk : 2 * a.length + 2 ≤ k) : stoaref05_Order.f k a b = some (cmpL a b) := by
  have := order_l0 a b hl a.length k 0 (by omega) (by omega) (by omega)
  simpa [stoaref05_Order.f] using this
theorem rank_at (na : Bool) (ia : Int) (ba : List Int) (nb : Bool) (ib : Int) (bb : List Int) (hl : na = true ∨ ba.length ≤ 200) (k : Nat) (hk : 420 ≤ k) :
    stoaref05_Rank.f k na ia ba nb ib bb = some (cmpL (keyC na ia ba) (keyC nb ib bb)) := by
  obtain ⟨k, rfl⟩ : ∃ m, k = m + 1 + 1 := ⟨k - 2, by omega⟩
  unfold stoaref05_Rank.f keyC
  cases na with
  | true =>
    rw [if_pos rfl, if_pos rfl]
    simp only [stoaref05_Rank.j0, if_true]
    cases nb with
    | true => simp only [stoaref05_Rank.j1, if_true, cmpL]
    | false => simp only [stoaref05_Rank.j1, Bool.false_eq_true, if_true, if_false, cmpL]
  | false =>
    have hl : ba.length ≤ 200 := hl.elim (fun h => by simp at h) id
    rw [if_neg (show ¬ (false = true) by decide), if_neg (show ¬ (false = true) by decide)]
    simp only [stoaref05_Rank.j0]
    cases nb with
    | true => simp only [stoaref05_Rank.j1, Bool.false_eq_true, if_true, if_false, cmpL]
    | false =>
      rw [if_neg (show ¬ (false = true) by decide), if_neg (show ¬ (false = true) by decide)]
      simp only [cmpL]
      by_cases c1 : ia < ib
      · rw [if_pos c1, if_pos c1]
      rw [if_neg c1, if_neg c1]
      by_cases c2 : ia > ib
      · rw [if_pos c2, if_pos c2]
      rw [if_neg c2, if_neg c2, order_at ba bb (by omega) _ (by omega), Option.bind_some]
def cmpC (kind : Int) (na : Bool) (ia : Int) (ba : List Int) (nb : Bool) (ib : Int) (bb : List Int) : Int × Int :=
  if checkR kind true na ia ba = 0 then (if checkR kind true nb ib bb = 0 then (cmpL (keyC na ia ba) (keyC nb ib bb), 0) else (0, checkR kind true nb ib bb)) else (0, checkR kind true na ia ba)
theorem checkR_len' {kind : Int} {n : Bool} {i : Int} {b : List Int} (h : checkR kind true n i b = 0) : n = true ∨ b.length ≤ 200 := by
  cases n with
  | true => exact .inl rfl
  | false =>
    right
    by_cases h6 : kind ≤ 6
    · unfold checkR at h
      by_cases h1 : kind < 1 ∨ kind > 8
      · rw [if_pos h1] at h; simp at h
      rw [if_neg h1, if_neg (show ¬ (false = true) by decide), if_pos h6] at h
      by_cases hb : b = []
      · rw [hb]; simp
      · rw [if_neg hb] at h; simp at h
    · exact checkR_len h h6
theorem rcmp_at (kind : Int) (na : Bool) (ia : Int) (ba : List Int) (nb : Bool) (ib : Int) (bb : List Int) (hi : -9223372036854775808 ≤ ia ∧ ia < 9223372036854775808) (hj : -9223372036854775808 ≤ ib ∧ ib < 9223372036854775808) (k : Nat) (hk : 420 ≤ k) :
    stoaref05_Compare.f k kind na ia ba nb ib bb = some (cmpC kind na ia ba nb ib bb) := by
  unfold stoaref05_Compare.f cmpC
  rw [rcheck_at _ _ _ _ _ ⟨hi.1, by omega⟩ _ (by omega), Option.bind_some, rcheck_at _ _ _ _ _ ⟨hj.1, by omega⟩ _ (by omega), Option.bind_some]
  by_cases h1 : checkR kind true na ia ba = 0
  · rw [if_pos h1, if_pos h1]
    by_cases h2 : checkR kind true nb ib bb = 0
    · rw [if_pos h2, if_pos h2, rank_at _ _ _ _ _ _ (checkR_len' h1) _ (by omega), Option.bind_some]
    · rw [if_neg h2, if_neg h2]
  · rw [if_neg h1, if_neg h1]
theorem or_at (x y : Int) (k : Nat) (hk : 4 ≤ k) : cmp_Or_int.f k [x, y] = some (if x = 0 then y else x) := by
  obtain ⟨k, rfl⟩ : ∃ m, k = m + 1 + 1 + 1 := ⟨k - 3, by omega⟩
  unfold cmp_Or_int.f
  have r0 : rd [x, y] 0 = x := rfl
  have r1 : rd [x, y] 1 = y := rfl
  simp only [cmp_Or_int.l0]
  rw [show (([x, y] : List Int).length : Int) = 2 from rfl, if_pos (show (0 : Int) < 2 by decide), if_pos (show (0 : Int) ≤ 0 by decide), r0, show wrap64 (0 + 1) = 1 from w64 (by decide) (by decide), if_pos (show (1 : Int) < 2 by decide), if_pos (show (0 : Int) ≤ 1 by decide), r1,
    show wrap64 (1 + 1) = 2 from w64 (by decide) (by decide), if_neg (show ¬ (2 : Int) < 2 by decide)]
  by_cases h : x = 0
  · rw [if_pos h, if_pos h]
    by_cases h2 : y = 0
    · rw [if_pos h2, h2]; simp
    · rw [if_neg h2]; simp
  · rw [if_neg h, if_neg h]; simp
theorem cmpi_at (x y : Int) : cmp_Compare_int64.f x y = some (if x < y then -1 else if x > y then 1 else 0) := by
  unfold cmp_Compare_int64.f cmp_isNaN_int64.f
  rw [Option.bind_some, Option.bind_some, show (x != x) = false by simp, show (y != y) = false by simp, if_neg (show ¬ (false = true) by decide), if_neg (show ¬ (false = true) by decide)]
  repeat' split
  all_goals rfl
theorem ccmp_at (kind : Int) (na : Bool) (ia : Int) (ba : List Int) (nb : Bool) (ib : Int) (bb : List Int) (ha : Bytes ba) (hb : Bytes bb) (k : Nat) (hk : 10 ≤ k) :
    cell_Compare.f k kind na ia ba nb ib bb = some (cmpC kind na ia ba nb ib bb) := by
  obtain ⟨k, rfl⟩ : ∃ m, k = m + 1 := ⟨k - 1, by omega⟩
  unfold cell_Compare.f cmpC
  rw [check_at _ _ _ _ _ ha _ (by omega), Option.bind_some, check_at _ _ _ _ _ hb _ (by omega), Option.bind_some]
  by_cases h1 : checkR kind true na ia ba = 0
  · rw [if_pos h1, if_pos h1]
    by_cases h2 : checkR kind true nb ib bb = 0
    · rw [if_pos h2, if_pos h2]
      unfold keyC
      cases na with
      | true =>
        rw [if_pos rfl, if_pos rfl]
        simp only [cell_Compare.j0]
        cases nb with
        | true => rw [if_pos rfl, if_pos rfl]; rfl
        | false => rw [if_neg (show ¬ (false = true) by decide), if_neg (show ¬ (false = true) by decide), if_pos trivial]; rfl
      | false =>
        rw [if_neg (show ¬ (false = true) by decide), if_neg (show ¬ (false = true) by decide)]
        simp only [cell_Compare.j0]
        rw [if_neg (show ¬ (false = true) by decide)]
        cases nb with
        | true => rw [if_pos rfl, if_pos rfl]; rfl
        | false =>
          rw [if_neg (show ¬ (false = true) by decide), if_neg (show ¬ (false = true) by decide), cmpi_at, Option.bind_some]
          unfold bytes_Compare.f
          rw [Option.bind_some, compareBytes_eq _ _ ha hb, or_at _ _ _ (by omega), Option.bind_some]
          rcases Int.lt_trichotomy ia ib with c | c | c
          · simp [cmpL, c]
          · subst c; simp [cmpL]
          · simp [cmpL, c, show ¬ ia < ib by omega]
    · rw [if_neg h2, if_neg h2]
  · rw [if_neg h1, if_neg h1]

theorem CellOrders : stoalaw05_CellOrders.Pure := by
  intro kind na ia ba nb ib bb nc ic bc hkd hia _ hla hba hib _ hlb hbb hic _ hlc hbc
  have hla : ba.length ≤ 140737488351232 := by omega
  have hba := bytesWf hba
  have hbb := bytesWf hbb
  have hbc := bytesWf hbc
  have hia := i64Wf hia
  have hib := i64Wf hib
  have hic := i64Wf hic
  obtain ⟨K1, h1⟩ := alive_ev
  obtain ⟨k, hk⟩ : ∃ k, k = K1 + ba.length + 440 := ⟨_, rfl⟩
  refine ⟨k + 1 + 1, ?_⟩
  unfold stoalaw05_CellOrders.f
  rw [h1 _ (by omega), Option.bind_some, if_pos rfl, ccmp_at _ _ _ _ _ _ _ hba hbb _ (by omega), Option.bind_some, rcmp_at _ _ _ _ _ _ _ hia hib _ (by omega), Option.bind_some, ccmp_at _ _ _ _ _ _ _ hbb hba _ (by omega), Option.bind_some, ccmp_at _ _ _ _ _ _ _ hbb hbc _ (by omega), Option.bind_some,
    ccmp_at _ _ _ _ _ _ _ hba hbc _ (by omega), Option.bind_some, if_pos rfl, show ((cmpC kind na ia ba nb ib bb).2 != (cmpC kind na ia ba nb ib bb).2) = false by simp]
  simp only [stoalaw05_CellOrders.j0]
  rw [if_neg (show ¬ (false = true) by decide)]
  by_cases e1 : checkR kind true na ia ba = 0
  · by_cases e2 : checkR kind true nb ib bb = 0
    · have x1 : cmpC kind na ia ba nb ib bb = (cmpL (keyC na ia ba) (keyC nb ib bb), 0) := by unfold cmpC; rw [if_pos e1, if_pos e2]
      have x2 : cmpC kind nb ib bb na ia ba = (- cmpL (keyC na ia ba) (keyC nb ib bb), 0) := by unfold cmpC; rw [if_pos e1, if_pos e2, cmpL_anti]
      rw [x1, x2]
      rw [if_pos (show ((cmpL (keyC na ia ba) (keyC nb ib bb), (0 : Int)) : Int × Int).2 = 0 from rfl)]
      by_cases e3 : checkR kind true nc ic bc = 0
      · have x3 : cmpC kind nb ib bb nc ic bc = (cmpL (keyC nb ib bb) (keyC nc ic bc), 0) := by unfold cmpC; rw [if_pos e2, if_pos e3]
        have x4 : cmpC kind na ia ba nc ic bc = (cmpL (keyC na ia ba) (keyC nc ic bc), 0) := by unfold cmpC; rw [if_pos e1, if_pos e3]
        rw [x3, x4]
        simp only [stoalaw05_CellOrders.j1]
        have hr := cmpL_range (keyC na ia ba) (keyC nb ib bb)
        have hz := cmpL_zero (keyC na ia ba) (keyC nb ib bb)
        have ht := cmpL_trans (keyC na ia ba) (keyC nb ib bb) (keyC nc ic bc)
        generalize cmpL (keyC na ia ba) (keyC nb ib bb) = x at hr hz ht
        generalize cmpL (keyC nb ib bb) (keyC nc ic bc) = z at ht
        generalize cmpL (keyC na ia ba) (keyC nc ic bc) = w at ht
        have hw : wrap64 (-x) = -x := w64 (by omega) (by omega)
        have hk2 : keyC na ia ba = keyC nb ib bb ↔ (na = nb ∧ ia = ib ∧ ba = bb) := by
          constructor
          · intro q
            unfold keyC at q
            unfold checkR at e1 e2
            by_cases hkk : kind < 1 ∨ kind > 8
            · rw [if_pos hkk] at e1; simp at e1
            rw [if_neg hkk] at e1 e2
            cases na with
            | true =>
              cases nb with
              | true =>
                rw [if_pos rfl, if_pos rfl] at e1 e2
                have a1 : ia = 0 ∧ ba = [] := by
                  by_cases a : ia = 0 ∧ ba = []
                  · exact a
                  · rw [if_neg a] at e1; simp at e1
                have a2 : ib = 0 ∧ bb = [] := by
                  by_cases a : ib = 0 ∧ bb = []
                  · exact a
                  · rw [if_neg a] at e2; simp at e2
                exact ⟨rfl, by rw [a1.1, a2.1], by rw [a1.2, a2.2]⟩
              | false => simp at q
            | false =>
              cases nb with
              | true => simp at q
              | false =>
                simp only [Bool.false_eq_true, if_false, List.cons.injEq] at q
                exact ⟨rfl, q.1, q.2⟩
          · rintro ⟨rfl, rfl, rfl⟩; rfl
        have hal : stoaref05_Alike.f k na ia ba nb ib bb = some (decide (na = nb ∧ ia = ib ∧ ba = bb)) := by
          unfold stoaref05_Alike.f
          by_cases c1 : na = nb
          · rw [if_pos (by simp [c1])]
            by_cases c2 : ia = ib
            · rw [if_pos c2, same_at _ _ (by omega) _ (by omega), Option.bind_some]
              simp only [c1, c2, true_and]
            · rw [if_neg c2]; simp [c2]
          · rw [if_neg (by simpa using c1)]; simp [c1]
        rw [show (((0 : Int) != 0) = false) by rfl, if_neg (show ¬ (false = true) by decide), if_pos trivial, if_pos trivial, hw, if_pos rfl, hal, Option.bind_some, decide_eq_decide.2 (hk2.symm.trans hz.symm), show ((x == 0) != decide (x = 0)) = false by by_cases hx : x = 0 <;> simp [hx], if_neg (show ¬ (false = true) by decide)]
        by_cases g1 : x > 0
        · rw [if_pos g1]
        rw [if_neg g1]
        by_cases g2 : z > 0
        · rw [if_pos g2]
        rw [if_neg g2, decide_eq_true (ht (by omega) (by omega))]
      · have x3 : cmpC kind nb ib bb nc ic bc = (0, checkR kind true nc ic bc) := by unfold cmpC; rw [if_pos e2, if_neg e3]
        rw [x3]
        simp only [stoalaw05_CellOrders.j1]
        rw [if_pos (by simpa using e3)]
    · have x1 : cmpC kind na ia ba nb ib bb = (0, checkR kind true nb ib bb) := by unfold cmpC; rw [if_pos e1, if_neg e2]
      rw [x1, if_neg e2]
      simp only [stoalaw05_CellOrders.j1]
      rw [if_pos trivial]
  · have x1 : cmpC kind na ia ba nb ib bb = (0, checkR kind true na ia ba) := by unfold cmpC; rw [if_neg e1]
    rw [x1, if_neg e1]
    simp only [stoalaw05_CellOrders.j1]
    rw [if_pos trivial]

end Go.Proofs.Ytaibfjipombilaa.Pure
