/- For all bytes: packed.Decode and packed.Range answer as the document says; the bytes are as they were, the numbers new memory. No condition. -/
import Derived.Test.YtimjmndogalcbaaPPackedDecodesx11
import Derived.Laws.BitsLemmas
set_option linter.unusedVariables false
set_option linter.unusedSimpArgs false
set_option maxRecDepth 20000
namespace Go.Proofs.Ytimjmndogalcbaa.Pure
open Go.RowKit Go.Proofs.Ytimjmndogalcbaa.PPackedDecodes Go.Proofs.YtimjmndogalcbaaW.PrintWords Go.Proofs.YtimjmndogalcbaaW.PrintLast Go.Proofs.YtimjmndogalcbaaW.PrintMore

/-! ### base: numbers, lists (no program in sight) -/
theorem w64 {x : Int} (h0 : -9223372036854775808 ≤ x) (h1 : x ≤ 9223372036854775807) : wrap64 x = x := by
  unfold wrap64; omega
theorem u64r (x : Int) : IntKind.u64.wrap x = x % 18446744073709551616 := by
  simp [IntKind.wrap, IntKind.bits, IntKind.signed]
theorem u32r (x : Int) : IntKind.u32.wrap x = x % 4294967296 := by
  simp [IntKind.wrap, IntKind.bits, IntKind.signed]
theorem u64w {x : Int} (h0 : 0 ≤ x) (h1 : x < 18446744073709551616) : IntKind.u64.wrap x = x := by
  rw [u64r]; omega
theorem wsucc {i : Nat} (h : i < 9223372036854775807) : wrap64 ((i : Int) + 1) = ((i + 1 : Nat) : Int) := by
  unfold wrap64; omega
theorem byteWf {x : Int} (h : (Lit.int .u8 x).wf = true) : 0 ≤ x ∧ x < 256 := by
  simp [Lit.wf, IntKind.min, IntKind.max, IntKind.signed, IntKind.bits] at h
  omega
theorem u64Wf {x : Int} (h : (Lit.int .u64 x).wf = true) : 0 ≤ x ∧ x < 18446744073709551616 := by
  simp [Lit.wf, IntKind.min, IntKind.max, IntKind.signed, IntKind.bits] at h
  omega
theorem i64Wf {x : Int} (h : (Lit.int .i64 x).wf = true) : -9223372036854775808 ≤ x ∧ x < 9223372036854775808 := by
  simp [Lit.wf, IntKind.min, IntKind.max, IntKind.signed, IntKind.bits] at h
  omega
def Bytes (l : List Int) : Prop := ∀ x ∈ l, 0 ≤ x ∧ x < 256
def U64s (l : List Int) : Prop := ∀ x ∈ l, 0 ≤ x ∧ x < 18446744073709551616
theorem bytesWf {l : List Int} (h : ∀ x ∈ l, (Lit.int .u8 x).wf = true) : Bytes l := fun x hx => byteWf (h x hx)
theorem u64sWf {l : List Int} (h : ∀ x ∈ l, (Lit.int .u64 x).wf = true) : U64s l := fun x hx => u64Wf (h x hx)
theorem Bytes.app {a b : List Int} (ha : Bytes a) (hb : Bytes b) : Bytes (a ++ b) := fun x hx => (List.mem_append.1 hx).elim (ha x) (hb x)
theorem Bytes.left {a b : List Int} (h : Bytes (a ++ b)) : Bytes a := fun x hx => h x (List.mem_append_left _ hx)
theorem Bytes.right {a b : List Int} (h : Bytes (a ++ b)) : Bytes b := fun x hx => h x (List.mem_append_right _ hx)
theorem Bytes.drop {a : List Int} (h : Bytes a) (n : Nat) : Bytes (a.drop n) := fun x hx => h x (List.mem_of_mem_drop hx)
theorem Bytes.take {a : List Int} (h : Bytes a) (n : Nat) : Bytes (a.take n) := fun x hx => h x (List.mem_of_mem_take hx)
theorem U64s.drop {a : List Int} (h : U64s a) (n : Nat) : U64s (a.drop n) := fun x hx => h x (List.mem_of_mem_drop hx)
theorem U64s.take {a : List Int} (h : U64s a) (n : Nat) : U64s (a.take n) := fun x hx => h x (List.mem_of_mem_take hx)
theorem rd_nat {l : List Int} {i : Nat} (h : i < l.length) : rd l (i : Int) = l[i] := by
  simp [rd, List.getD_eq_getElem?_getD, h]
theorem rd_int {l : List Int} {i : Int} (h0 : 0 ≤ i) (h : i.toNat < l.length) : rd l i = l[i.toNat] := by
  simp [rd, List.getD_eq_getElem?_getD, h]
theorem drop_cons {l : List Int} {i : Nat} (h : i < l.length) : l.drop i = l[i] :: l.drop (i + 1) := List.drop_eq_getElem_cons h
theorem take_succ_snoc {l : List Int} {i : Nat} (h : i < l.length) : l.take (i + 1) = l.take i ++ [l[i]] := by rw [List.take_add_one, List.getElem?_eq_getElem h]; rfl
theorem pow_pos' (n : Nat) : (0 : Int) < 128 ^ n := Int.pow_pos (by decide)
theorem pow128 (n : Nat) : (128 : Int) ^ n = 2 ^ (7 * n) := by rw [Int.pow_mul]; rfl
theorem ipow_le {b : Int} (hb : 1 ≤ b) {m n : Nat} (h : m ≤ n) : b ^ m ≤ b ^ n := by
  obtain ⟨a, rfl⟩ := Int.eq_ofNat_of_zero_le (show 0 ≤ b by omega)
  exact_mod_cast Nat.pow_le_pow_right (by omega) h

/-! ### m_len: the number of bits -/
def blen (n : Nat) : Nat := if n = 0 then 0 else Nat.log2 n + 1
theorem blen_lt (n : Nat) : n < 2 ^ blen n := by
  unfold blen
  split
  · subst_vars; decide
  · exact Nat.lt_log2_self
theorem blen_le {n : Nat} (h : n ≠ 0) : 1 ≤ blen n ∧ 2 ^ (blen n - 1) ≤ n := by
  unfold blen
  rw [if_neg h]
  exact ⟨by omega, by simpa using Nat.log2_self_le h⟩
theorem blen_uniq {n m : Nat} (h0 : n ≠ 0) (h1 : n < 2 ^ m) (h2 : 2 ^ (m - 1) ≤ n) : blen n = m := by
  obtain ⟨g1, g2⟩ := blen_le h0
  have g3 := blen_lt n
  have hm : m ≠ 0 := by rintro rfl; simp at h1; omega
  have a : blen n - 1 < m := (Nat.pow_lt_pow_iff_right (by decide)).1 (Nat.lt_of_le_of_lt g2 h1)
  have b : m - 1 < blen n := (Nat.pow_lt_pow_iff_right (by decide)).1 (Nat.lt_of_le_of_lt h2 g3)
  omega
theorem blen_shift {n k : Nat} (h : n / 2 ^ k ≠ 0) : blen n = blen (n / 2 ^ k) + k := by
  have hp : 0 < 2 ^ k := Nat.two_pow_pos k
  have g1 := blen_lt (n / 2 ^ k)
  obtain ⟨g2, g3⟩ := blen_le h
  refine blen_uniq (fun e => h (by rw [e]; simp)) ?_ ?_
  · rw [Nat.pow_add]; exact (Nat.div_lt_iff_lt_mul hp).1 g1
  · rw [show blen (n / 2 ^ k) + k - 1 = (blen (n / 2 ^ k) - 1) + k by omega, Nat.pow_add]
    exact (Nat.le_div_iff_mul_le hp).1 g3
theorem blen_mono {m n : Nat} (h : m ≤ n) : blen m ≤ blen n := by
  by_cases h0 : m = 0
  · subst h0; simp [blen]
  obtain ⟨_, g2⟩ := blen_le h0
  have g3 := blen_lt n
  have : blen m - 1 < blen n := (Nat.pow_lt_pow_iff_right (by decide)).1 (Nat.lt_of_le_of_lt g2 (Nat.lt_of_le_of_lt h g3))
  omega
theorem blen_le_of_lt {n m : Nat} (h : n < 2 ^ m) : blen n ≤ m := by
  by_cases h0 : n = 0
  · subst h0; simp [blen]
  obtain ⟨g1, g2⟩ := blen_le h0
  have : blen n - 1 < m := (Nat.pow_lt_pow_iff_right (by decide)).1 (Nat.lt_of_le_of_lt g2 h)
  omega

/-! ### m_le: bytes as one number, the lowest first -/
def nat : List Int → Nat
  | [] => 0
  | c :: r => c.toNat + 256 * nat r
def leb (m : Nat) : Nat → List Int
  | 0 => []
  | n + 1 => ((m % 256 : Nat) : Int) :: leb (m / 256) n
theorem leb_len (n : Nat) : ∀ m, (leb m n).length = n := by
  induction n with
  | zero => intro m; rfl
  | succ n ih => intro m; simp [leb, ih]
theorem leb_bytes (n : Nat) : ∀ m, Bytes (leb m n) := by
  induction n with
  | zero => intro m x hx; simp [leb] at hx
  | succ n ih =>
    intro m x hx
    rw [leb] at hx
    rcases List.mem_cons.1 hx with rfl | hx
    · omega
    · exact ih _ x hx
theorem p8 (n : Nat) : 2 ^ (8 * (n + 1)) = 256 * 2 ^ (8 * n) := by rw [Nat.mul_add, Nat.pow_add, Nat.mul_comm]
theorem nat_leb (n : Nat) : ∀ m, m < 2 ^ (8 * n) → nat (leb m n) = m := by
  induction n with
  | zero => intro m h; simp at h; simp [leb, nat, h]
  | succ n ih =>
    intro m h
    rw [p8] at h
    rw [leb, nat, ih (m / 256) (by omega)]
    omega
theorem nat_lt {b : List Int} (h : Bytes b) : nat b < 2 ^ (8 * b.length) := by
  induction b with
  | nil => simp [nat]
  | cons c r ih =>
    have hc := h c List.mem_cons_self
    have := ih (fun x hx => h x (List.mem_cons_of_mem _ hx))
    rw [nat, List.length_cons, p8]; omega
theorem nat_inj {a : List Int} : ∀ {b : List Int}, Bytes a → Bytes b → a.length = b.length → nat a = nat b → a = b := by
  induction a with
  | nil => intro b _ _ h _; cases b with
    | nil => rfl
    | cons => simp at h
  | cons c r ih =>
    intro b ha hb hl h
    cases b with
    | nil => simp at hl
    | cons d s =>
      have h1 := ha c List.mem_cons_self
      have h2 := hb d List.mem_cons_self
      rw [nat, nat] at h
      have hn : nat r = nat s := by omega
      rw [ih (fun x hx => ha x (List.mem_cons_of_mem _ hx)) (fun x hx => hb x (List.mem_cons_of_mem _ hx)) (by simpa using hl) hn, show c = d by omega]
theorem leb_nat {b : List Int} (h : Bytes b) : leb (nat b) b.length = b :=
  nat_inj (leb_bytes _ _) h (leb_len _ _) (nat_leb _ _ (nat_lt h))
theorem nat_at {b : List Int} : ∀ (h : Bytes b) (k : Nat) (hk : k < b.length), nat b / 2 ^ (8 * k) % 256 = (b[k]).toNat := by
  induction b with
  | nil => intro h k hk; simp at hk
  | cons c r ih =>
    intro h k hk
    have hc := h c List.mem_cons_self
    cases k with
    | zero => simp only [nat, Nat.mul_zero, Nat.pow_zero, Nat.div_one, List.getElem_cons_zero]; omega
    | succ k =>
      rw [nat, p8, ← Nat.div_div_eq_div_mul, show (c.toNat + 256 * nat r) / 256 = nat r by omega]
      simpa using ih (fun x hx => h x (List.mem_cons_of_mem _ hx)) k (by simpa using hk)
theorem nat_set {b : List Int} (c : Int) : ∀ (k : Nat) (hk : k < b.length), nat (b.set k c) + (b[k]).toNat * 2 ^ (8 * k) = nat b + c.toNat * 2 ^ (8 * k) := by
  induction b with
  | nil => intro k hk; simp at hk
  | cons d r ih =>
    intro k hk
    cases k with
    | zero => simp [nat]; omega
    | succ k =>
      have := ih k (by simpa using hk)
      simp only [List.set_cons_succ, nat, List.getElem_cons_succ]
      rw [p8, Nat.mul_left_comm, Nat.mul_left_comm c.toNat]
      omega
theorem Bytes.set {b : List Int} (h : Bytes b) {c : Int} (hc : 0 ≤ c ∧ c < 256) (k : Nat) : Bytes (b.set k c) := fun x hx => by
  rcases List.mem_or_eq_of_mem_set hx with hx | rfl
  · exact h x hx
  · exact hc
theorem zeros_bytes (n : Nat) : Bytes (List.replicate n 0) := fun x hx => by rw [List.eq_of_mem_replicate hx]; omega
theorem nat_zeros (n : Nat) : nat (List.replicate n 0) = 0 := by
  induction n with
  | zero => rfl
  | succ n ih => rw [List.replicate_succ, nat, ih]; rfl
theorem nat_app (a b : List Int) : nat (a ++ b) = nat a + 2 ^ (8 * a.length) * nat b := by
  induction a with
  | nil => simp [nat]
  | cons c r ih => rw [List.cons_append, nat, nat, ih, List.length_cons, p8, Nat.mul_assoc]; omega
/-- A chunk that lies within one byte. -/
theorem nat_chunk {b : List Int} (h : Bytes b) (at_ t : Nat) (hk : at_ / 8 < b.length) (ht : at_ % 8 + t ≤ 8) :
    nat b / 2 ^ at_ % 2 ^ t = (b[at_ / 8]).toNat / 2 ^ (at_ % 8) % 2 ^ t := by
  rw [← nat_at h (at_ / 8) hk]
  have e : at_ = 8 * (at_ / 8) + at_ % 8 := by omega
  have e1 : nat b / 2 ^ at_ = nat b / 2 ^ (8 * (at_ / 8)) / 2 ^ (at_ % 8) := by
    rw [Nat.div_div_eq_div_mul, ← Nat.pow_add, ← e]
  rw [e1]
  generalize nat b / 2 ^ (8 * (at_ / 8)) = X
  generalize at_ % 8 = s at ht
  apply Nat.eq_of_testBit_eq
  intro i
  rw [show (256 : Nat) = 2 ^ 8 from rfl]
  simp only [Nat.testBit_mod_two_pow, Nat.testBit_div_two_pow]
  by_cases hi : i < t
  · simp only [hi, decide_true, Bool.true_and]
    rw [decide_eq_true (show i + s < 8 by omega)]; simp
  · simp [hi]
theorem mod_split (X g t : Nat) : X % 2 ^ (g + t) = X % 2 ^ g + 2 ^ g * (X / 2 ^ g % 2 ^ t) := by
  rw [Nat.pow_add, Nat.mod_mul]
theorem div_pow_add (X a b : Nat) : X / 2 ^ (a + b) = X / 2 ^ a / 2 ^ b := by rw [Nat.pow_add, Nat.div_div_eq_div_mul]

/-! ### m_pack: numbers of one width, one behind the other -/
def packN (w : Nat) : List Int → Nat
  | [] => 0
  | v :: r => v.toNat + 2 ^ w * packN w r
theorem packN_lt {w : Nat} {vs : List Int} (h : ∀ v ∈ vs, v.toNat < 2 ^ w) : packN w vs < 2 ^ (w * vs.length) := by
  induction vs with
  | nil => simp [packN]
  | cons v r ih =>
    have h1 := h v List.mem_cons_self
    have h2 := ih (fun x hx => h x (List.mem_cons_of_mem _ hx))
    rw [packN, List.length_cons, Nat.mul_add, Nat.mul_one, Nat.pow_add, Nat.mul_comm (2 ^ (w * r.length))]
    have : 2 ^ w * (packN w r + 1) ≤ 2 ^ w * 2 ^ (w * r.length) := Nat.mul_le_mul_left _ h2
    rw [Nat.mul_add] at this
    omega
theorem packN_at {w : Nat} {vs : List Int} : ∀ (h : ∀ v ∈ vs, v.toNat < 2 ^ w) (i : Nat) (hi : i < vs.length), packN w vs / 2 ^ (i * w) % 2 ^ w = (vs[i]).toNat := by
  induction vs with
  | nil => intro h i hi; simp at hi
  | cons v r ih =>
    intro h i hi
    have h1 := h v List.mem_cons_self
    have hp : 0 < 2 ^ w := Nat.two_pow_pos w
    cases i with
    | zero => simp only [packN, Nat.zero_mul, Nat.pow_zero, Nat.div_one, List.getElem_cons_zero]; rw [Nat.add_mul_mod_self_left, Nat.mod_eq_of_lt h1]
    | succ i =>
      rw [packN, Nat.add_mul, Nat.one_mul, Nat.add_comm, Nat.add_comm (i * w) w, div_pow_add, Nat.mul_add_div hp, Nat.div_eq_of_lt h1, Nat.add_zero]
      simpa using ih (fun x hx => h x (List.mem_cons_of_mem _ hx)) i (by simpa using hi)
/-- The numbers that stand in N. -/
def unpackN (N w n : Nat) : List Int := (List.range n).map fun i => ((N / 2 ^ (i * w) % 2 ^ w : Nat) : Int)
theorem unpackN_len (N w n : Nat) : (unpackN N w n).length = n := by simp [unpackN]
theorem unpackN_get {N w n i : Nat} (h : i < n) : (unpackN N w n)[i]'(by rw [unpackN_len]; exact h) = ((N / 2 ^ (i * w) % 2 ^ w : Nat) : Int) := by simp [unpackN]
theorem unpackN_u64 {N w n : Nat} (hw : w ≤ 64) : U64s (unpackN N w n) := by
  intro x hx
  simp only [unpackN, List.mem_map] at hx
  obtain ⟨i, _, rfl⟩ := hx
  have : N / 2 ^ (i * w) % 2 ^ w < 2 ^ w := Nat.mod_lt _ (Nat.two_pow_pos w)
  have h2 : 2 ^ w ≤ 2 ^ 64 := Nat.pow_le_pow_right (by decide) hw
  omega
theorem unpackN_small {N w n : Nat} : ∀ v ∈ unpackN N w n, v.toNat < 2 ^ w := by
  intro x hx
  simp only [unpackN, List.mem_map] at hx
  obtain ⟨i, _, rfl⟩ := hx
  rw [Int.toNat_natCast]
  exact Nat.mod_lt _ (Nat.two_pow_pos w)
theorem unpackN_succ (N w n : Nat) : unpackN N w (n + 1) = ((N % 2 ^ w : Nat) : Int) :: unpackN (N / 2 ^ w) w n := by
  unfold unpackN
  rw [List.range_succ_eq_map, List.map_cons, List.map_map]
  simp only [Nat.zero_mul, Nat.pow_zero, Nat.div_one, List.cons.injEq, true_and]
  apply List.map_congr_left
  intro i _
  simp only [Function.comp_apply, Nat.succ_eq_add_one]
  rw [Nat.add_mul, Nat.one_mul, Nat.add_comm (i * w) w, div_pow_add]
theorem packN_unpackN (w n : Nat) : ∀ N, N < 2 ^ (w * n) → packN w (unpackN N w n) = N := by
  induction n with
  | zero => intro N h; simp at h; simp [unpackN, packN, h]
  | succ n ih =>
    intro N h
    rw [unpackN_succ, packN, Int.toNat_natCast, ih]
    · have := Nat.div_add_mod N (2 ^ w); omega
    · rw [Nat.mul_add, Nat.mul_one, Nat.add_comm, Nat.pow_add] at h
      exact (Nat.div_lt_iff_lt_mul (Nat.two_pow_pos w)).2 (by rw [Nat.mul_comm]; exact h)
theorem unpackN_packN {w : Nat} {vs : List Int} (h0 : U64s vs) (h : ∀ v ∈ vs, v.toNat < 2 ^ w) : unpackN (packN w vs) w vs.length = vs := by
  apply List.ext_getElem
  · rw [unpackN_len]
  · intro i h1 h2
    rw [unpackN_get h2, packN_at h i h2]
    have := h0 _ (List.getElem_mem h2)
    omega
/-- The least width that holds all. -/
def widthN (vs : List Int) : Nat := vs.foldl (fun m v => max m (blen v.toNat)) 0
theorem foldl_max_le (vs : List Int) : ∀ (a w : Nat), vs.foldl (fun m v => max m (blen v.toNat)) a ≤ w ↔ a ≤ w ∧ ∀ v ∈ vs, blen v.toNat ≤ w := by
  induction vs with
  | nil => intro a w; simp
  | cons v r ih =>
    intro a w
    rw [List.foldl_cons, ih]
    constructor
    · rintro ⟨h1, h2⟩
      refine ⟨by omega, fun x hx => ?_⟩
      rcases List.mem_cons.1 hx with rfl | hx
      · omega
      · exact h2 x hx
    · rintro ⟨h1, h2⟩
      have := h2 v List.mem_cons_self
      exact ⟨by omega, fun x hx => h2 x (List.mem_cons_of_mem _ hx)⟩
theorem blen_le_iff {n w : Nat} : blen n ≤ w ↔ n < 2 ^ w := by
  constructor
  · intro h; exact Nat.lt_of_lt_of_le (blen_lt n) (Nat.pow_le_pow_right (by decide) h)
  · exact blen_le_of_lt
theorem widthN_le {vs : List Int} {w : Nat} : widthN vs ≤ w ↔ ∀ v ∈ vs, v.toNat < 2 ^ w := by
  unfold widthN
  rw [foldl_max_le]
  simp only [Nat.zero_le, true_and, blen_le_iff]
theorem widthN_64 {vs : List Int} (h : U64s vs) : widthN vs ≤ 64 := widthN_le.2 fun v hv => by have := h v hv; omega
theorem blen_or (a b : Nat) : blen (a ||| b) = max (blen a) (blen b) := by
  apply Nat.le_antisymm
  · apply blen_le_of_lt
    apply Nat.or_lt_two_pow
    · exact Nat.lt_of_lt_of_le (blen_lt a) (Nat.pow_le_pow_right (by decide) (by omega))
    · exact Nat.lt_of_lt_of_le (blen_lt b) (Nat.pow_le_pow_right (by decide) (by omega))
  · have h1 := blen_mono (Nat.left_le_or (n := a) (m := b))
    have h2 := blen_mono (Nat.right_le_or (n := a) (m := b))
    omega
/-- How many bytes n numbers of w bits need. -/
def needN (w n : Nat) : Nat := (w * n + 7) / 8
def packR (w : Int) (vs : List Int) : List Int × Int :=
  if w < 0 ∨ w > 64 then ([], 1) else if vs.length > 4096 then ([], 4) else if (widthN vs : Int) > w then ([], 10) else (leb (packN w.toNat vs) (needN w.toNat vs.length), 0)
def unpackR (b : List Int) (w n : Int) : List Int × Int :=
  if w < 0 ∨ w > 64 ∨ n < 0 ∨ n > 4096 then ([], 1) else if b.length < needN w.toNat n.toNat then ([], 2) else if b.length > needN w.toNat n.toNat then ([], 3)
  else if nat b / 2 ^ (w.toNat * n.toNat) ≠ 0 then ([], 5) else (unpackN (nat b) w.toNat n.toNat, 0)
def atR (b : List Int) (w i : Int) : Int × Bool :=
  if w < 0 ∨ w > 64 ∨ i < 0 ∨ (i + 1) * w > 8 * b.length then (0, false) else (((nat b / 2 ^ (i.toNat * w.toNat) % 2 ^ w.toNat : Nat) : Int), true)
theorem mul_lt64 {w n : Nat} (hw : w ≤ 64) (hn : n ≤ 4096) : w * n ≤ 262144 := by
  have := Nat.mul_le_mul hw hn; omega
theorem packR_fit {w : Int} {vs : List Int} (h : ∀ v ∈ vs, v.toNat < 2 ^ w.toNat) : packN w.toNat vs < 2 ^ (8 * needN w.toNat vs.length) :=
  Nat.lt_of_lt_of_le (packN_lt h) (Nat.pow_le_pow_right (by decide) (by unfold needN; omega))
/-- What was packed is unpacked. -/
theorem unpack_pack {w : Int} {vs : List Int} (hv : U64s vs) (h0 : 0 ≤ w) (h1 : w ≤ 64) (hl : vs.length ≤ 4096) (hw : (widthN vs : Int) ≤ w) :
    unpackR (packR w vs).1 w vs.length = (vs, 0) := by
  have hs := widthN_le.1 (show widthN vs ≤ w.toNat by omega)
  unfold packR
  rw [if_neg (by omega), if_neg (by omega), if_neg (by omega)]
  unfold unpackR
  simp only [leb_len, Int.toNat_natCast]
  rw [if_neg (by omega), if_neg (by omega), if_neg (by omega), nat_leb _ _ (packR_fit hs), if_neg, unpackN_packN hv hs]
  rw [Nat.div_eq_of_lt (packN_lt hs)]; simp
theorem pack_unpack {b : List Int} {w n : Int} (hb : Bytes b) (h : (unpackR b w n).2 = 0) :
    0 ≤ w ∧ w ≤ 64 ∧ 0 ≤ n ∧ n ≤ 4096 ∧ (unpackR b w n).1 = unpackN (nat b) w.toNat n.toNat ∧ packR w (unpackR b w n).1 = (b, 0) ∧ b.length = needN w.toNat n.toNat ∧ nat b < 2 ^ (w.toNat * n.toNat) := by
  unfold unpackR at h ⊢
  split at h
  · simp at h
  rename_i h1
  split at h
  · simp at h
  rename_i h2
  split at h
  · simp at h
  rename_i h3
  split at h
  · simp at h
  rename_i h4
  rw [if_neg h1, if_neg h2, if_neg h3, if_neg h4]
  have hN : nat b < 2 ^ (w.toNat * n.toNat) := by
    refine Decidable.byContradiction fun hc => h4 ?_
    have := (Nat.le_div_iff_mul_le (Nat.two_pow_pos (w.toNat * n.toNat))).2 (show 1 * 2 ^ (w.toNat * n.toNat) ≤ nat b by omega)
    omega
  refine ⟨by omega, by omega, by omega, by omega, rfl, ?_, by omega, hN⟩
  unfold packR
  have hw := widthN_le.2 (unpackN_small (N := nat b) (w := w.toNat) (n := n.toNat))
  simp only [unpackN_len]
  rw [if_neg (by omega), if_neg (by omega), if_neg (by omega), packN_unpackN _ _ _ hN, show needN w.toNat n.toNat = b.length by omega, leb_nat hb]
theorem unpackR_bad {b : List Int} {w n : Int} (h : (unpackR b w n).2 ≠ 0) : (unpackR b w n).1 = [] := by
  unfold unpackR at h ⊢
  split
  · rfl
  rename_i h1; rw [if_neg h1] at h
  split
  · rfl
  rename_i h2; rw [if_neg h2] at h
  split
  · rfl
  rename_i h3; rw [if_neg h3] at h
  split
  · rfl
  rename_i h4; rw [if_neg h4] at h; simp at h

/-! ### m_bits: or, and, shifts as arithmetic -/
theorem wraps_u64 (n : Int) (h0 : 0 ≤ n) (h1 : n < 2 ^ 64) : IntKind.u64.wrap n = n := by
  rw [u64r]; omega
theorem and127 {x : Int} (h0 : 0 ≤ x) (h1 : x < 256) : Go.bits .and .u8 x 127 = x % 128 := Go.bits_mask .u8 8 (by decide) Go.wraps_u8 7 (by decide) x h0 h1
/-- A number below 2^j, and one whose lowest j bits are 0: 'or' adds. -/
theorem or_low {j : Nat} {x y : Int} (hx0 : 0 ≤ x) (hx : x < 2 ^ j) (hy0 : 0 ≤ y) (hb : x + y * 2 ^ j < 2 ^ 64) :
    Go.bits .or .u64 x (y * 2 ^ j) = x + y * 2 ^ j := by
  have hp : (0 : Int) < 2 ^ j := Int.pow_pos (by decide)
  obtain ⟨a, rfl⟩ := Int.eq_ofNat_of_zero_le hx0
  obtain ⟨b, rfl⟩ := Int.eq_ofNat_of_zero_le hy0
  have ha : a < 2 ^ j := by exact_mod_cast hx
  have hab : a + b * 2 ^ j < 2 ^ 64 := by exact_mod_cast hb
  have e : ((b : Int) * 2 ^ j) = ((2 ^ j * b : Nat) : Int) := by rw [Nat.mul_comm]; simp
  have hc : a + 2 ^ j * b < 2 ^ 64 := by rw [Nat.mul_comm]; exact hab
  rw [e, (Go.bits_nat .u64 64 (by decide) wraps_u64 a (2 ^ j * b) (by omega) (by omega)).2, Nat.or_comm, ← Nat.two_pow_add_eq_or_of_lt ha b]
  omega
theorem shl64 {x y : Int} (hx : 0 ≤ x) {n : Nat} (hy : y = n) (hn : n ≤ 64) (hb : x * 2 ^ n < 2 ^ 64) : shl .u64 x y = x * 2 ^ n := by
  subst hy
  have : (0 : Int) ≤ x * 2 ^ n := Int.mul_nonneg hx (Int.le_of_lt (Int.pow_pos (by decide)))
  have e : min n IntKind.u64.bits = n := by simp only [IntKind.bits]; omega
  unfold shl
  rw [Int.toNat_natCast, e, wraps_u64 _ this hb]

/-! ### m_vint: numbers in as few bytes as they need, by definition -/
def putL (u : Nat) : List Int := if u < 128 then [(u : Int)] else ((u % 128 + 128 : Nat) : Int) :: putL (u / 128)
theorem putL_small {u : Nat} (h : u < 128) : putL u = [(u : Int)] := by rw [putL, if_pos h]
theorem putL_big {u : Nat} (h : ¬ u < 128) : putL u = ((u % 128 + 128 : Nat) : Int) :: putL (u / 128) := by rw [putL, if_neg h]
def getL : List Int → Nat → Except Int (Int × Nat)
  | [], _ => .error 2
  | c :: r, i => if i = 9 ∧ c > 1 then .error 20 else if c ≥ 128 then (match getL r (i + 1) with | .ok (v, n) => .ok (c - 128 + 128 * v, n + 1) | .error e => .error e)
    else if c = 0 ∧ i > 0 then .error 5 else .ok (c, 1)
theorem putL_bytes (n : Nat) : ∀ u, u < n → Bytes (putL u) := by
  induction n with
  | zero => intro u h; omega
  | succ n ih =>
    intro u h
    by_cases hu : u < 128
    · rw [putL_small hu]; intro x hx; simp only [List.mem_singleton] at hx; omega
    · rw [putL_big hu]; intro x hx
      rcases List.mem_cons.1 hx with rfl | hx
      · omega
      · exact ih (u / 128) (by omega) x hx
theorem putL_pos (u : Nat) : 1 ≤ (putL u).length := by
  by_cases hu : u < 128
  · rw [putL_small hu]; simp
  · rw [putL_big hu]; simp
/-- How long the bytes are: bounds on the number. -/
theorem putL_len (n : Nat) : ∀ u, u < n → u < 2 ^ (7 * (putL u).length) ∧ (2 ≤ (putL u).length → 2 ^ (7 * ((putL u).length - 1)) ≤ u) := by
  induction n with
  | zero => intro u h; omega
  | succ n ih =>
    intro u h
    by_cases hu : u < 128
    · rw [putL_small hu]; simp; omega
    · rw [putL_big hu]
      obtain ⟨h1, h2⟩ := ih (u / 128) (by omega)
      have hp := putL_pos (u / 128)
      simp only [List.length_cons, Nat.add_sub_cancel]
      have e : 2 ^ (7 * ((putL (u / 128)).length + 1)) = 2 ^ (7 * (putL (u / 128)).length) * 128 := by rw [Nat.mul_add, Nat.pow_add]
      refine ⟨by rw [e]; omega, fun _ => ?_⟩
      by_cases hl : 2 ≤ (putL (u / 128)).length
      · have h3 := h2 hl
        have e2 : 2 ^ (7 * (putL (u / 128)).length) = 2 ^ (7 * ((putL (u / 128)).length - 1)) * 128 := by
          rw [show 7 * (putL (u / 128)).length = 7 * ((putL (u / 128)).length - 1) + 7 by omega, Nat.pow_add]
        rw [e2]; omega
      · rw [show (putL (u / 128)).length = 1 by omega]; omega
theorem putL_len_le {u j : Nat} (hj : 1 ≤ j) (h : u < 2 ^ (7 * j)) : (putL u).length ≤ j := by
  obtain ⟨_, h2⟩ := putL_len (u + 1) u (by omega)
  refine Decidable.byContradiction fun hc => ?_
  have h3 := h2 (by omega)
  have : 2 ^ (7 * j) ≤ 2 ^ (7 * ((putL u).length - 1)) := Nat.pow_le_pow_right (by decide) (by omega)
  omega
theorem putL_len10 {u : Nat} (h : u < 18446744073709551616) : (putL u).length ≤ 10 :=
  putL_len_le (by decide) (Nat.lt_trans h (by decide))
theorem putL_mono {u v : Nat} (h : u ≤ v) : (putL u).length ≤ (putL v).length := by
  obtain ⟨h1, _⟩ := putL_len (v + 1) v (by omega)
  exact putL_len_le (putL_pos v) (by omega)
/-- What is got: its bounds. -/
theorem getL_ok : ∀ (b : List Int) (i : Nat) (v : Int) (n : Nat), Bytes b → i ≤ 9 → getL b i = .ok (v, n) →
    0 ≤ v ∧ v < 2 ^ (64 - 7 * i) ∧ 1 ≤ n ∧ n ≤ b.length ∧ n + i ≤ 10 := by
  intro b
  induction b with
  | nil => intro i v n _ _ h; simp [getL] at h
  | cons c r ih =>
    intro i v n hb hi h
    have hc := hb c (List.mem_cons_self)
    have hr : Bytes r := fun x hx => hb x (List.mem_cons_of_mem _ hx)
    rw [getL] at h
    by_cases h9 : i = 9 ∧ c > 1
    · rw [if_pos h9] at h; simp at h
    rw [if_neg h9] at h
    by_cases h128 : c ≥ 128
    · rw [if_pos h128] at h
      have hi8 : i + 1 ≤ 9 := by omega
      cases hg : getL r (i + 1) with
      | error e => rw [hg] at h; simp at h
      | ok p =>
        obtain ⟨v', n'⟩ := p
        rw [hg] at h
        simp only [Except.ok.injEq, Prod.mk.injEq] at h
        obtain ⟨rfl, rfl⟩ := h
        obtain ⟨g1, g2, g3, g4, g5⟩ := ih (i + 1) v' n' hr hi8 hg
        have e : (2 : Int) ^ (64 - 7 * i) = 2 ^ (64 - 7 * (i + 1)) * 128 := by
          rw [show 64 - 7 * i = 64 - 7 * (i + 1) + 7 by omega, Int.pow_add]; rfl
        refine ⟨by omega, by rw [e]; omega, by omega, by simp only [List.length_cons]; omega, by omega⟩
    · rw [if_neg h128] at h
      by_cases h0 : c = 0 ∧ i > 0
      · rw [if_pos h0] at h; simp at h
      rw [if_neg h0] at h
      simp only [Except.ok.injEq, Prod.mk.injEq] at h
      obtain ⟨rfl, rfl⟩ := h
      refine ⟨by omega, ?_, by omega, by simp, by omega⟩
      by_cases hi9 : i = 9
      · subst hi9; have : ¬ c > 1 := fun h => h9 ⟨rfl, h⟩; simp; omega
      · have : (2 : Int) ^ 8 ≤ 2 ^ (64 - 7 * i) := ipow_le (by decide) (by omega)
        omega
/-- What was put is got again. -/
theorem getL_putL (n : Nat) : ∀ (u i : Nat) (rest : List Int), u < n → i ≤ 9 → u < 2 ^ (64 - 7 * i) → (i > 0 → u > 0) → getL (putL u ++ rest) i = .ok ((u : Int), (putL u).length) := by
  induction n with
  | zero => intro u i rest h; omega
  | succ n ih =>
    intro u i rest h hi hu hp
    by_cases hs : u < 128
    · rw [putL_small hs]
      simp only [List.singleton_append, getL, List.length_singleton]
      rw [if_neg, if_neg (by omega), if_neg (by omega)]
      rintro ⟨rfl, h1⟩
      simp at hu; omega
    · rw [putL_big hs]
      simp only [List.cons_append, getL, List.length_cons]
      have hi8 : i + 1 ≤ 9 := by
        refine Decidable.byContradiction fun hc => ?_
        have : i = 9 := by omega
        subst this; simp at hu; omega
      have e : (2 : Nat) ^ (64 - 7 * i) = 2 ^ (64 - 7 * (i + 1)) * 128 := by
        rw [show 64 - 7 * i = 64 - 7 * (i + 1) + 7 by omega, Nat.pow_add]
      rw [if_neg (by omega), if_pos (by omega), ih (u / 128) (i + 1) rest (by omega) hi8 (by omega) (by omega)]
      simp only [Except.ok.injEq, Prod.mk.injEq, and_true]
      omega
/-- A piece of what was put isn't enough. -/
theorem getL_short (n : Nat) : ∀ (u i m : Nat), u < n → i ≤ 9 → u < 2 ^ (64 - 7 * i) → m < (putL u).length → getL ((putL u).take m) i = .error 2 := by
  induction n with
  | zero => intro u i m h; omega
  | succ n ih =>
    intro u i m h hi hu hm
    cases m with
    | zero => simp [getL]
    | succ m =>
      by_cases hs : u < 128
      · rw [putL_small hs] at hm; simp at hm
      · rw [putL_big hs] at hm ⊢
        simp only [List.length_cons] at hm
        simp only [List.take_succ_cons, getL]
        have hi8 : i + 1 ≤ 9 := by
          refine Decidable.byContradiction fun hc => ?_
          have : i = 9 := by omega
          subst this; simp at hu; omega
        have e : (2 : Nat) ^ (64 - 7 * i) = 2 ^ (64 - 7 * (i + 1)) * 128 := by
          rw [show 64 - 7 * i = 64 - 7 * (i + 1) + 7 by omega, Nat.pow_add]
        rw [if_neg (by omega), if_pos (by omega), ih (u / 128) (i + 1) m (by omega) hi8 (by omega) (by omega)]
/-- Bytes that are got are the only ones. -/
theorem getL_only : ∀ (b : List Int) (i : Nat) (v : Int) (n : Nat), Bytes b → i ≤ 9 → getL b i = .ok (v, n) → putL v.toNat = b.take n ∧ (i > 0 → 0 < v) := by
  intro b
  induction b with
  | nil => intro i v n _ _ h; simp [getL] at h
  | cons c r ih =>
    intro i v n hb hi h
    have hc := hb c (List.mem_cons_self)
    have hr : Bytes r := fun x hx => hb x (List.mem_cons_of_mem _ hx)
    rw [getL] at h
    by_cases h9 : i = 9 ∧ c > 1
    · rw [if_pos h9] at h; simp at h
    rw [if_neg h9] at h
    by_cases h128 : c ≥ 128
    · rw [if_pos h128] at h
      have hi8 : i + 1 ≤ 9 := by omega
      cases hg : getL r (i + 1) with
      | error e => rw [hg] at h; simp at h
      | ok p =>
        obtain ⟨v', n'⟩ := p
        rw [hg] at h
        simp only [Except.ok.injEq, Prod.mk.injEq] at h
        obtain ⟨rfl, rfl⟩ := h
        obtain ⟨g1, g2⟩ := ih (i + 1) v' n' hr hi8 hg
        obtain ⟨q1, _⟩ := getL_ok r (i + 1) v' n' hr hi8 hg
        have g3 := g2 (by omega)
        refine ⟨?_, fun _ => by omega⟩
        rw [putL_big (by omega), show (c - 128 + 128 * v').toNat / 128 = v'.toNat by omega, g1, List.take_succ_cons]
        congr 1; omega
    · rw [if_neg h128] at h
      by_cases h0 : c = 0 ∧ i > 0
      · rw [if_pos h0] at h; simp at h
      rw [if_neg h0] at h
      simp only [Except.ok.injEq, Prod.mk.injEq] at h
      obtain ⟨rfl, rfl⟩ := h
      refine ⟨?_, by omega⟩
      rw [putL_small (by omega)]; simp; omega
/-- The answer of Get. -/
def getR (b : List Int) (at_ : Int) : Int × Int × Int :=
  if at_ < 0 ∨ at_ > b.length then (0, 0, 1) else match getL (b.drop at_.toNat) 0 with
    | .ok (v, n) => (v, at_ + n, 0)
    | .error e => (0, 0, e)
theorem getL_err : ∀ (b : List Int) (i : Nat) (e : Int), getL b i = .error e → e = 2 ∨ e = 20 ∨ e = 5 := by
  intro b
  induction b with
  | nil => intro i e h; simp only [getL, Except.error.injEq] at h; omega
  | cons c r ih =>
    intro i e h
    rw [getL] at h
    split at h
    · simp only [Except.error.injEq] at h; omega
    split at h
    · split at h
      · simp at h
      · rename_i e' hg; simp only [Except.error.injEq] at h; subst h; exact ih _ _ hg
    split at h
    · simp only [Except.error.injEq] at h; omega
    · simp at h
theorem getR_ok {b : List Int} {at_ v nx : Int} (hb : Bytes b) (h : getR b at_ = (v, nx, 0)) :
    0 ≤ at_ ∧ at_ < nx ∧ nx ≤ b.length ∧ nx ≤ at_ + 10 ∧ 0 ≤ v ∧ v < 18446744073709551616 ∧ putL v.toNat = (b.take nx.toNat).drop at_.toNat := by
  unfold getR at h
  split at h
  · simp at h
  rename_i ha
  split at h
  · rename_i v' n hg
    simp only [Prod.mk.injEq, and_true] at h
    obtain ⟨rfl, rfl⟩ := h
    obtain ⟨g1, g2, g3, g4, g5⟩ := getL_ok _ 0 _ _ (hb.drop _) (by decide) hg
    obtain ⟨q1, _⟩ := getL_only _ 0 _ _ (hb.drop _) (by decide) hg
    rw [List.length_drop] at g4
    refine ⟨by omega, by omega, by omega, by omega, g1, by simpa using g2, ?_⟩
    rw [q1, List.drop_take, show (at_ + (n : Int)).toNat - at_.toNat = n by omega]
  · rename_i e hg
    have := getL_err _ _ _ hg
    simp only [Prod.mk.injEq] at h
    omega
theorem getR_bad {b : List Int} {at_ v nx e : Int} (h : getR b at_ = (v, nx, e)) (he : e ≠ 0) : v = 0 ∧ nx = 0 := by
  unfold getR at h
  split at h
  · simp only [Prod.mk.injEq] at h; omega
  split at h
  · simp only [Prod.mk.injEq] at h; omega
  · simp only [Prod.mk.injEq] at h; omega
theorem getR_put (a c : List Int) {u : Nat} (hu : u < 18446744073709551616) : getR (a ++ putL u ++ c) (a.length : Int) = ((u : Int), (a.length : Int) + (putL u).length, 0) := by
  unfold getR
  rw [if_neg (by simp only [List.length_append]; omega), Int.toNat_natCast, List.append_assoc, List.drop_left, getL_putL (u + 1) u 0 c (by omega) (by decide) (by simpa using hu) (by omega)]
theorem getR_bad2 {b : List Int} {at_ : Int} (he : (getR b at_).2.2 ≠ 0) : (getR b at_).1 = 0 ∧ (getR b at_).2.1 = 0 := getR_bad (b := b) (at_ := at_) (v := (getR b at_).1) (nx := (getR b at_).2.1) (e := (getR b at_).2.2) rfl he

def foldI (v : Int) : Int := if 0 ≤ v then 2 * v else -2 * v - 1
def unfoldI (u : Int) : Int := if u % 2 = 0 then u / 2 else -(u / 2) - 1

/-! ### m_packed: numbers that lie close together -/
theorem mn_min (a b : Int) : mn a b = min a b := by unfold mn; split <;> omega
theorem mx_max (a b : Int) : mx a b = max a b := by unfold mx; split <;> omega
def I64s (l : List Int) : Prop := ∀ x ∈ l, -9223372036854775808 ≤ x ∧ x < 9223372036854775808
theorem i64sWf {l : List Int} (h : ∀ x ∈ l, (Lit.int .i64 x).wf = true) : I64s l := fun x hx => i64Wf (h x hx)
def minL (vs : List Int) : Int := vs.tail.foldl min (vs.headD 0)
def maxL (vs : List Int) : Int := vs.tail.foldl max (vs.headD 0)
theorem foldl_min (l : List Int) : ∀ a : Int, l.foldl min a ≤ a ∧ (∀ x ∈ l, l.foldl min a ≤ x) ∧ (l.foldl min a = a ∨ l.foldl min a ∈ l) := by
  induction l with
  | nil => intro a; simp
  | cons v r ih =>
    intro a
    obtain ⟨h1, h2, h3⟩ := ih (min a v)
    rw [List.foldl_cons]
    refine ⟨by omega, fun x hx => ?_, ?_⟩
    · rcases List.mem_cons.1 hx with rfl | hx
      · omega
      · exact h2 x hx
    · rcases h3 with h3 | h3
      · by_cases c : a ≤ v
        · left; rw [h3]; omega
        · right; rw [h3, show min a v = v by omega]; exact List.mem_cons_self
      · exact .inr (List.mem_cons_of_mem _ h3)
theorem minL_spec {vs : List Int} (h : vs ≠ []) : minL vs ∈ vs ∧ ∀ x ∈ vs, minL vs ≤ x := by
  cases vs with
  | nil => exact absurd rfl h
  | cons v r =>
    obtain ⟨h1, h2, h3⟩ := foldl_min r v
    simp only [minL, List.tail_cons, List.headD_cons]
    refine ⟨?_, fun x hx => ?_⟩
    · rcases h3 with h3 | h3
      · rw [h3]; exact List.mem_cons_self
      · exact List.mem_cons_of_mem _ h3
    · rcases List.mem_cons.1 hx with rfl | hx
      · exact h1
      · exact h2 x hx
def farL (l : Int) (vs : List Int) : List Int := vs.map fun v => v - l
theorem farL_len (l : Int) (vs : List Int) : (farL l vs).length = vs.length := by simp [farL]
theorem farL_u64 {vs : List Int} (hv : I64s vs) (h : vs ≠ []) : U64s (farL (minL vs) vs) := by
  obtain ⟨h1, h2⟩ := minL_spec h
  intro x hx
  simp only [farL, List.mem_map] at hx
  obtain ⟨v, hm, rfl⟩ := hx
  have a := hv _ h1; have b := hv _ hm; have c := h2 _ hm
  omega
theorem far_wrap {v l : Int} (hv : -9223372036854775808 ≤ v ∧ v < 9223372036854775808) (hl : -9223372036854775808 ≤ l ∧ l < 9223372036854775808) (h : l ≤ v) : IntKind.u64.wrap (IntKind.u64.wrap v - IntKind.u64.wrap l) = v - l := by
  have u : ∀ x : Int, IntKind.u64.wrap x = x % 18446744073709551616 := by intro x; simp [IntKind.wrap, IntKind.bits, IntKind.signed]
  rw [u, u, u]
  omega
def encP (vs : List Int) : List Int × Int :=
  if vs.length > 4096 then ([], 4) else if vs = [] then (putL 0, 0)
  else (putL vs.length ++ putL (foldI (minL vs)).toNat ++ [(widthN (farL (minL vs) vs) : Int)] ++ (packR (widthN (farL (minL vs) vs)) (farL (minL vs) vs)).1, 0)
theorem packR_own {vs : List Int} (hv : U64s vs) (hl : vs.length ≤ 4096) : (packR (widthN vs) vs).2 = 0 ∧ (packR (widthN vs) vs).1.length ≤ 32768 ∧ (packR (widthN vs) vs).1.length = needN (widthN vs) vs.length := by
  have hw := widthN_64 hv
  have := mul_lt64 hw hl
  unfold packR
  rw [if_neg (by omega), if_neg (by omega), if_neg (by omega)]
  refine ⟨rfl, ?_, ?_⟩
  · simp only [leb_len, Int.toNat_natCast]; unfold needN; omega
  · simp only [leb_len, Int.toNat_natCast]
theorem encP_len {vs : List Int} (hv : I64s vs) : (encP vs).1.length ≤ 32800 := by
  unfold encP
  split
  · simp
  · split
    · simp [putL]
    · rename_i h1 h2
      obtain ⟨m1, m2⟩ := minL_spec h2
      have hm := hv _ m1
      have hu := farL_u64 hv h2
      obtain ⟨p1, p2, p3⟩ := packR_own hu (by rw [farL_len]; omega)
      have hf : 0 ≤ foldI (minL vs) ∧ foldI (minL vs) < 18446744073709551616 := by unfold foldI; split <;> omega
      have a1 := putL_len10 (u := (foldI (minL vs)).toNat) (by omega)
      have a2 := putL_len10 (u := vs.length) (by omega)
      simp only [List.length_append, List.length_singleton]; omega

/-! ### m_packed2: what Decode answers -/
theorem nne {a b : Int} (h : a = b) : ¬ (a ≠ b) := fun f => f h
def I64 (x : Int) : Prop := -9223372036854775808 ≤ x ∧ x < 9223372036854775808
theorem unfoldI_range {u : Int} (h0 : 0 ≤ u) (h1 : u < 18446744073709551616) : I64 (unfoldI u) := by unfold unfoldI I64; split <;> omega
theorem unfold_fold {v : Int} : unfoldI (foldI v) = v := by unfold foldI unfoldI; split <;> split <;> omega
theorem fold_unfold {u : Int} (h : 0 ≤ u) : foldI (unfoldI u) = u := by unfold foldI unfoldI; split <;> split <;> omega
def aboveP (l : Int) (far : List Int) : List Int × Int :=
  if (∀ d ∈ far, l + d < 9223372036854775808) ∧ 0 ∈ far then (far.map fun d => l + d, 0) else ([], 5)
def decW (l : Int) (c : List Int) (n : Int) : List Int × Int :=
  match c with
  | [] => ([], 2)
  | w :: r => if w > 64 then ([], 5) else if (unpackR r w n).2 ≠ 0 then ([], (unpackR r w n).2) else if (widthN (unpackR r w n).1 : Int) ≠ w then ([], 5) else aboveP l (unpackR r w n).1
def decP (b : List Int) : List Int × Int :=
  if (getR b 0).2.2 ≠ 0 then ([], (getR b 0).2.2) else if (getR b 0).1 > 4096 then ([], 4) else if (getR b 0).1 = 0 then (if (getR b 0).2.1 < b.length then ([], 3) else ([], 0))
  else if (getR b (getR b 0).2.1).2.2 ≠ 0 then ([], (getR b (getR b 0).2.1).2.2)
  else decW (unfoldI (getR b (getR b 0).2.1).1) (b.drop (getR b (getR b 0).2.1).2.1.toNat) (getR b 0).1
theorem aboveP_bad {l : Int} {far : List Int} (h : (aboveP l far).2 ≠ 0) : (aboveP l far).1 = [] := by
  unfold aboveP at *
  split at h
  · exact absurd rfl h
  · rename_i c; rw [if_neg c]
theorem decW_bad {l : Int} {c : List Int} {n : Int} (h : (decW l c n).2 ≠ 0) : (decW l c n).1 = [] := by
  cases c with
  | nil => rfl
  | cons w r =>
    simp only [decW] at h ⊢
    split
    · rfl
    · split
      · rfl
      · split
        · rfl
        · rename_i h1 h2 h3
          rw [if_neg h1, if_neg h2, if_neg h3] at h
          exact aboveP_bad h
theorem decP_bad {b : List Int} (h : (decP b).2 ≠ 0) : (decP b).1 = [] := by
  unfold decP at *
  split
  · rfl
  · split
    · rfl
    · split
      · split <;> rfl
      · split
        · rfl
        · rename_i h1 h2 h3 h4
          rw [if_neg h1, if_neg h2, if_neg h3, if_neg h4] at h
          exact decW_bad h
theorem unpack_len {r : List Int} {w n : Int} (h : (unpackR r w n).2 = 0) : ((unpackR r w n).1.length : Int) = n ∧ n ≤ 4096 ∧ U64s (unpackR r w n).1 := by
  unfold unpackR at *
  split at h
  · simp at h
  · rename_i h1
    split at h
    · simp at h
    · rename_i h2
      split at h
      · simp at h
      · rename_i h3
        split at h
        · simp at h
        · rename_i h4
          rw [if_neg h1, if_neg h2, if_neg h3, if_neg h4]
          refine ⟨?_, by omega, unpackN_u64 (by omega)⟩
          simp only [unpackN_len]; omega
theorem getR_fit {b : List Int} (hb : Bytes b) {at_ : Int} (h : (getR b at_).2.2 = 0) : 0 ≤ (getR b at_).1 ∧ (getR b at_).1 < 18446744073709551616 ∧ at_ < (getR b at_).2.1 ∧ (getR b at_).2.1 ≤ b.length ∧ 0 ≤ at_ := by
  have := getR_ok hb (at_ := at_) (v := (getR b at_).1) (nx := (getR b at_).2.1) (by rw [← h])
  omega
theorem aboveP_len (l : Int) (far : List Int) : (aboveP l far).1.length ≤ far.length := by
  unfold aboveP; split
  · simp
  · simp
theorem decP_len {b : List Int} : (decP b).1.length ≤ 4096 := by
  by_cases h : (decP b).2 = 0
  · unfold decP at *
    split
    · simp
    · split
      · simp
      · split
        · split <;> simp
        · split
          · simp
          · rename_i h1 h2 h3 h4
            rw [if_neg h1, if_neg h2, if_neg h3, if_neg h4] at h
            generalize b.drop _ = c at h ⊢
            cases c with
            | nil => simp [decW]
            | cons w r =>
              simp only [decW] at h ⊢
              split
              · simp
              · split
                · simp
                · split
                  · simp
                  · rename_i g1 g2 g3
                    have := unpack_len (r := r) (w := w) (n := (getR b 0).1) (by simpa using g2)
                    have := aboveP_len (unfoldI (getR b (getR b 0).2.1).1) (unpackR r w (getR b 0).1).1
                    omega
  · rw [decP_bad h]; simp

/-! ### m_bits2: more of or, and, shifts -/
theorem i64_and7 {x : Int} (h0 : 0 ≤ x) (h1 : x < 9223372036854775808) : Go.bits .and .i64 x 7 = x % 8 :=
  Go.bits_mask .i64 63 (by decide) (fun n h0 h1 => by rw [Go.IntKind.wrap_i64]; omega) 3 (by decide) x h0 (by simpa using h1)
theorem u64_mask {x : Int} (h0 : 0 ≤ x) (h1 : x < 18446744073709551616) {i : Nat} (hi : i ≤ 64) : Go.bits .and .u64 x (2 ^ i - 1) = x % 2 ^ i :=
  Go.bits_mask .u64 64 (by decide) wraps_u64 i hi x h0 (by simpa using h1)
theorem or_low8 {j : Nat} {x y : Int} (hx0 : 0 ≤ x) (hx : x < 2 ^ j) (hy0 : 0 ≤ y) (hb : x + y * 2 ^ j < 2 ^ 8) :
    Go.bits .or .u8 x (y * 2 ^ j) = x + y * 2 ^ j := by
  have hp : (0 : Int) < 2 ^ j := Int.pow_pos (by decide)
  obtain ⟨a, rfl⟩ := Int.eq_ofNat_of_zero_le hx0
  obtain ⟨b, rfl⟩ := Int.eq_ofNat_of_zero_le hy0
  have ha : a < 2 ^ j := by exact_mod_cast hx
  have hab : a + b * 2 ^ j < 2 ^ 8 := by exact_mod_cast hb
  have e : ((b : Int) * 2 ^ j) = ((2 ^ j * b : Nat) : Int) := by rw [Nat.mul_comm]; simp
  have hc : a + 2 ^ j * b < 2 ^ 8 := by rw [Nat.mul_comm]; exact hab
  rw [e, (Go.bits_nat .u8 8 (by decide) Go.wraps_u8 a (2 ^ j * b) (by omega) (by omega)).2, Nat.or_comm, ← Nat.two_pow_add_eq_or_of_lt ha b]
  omega
theorem shl8 {x y : Int} (hx : 0 ≤ x) {n : Nat} (hy : y = n) (hn : n ≤ 8) (hb : x * 2 ^ n < 2 ^ 8) : shl .u8 x y = x * 2 ^ n := by
  subst hy
  have : (0 : Int) ≤ x * 2 ^ n := Int.mul_nonneg hx (Int.le_of_lt (Int.pow_pos (by decide)))
  have e : min n IntKind.u8.bits = n := by simp only [IntKind.bits]; omega
  unfold shl
  rw [Int.toNat_natCast, e, Go.wraps_u8 _ this hb]
theorem shr8 {x y : Int} {n : Nat} (hy : y = n) (hn : n ≤ 8) : shr .u8 x y = x / 2 ^ n := by
  subst hy
  have e : min n IntKind.u8.bits = n := by simp only [IntKind.bits]; omega
  unfold shr
  rw [Int.toNat_natCast, e]
theorem shr64 {x y : Int} {n : Nat} (hy : y = n) (hn : n ≤ 64) : shr .u64 x y = x / 2 ^ n := by
  subst hy
  have e : min n IntKind.u64.bits = n := by simp only [IntKind.bits]; omega
  unfold shr
  rw [Int.toNat_natCast, e]
theorem toNat_div2 {x : Int} (h0 : 0 ≤ x) (n : Nat) : (x / 2 ^ n).toNat = x.toNat / 2 ^ n := by
  obtain ⟨a, rfl⟩ := Int.eq_ofNat_of_zero_le h0
  rw [show (2 : Int) ^ n = ((2 ^ n : Nat) : Int) by simp, ← Int.natCast_ediv, Int.toNat_natCast, Int.toNat_natCast]
theorem toNat_mod2 {x : Int} (h0 : 0 ≤ x) (n : Nat) : (x % 2 ^ n).toNat = x.toNat % 2 ^ n := by
  obtain ⟨a, rfl⟩ := Int.eq_ofNat_of_zero_le h0
  rw [show (2 : Int) ^ n = ((2 ^ n : Nat) : Int) by simp, ← Int.natCast_emod, Int.toNat_natCast, Int.toNat_natCast]
theorem divmod2 {x : Int} (h0 : 0 ≤ x) (s t : Nat) : x / 2 ^ s % 2 ^ t = ((x.toNat / 2 ^ s % 2 ^ t : Nat) : Int) := by
  obtain ⟨a, rfl⟩ := Int.eq_ofNat_of_zero_le h0
  simp
theorem mn_nat (a b : Nat) : mn (a : Int) (b : Int) = ((min a b : Nat) : Int) := by unfold mn; split <;> omega

theorem len_tab {x : Int} (h0 : 0 ≤ x) (h1 : x < 256) : bt (⟨#[0, 1, 2, 2, 3, 3, 3, 3, 4, 4, 4, 4, 4, 4, 4, 4, 5, 5, 5, 5, 5, 5, 5, 5, 5, 5, 5, 5, 5, 5, 5, 5, 6, 6, 6, 6, 6, 6, 6, 6, 6, 6, 6, 6, 6, 6, 6, 6, 6, 6, 6, 6, 6, 6, 6, 6, 6, 6, 6, 6, 6, 6, 6, 6, 7, 7, 7, 7, 7, 7, 7, 7, 7, 7, 7, 7, 7, 7, 7, 7, 7, 7, 7, 7, 7, 7, 7, 7, 7, 7, 7, 7, 7, 7, 7, 7, 7, 7, 7, 7, 7, 7, 7, 7, 7, 7, 7, 7, 7, 7, 7, 7, 7, 7, 7, 7, 7, 7, 7, 7, 7, 7, 7, 7, 7, 7, 7, 7, 8, 8, 8, 8, 8, 8, 8, 8, 8, 8, 8, 8, 8, 8, 8, 8, 8, 8, 8, 8, 8, 8, 8, 8, 8, 8, 8, 8, 8, 8, 8, 8, 8, 8, 8, 8, 8, 8, 8, 8, 8, 8, 8, 8, 8, 8, 8, 8, 8, 8, 8, 8, 8, 8, 8, 8, 8, 8, 8, 8, 8, 8, 8, 8, 8, 8, 8, 8, 8, 8, 8, 8, 8, 8, 8, 8, 8, 8, 8, 8, 8, 8, 8, 8, 8, 8, 8, 8, 8, 8, 8, 8, 8, 8, 8, 8, 8, 8, 8, 8, 8, 8, 8, 8, 8, 8, 8, 8, 8, 8, 8, 8, 8, 8, 8, 8, 8, 8, 8, 8, 8, 8, 8, 8, 8, 8, 8, 8]⟩ : ByteArray) x = (blen x.toNat : Int) := by
  have : ∀ n : Fin 256, bt (⟨#[0, 1, 2, 2, 3, 3, 3, 3, 4, 4, 4, 4, 4, 4, 4, 4, 5, 5, 5, 5, 5, 5, 5, 5, 5, 5, 5, 5, 5, 5, 5, 5, 6, 6, 6, 6, 6, 6, 6, 6, 6, 6, 6, 6, 6, 6, 6, 6, 6, 6, 6, 6, 6, 6, 6, 6, 6, 6, 6, 6, 6, 6, 6, 6, 7, 7, 7, 7, 7, 7, 7, 7, 7, 7, 7, 7, 7, 7, 7, 7, 7, 7, 7, 7, 7, 7, 7, 7, 7, 7, 7, 7, 7, 7, 7, 7, 7, 7, 7, 7, 7, 7, 7, 7, 7, 7, 7, 7, 7, 7, 7, 7, 7, 7, 7, 7, 7, 7, 7, 7, 7, 7, 7, 7, 7, 7, 7, 7, 8, 8, 8, 8, 8, 8, 8, 8, 8, 8, 8, 8, 8, 8, 8, 8, 8, 8, 8, 8, 8, 8, 8, 8, 8, 8, 8, 8, 8, 8, 8, 8, 8, 8, 8, 8, 8, 8, 8, 8, 8, 8, 8, 8, 8, 8, 8, 8, 8, 8, 8, 8, 8, 8, 8, 8, 8, 8, 8, 8, 8, 8, 8, 8, 8, 8, 8, 8, 8, 8, 8, 8, 8, 8, 8, 8, 8, 8, 8, 8, 8, 8, 8, 8, 8, 8, 8, 8, 8, 8, 8, 8, 8, 8, 8, 8, 8, 8, 8, 8, 8, 8, 8, 8, 8, 8, 8, 8, 8, 8, 8, 8, 8, 8, 8, 8, 8, 8, 8, 8, 8, 8, 8, 8, 8, 8, 8, 8]⟩ : ByteArray) ((n.val : Nat) : Int) = (blen n.val : Int) := by decide +kernel
  have h := this ⟨x.toNat, by omega⟩
  simp only at h
  rwa [Int.toNat_of_nonneg h0] at h
theorem len64_j0 {x : Int} {z : Int} (h0 : 0 ≤ x) (h1 : x < 4294967296) (hz0 : 0 ≤ z) (hz : z ≤ 64) (k : Nat) (hk : 1 ≤ k) : bits_Len64.j0 k x z = some (z + blen x.toNat) := by
  obtain ⟨k, rfl⟩ : ∃ m, k = m + 1 := ⟨k - 1, by omega⟩
  have hb : ∀ y : Int, y < 256 → 0 ≤ y → (blen y.toNat : Int) ≤ 8 := fun y hy hy0 => by
    have := blen_le_of_lt (n := y.toNat) (m := 8) (by omega)
    omega
  simp only [bits_Len64.j0]
  by_cases c1 : x ≥ 65536
  · rw [if_pos c1]
    have e1 := blen_shift (n := x.toNat) (k := 16) (by simp; omega)
    by_cases c2 : x / 65536 ≥ 256
    · have e2 := blen_shift (n := x.toNat / 2 ^ 16) (k := 8) (by simp; omega)
      have e : x / 65536 / 256 % 256 = x / 65536 / 256 := by omega
      have g := hb (x / 65536 / 256) (by omega) (by omega)
      rw [if_pos c2, e, if_pos (by omega), if_pos (by omega), len_tab (by omega) (by omega), w64 (x := z + 16) (by omega) (by omega), w64 (x := z + 16 + 8) (by omega) (by omega), w64 (x := ((blen _ : Nat) : Int)) (by omega) (by omega), w64 (by omega) (by omega), e1, e2,
        show (x / 65536 / 256).toNat = x.toNat / 2 ^ 16 / 2 ^ 8 by omega]
      congr 1; omega
    · have e : x / 65536 % 256 = x / 65536 := by omega
      have g := hb (x / 65536) (by omega) (by omega)
      rw [if_neg c2, e, if_pos (by omega), if_pos (by omega), len_tab (by omega) (by omega), w64 (x := z + 16) (by omega) (by omega), w64 (x := ((blen _ : Nat) : Int)) (by omega) (by omega), w64 (by omega) (by omega), e1,
        show (x / 65536).toNat = x.toNat / 2 ^ 16 by omega]
      congr 1; omega
  · rw [if_neg c1]
    by_cases c2 : x ≥ 256
    · have e1 := blen_shift (n := x.toNat) (k := 8) (by simp; omega)
      have e : x / 256 % 256 = x / 256 := by omega
      have g := hb (x / 256) (by omega) (by omega)
      rw [if_pos c2, e, if_pos (by omega), if_pos (by omega), len_tab (by omega) (by omega), w64 (x := z + 8) (by omega) (by omega), w64 (x := ((blen _ : Nat) : Int)) (by omega) (by omega), w64 (by omega) (by omega), e1,
        show (x / 256).toNat = x.toNat / 2 ^ 8 by omega]
      congr 1; omega
    · have e : x % 256 = x := by omega
      have g := hb x (by omega) (by omega)
      rw [if_neg c2, e, if_pos (by omega), if_pos (by omega), len_tab (by omega) (by omega), w64 (x := ((blen _ : Nat) : Int)) (by omega) (by omega), w64 (by omega) (by omega)]
theorem len64_at {x : Int} (h0 : 0 ≤ x) (h1 : x < 18446744073709551616) (k : Nat) (hk : 1 ≤ k) : bits_Len64.f k x = some (blen x.toNat : Int) := by
  unfold bits_Len64.f
  by_cases c : x ≥ 4294967296
  · have e := blen_shift (n := x.toNat) (k := 32) (by simp; omega)
    rw [if_pos c, len64_j0 (by omega) (by omega) (by decide) (by decide) k hk, e, show (x / 4294967296).toNat = x.toNat / 2 ^ 32 by omega]
    congr 1; omega
  · rw [if_neg c, len64_j0 (by omega) (by omega) (by decide) (by decide) k hk]
    congr 1; omega

theorem or_nat {a b : Int} (ha : 0 ≤ a ∧ a < 18446744073709551616) (hb : 0 ≤ b ∧ b < 18446744073709551616) : Go.bits .or .u64 a b = ((a.toNat ||| b.toNat : Nat) : Int) := by
  have := (Go.bits_nat .u64 64 (by decide) wraps_u64 a.toNat b.toNat (by omega) (by omega)).2
  rwa [Int.toNat_of_nonneg ha.1, Int.toNat_of_nonneg hb.1] at this
theorem width_l0 (vs : List Int) (hv : U64s vs) (hl : vs.length ≤ 140737488355328) (d : Nat) : ∀ (k i a : Nat), i + d = vs.length → d + 1 < k → a < 18446744073709551616 →
    bits_Width.l0 k (a : Int) vs (vs.length : Int) i = some (((vs.drop i).foldl (fun m v => max m (blen v.toNat)) (blen a) : Nat) : Int) := by
  induction d with
  | zero =>
    intro k i a hi hk ha
    obtain ⟨k, rfl⟩ : ∃ m, k = m + 1 := ⟨k - 1, by omega⟩
    simp only [bits_Width.l0]
    rw [if_neg (by omega), List.drop_eq_nil_of_le (by omega), len64_at (by omega) (by omega) k (by omega), Option.bind_some, Int.toNat_natCast, List.foldl_nil]
  | succ d ih =>
    intro k i a hi hk ha
    obtain ⟨k, rfl⟩ : ∃ m, k = m + 1 := ⟨k - 1, by omega⟩
    have h1 : i < vs.length := by omega
    have hc := hv _ (List.getElem_mem h1)
    have hor : a ||| (vs[i]).toNat < 2 ^ 64 := Nat.or_lt_two_pow (by omega) (by omega)
    simp only [bits_Width.l0]
    rw [if_pos (by omega), if_pos (by omega), if_pos (by omega), rd_nat h1, wsucc (by omega), or_nat (by omega) hc, Int.toNat_natCast, ih k (i + 1) _ (by omega) (by omega) (by omega),
      show vs.drop i = vs[i] :: vs.drop (i + 1) from drop_cons h1, List.foldl_cons, blen_or]
theorem width_at (vs : List Int) (hv : U64s vs) (hl : vs.length ≤ 140737488355328) (k : Nat) (hk : vs.length + 2 ≤ k) : bits_Width.f k vs = some (widthN vs : Int) := by
  have := width_l0 vs hv hl vs.length k 0 0 (by omega) (by omega) (by decide)
  unfold bits_Width.f widthN
  exact this

theorem read_l0 (b : List Int) (hb : Bytes b) (hl : b.length ≤ 140737488355328) (a w : Nat) (hw : w ≤ 64) (hfit : a + w ≤ 8 * b.length) (d : Nat) : ∀ (k g : Nat), g ≤ w → w - g ≤ d → d < k →
    bits_read.l0 k b ((a + g : Nat) : Int) w ((nat b / 2 ^ a % 2 ^ g : Nat) : Int) (g : Int) = some ((nat b / 2 ^ a % 2 ^ w : Nat) : Int) := by
  induction d with
  | zero =>
    intro k g hg hd hk
    obtain ⟨k, rfl⟩ : ∃ m, k = m + 1 := ⟨k - 1, by omega⟩
    simp only [bits_read.l0]
    rw [if_neg (by omega), show g = w by omega]
  | succ d ih =>
    intro k g hg hd hk
    obtain ⟨k, rfl⟩ : ∃ m, k = m + 1 := ⟨k - 1, by omega⟩
    by_cases hgw : g = w
    · subst hgw
      simp only [bits_read.l0]
      rw [if_neg (by omega)]
    have hi : (a + g) / 8 < b.length := by omega
    have hc := hb _ (List.getElem_mem hi)
    -- the chunk
    obtain ⟨t, ht⟩ : ∃ t, t = min (8 - (a + g) % 8) (w - g) := ⟨_, rfl⟩
    have e1 : Go.bits .and .i64 ((a + g : Nat) : Int) 7 = (((a + g) % 8 : Nat) : Int) := by rw [i64_and7 (by omega) (by omega)]; omega
    have e2 : wrap64 (8 - (((a + g) % 8 : Nat) : Int)) = ((8 - (a + g) % 8 : Nat) : Int) := by rw [w64 (by omega) (by omega)]; omega
    have e3 : wrap64 ((w : Int) - (g : Int)) = ((w - g : Nat) : Int) := by rw [w64 (by omega) (by omega)]; omega
    have e4 : mn (wrap64 (8 - (Go.bits .and .i64 ((a + g : Nat) : Int) 7))) (wrap64 ((w : Int) - (g : Int))) = (t : Int) := by rw [e1, e2, e3, mn_nat, ht]
    have u : ∀ n : Nat, n ≤ 64 → IntKind.u64.wrap (n : Int) = (n : Int) := fun n hn => u64w (by omega) (by omega)
    have ei : ((a + g : Nat) : Int) / 8 = (((a + g) / 8 : Nat) : Int) := by omega
    have hchunk := nat_chunk hb (a + g) t hi (by omega)
    generalize hcc : b[(a + g) / 8] = c at hc hchunk
    -- the mask
    have e5 : IntKind.u64.wrap (shl .u64 1 (t : Int) - 1) = 2 ^ t - 1 := by
      have h8 : (2 : Int) ^ t ≤ 2 ^ 8 := ipow_le (by decide) (by omega)
      have hp : (0 : Int) < 2 ^ t := Int.pow_pos (by decide)
      rw [shl64 (by decide) rfl (by omega) (by omega), Int.one_mul, u64w (by omega) (by omega)]
    have hdiv : 0 ≤ c / 2 ^ ((a + g) % 8) ∧ c / 2 ^ ((a + g) % 8) ≤ c := by
      have := divmod2 hc.1 ((a + g) % 8) 0
      refine ⟨Int.ediv_nonneg hc.1 (Int.le_of_lt (Int.pow_pos (by decide))), Int.ediv_le_self _ hc.1⟩
    have e6 : Go.bits .and .u64 (IntKind.u64.wrap (shr .u8 c (((a + g) % 8 : Nat) : Int))) (2 ^ t - 1) = ((nat b / 2 ^ (a + g) % 2 ^ t : Nat) : Int) := by
      rw [shr8 rfl (by omega), u64w hdiv.1 (by omega), u64_mask hdiv.1 (by omega) (by omega), divmod2 hc.1, hchunk]
    have hlt : nat b / 2 ^ (a + g) % 2 ^ t < 2 ^ t := Nat.mod_lt _ (Nat.two_pow_pos t)
    have hlow : nat b / 2 ^ a % 2 ^ g < 2 ^ g := Nat.mod_lt _ (Nat.two_pow_pos g)
    have hsum := mod_split (nat b / 2 ^ a) g t
    rw [← div_pow_add] at hsum
    have hall : nat b / 2 ^ a % 2 ^ (g + t) < 2 ^ 64 := Nat.lt_of_lt_of_le (Nat.mod_lt _ (Nat.two_pow_pos _)) (Nat.pow_le_pow_right (by decide) (by omega))
    have ep : ((nat b / 2 ^ (a + g) % 2 ^ t : Nat) : Int) * 2 ^ g = ((2 ^ g * (nat b / 2 ^ (a + g) % 2 ^ t) : Nat) : Int) := by rw [Nat.mul_comm]; simp
    have e7 : Go.bits .or .u64 ((nat b / 2 ^ a % 2 ^ g : Nat) : Int) (shl .u64 ((nat b / 2 ^ (a + g) % 2 ^ t : Nat) : Int) (g : Int)) = ((nat b / 2 ^ a % 2 ^ (g + t) : Nat) : Int) := by
      rw [shl64 (by omega) rfl (by omega) (by rw [ep]; omega), or_low (by omega) (by exact_mod_cast hlow) (by omega) (by rw [ep]; omega), ep, hsum]
      omega
    simp only [bits_read.l0]
    rw [if_pos (by omega), ei, if_pos (by omega), if_pos (by omega), e4, e1, u _ (by omega), u t (by omega), u g (by omega), if_pos (by omega), if_pos (by omega), if_pos (by omega), rd_nat hi, hcc, e5, e6, e7,
      w64 (x := ((a + g : Nat) : Int) + t) (by omega) (by omega), w64 (x := (g : Int) + t) (by omega) (by omega), show ((a + g : Nat) : Int) + t = ((a + (g + t) : Nat) : Int) by omega, show (g : Int) + t = ((g + t : Nat) : Int) by omega]
    exact ih k (g + t) (by omega) (by omega) (by omega)
theorem read_at (b : List Int) (hb : Bytes b) (hl : b.length ≤ 140737488355328) (a w : Nat) (hw : w ≤ 64) (hfit : a + w ≤ 8 * b.length) (k : Nat) (hk : 65 ≤ k) : bits_read.f k b (a : Int) (w : Int) = some ((nat b / 2 ^ a % 2 ^ w : Nat) : Int) := by
  have := read_l0 b hb hl a w hw hfit w k 0 (by omega) (by omega) (by omega)
  simp only [Nat.add_zero, Nat.pow_zero, Nat.mod_one, Int.natCast_zero] at this
  exact this

theorem badw (w : Int) : bits_badWidth.f w = some (decide (w < 0 ∨ w > 64)) := by
  unfold bits_badWidth.f
  by_cases h : w < 0
  · rw [if_pos h]; simp [h]
  · rw [if_neg h]; simp [h]
theorem need_at {w n : Nat} (hw : w ≤ 64) (hn : n ≤ 4096) : bits_need.f (w : Int) (n : Int) = some (needN w n : Int) := by
  have h := mul_lt64 hw hn
  have e : (w : Int) * (n : Int) = ((w * n : Nat) : Int) := by simp
  unfold bits_need.f needN
  rw [e, w64 (x := ((w * n : Nat) : Int)) (by omega) (by omega), w64 (x := ((w * n : Nat) : Int) + 7) (by omega) (by omega), Int.tdiv_eq_ediv_of_nonneg (by omega), w64 (by omega) (by omega)]
  congr 1
/-- One number's bits, put behind 'at' bits. -/
theorem pack_l1 (w0 : Int) (vs : List Int) (len i : Int) (d : Nat) : ∀ (out : List Int) (a left : Nat) (v : Int), Bytes out → nat out < 2 ^ a → a + left ≤ 8 * out.length → out.length ≤ 140737488355328 → left ≤ 64 → 0 ≤ v → v < 18446744073709551616 → v.toNat < 2 ^ left → left ≤ d →
    ∃ out' m, Bytes out' ∧ out'.length = out.length ∧ nat out' = nat out + v.toNat * 2 ^ a ∧ m ≤ d + 1 ∧ ∀ k, bits_Pack.l1 (k + m) w0 out (a : Int) v (left : Int) vs len i = bits_Pack.l0 k w0 out' ((a + left : Nat) : Int) vs len (wrap64 (i + 1)) := by
  induction d with
  | zero =>
    intro out a left v hb hn hfit hl hleft hv0 hv1 hv hd
    have h0 : left = 0 := by omega
    subst h0
    have : v.toNat = 0 := by simpa using hv
    refine ⟨out, 1, hb, rfl, by rw [this]; omega, by omega, fun k => ?_⟩
    simp only [bits_Pack.l1]
    rw [if_neg (by omega)]; simp
  | succ d ih =>
    intro out a left v hb hn hfit hl hleft hv0 hv1 hv hd
    by_cases h0 : left = 0
    · subst h0
      have : v.toNat = 0 := by simpa using hv
      refine ⟨out, 1, hb, rfl, by rw [this]; omega, by omega, fun k => ?_⟩
      simp only [bits_Pack.l1]
      rw [if_neg (by omega)]; simp
    have hi : a / 8 < out.length := by omega
    have hc := hb _ (List.getElem_mem hi)
    obtain ⟨t, ht⟩ : ∃ t, t = min (8 - a % 8) left := ⟨_, rfl⟩
    have e1 : Go.bits .and .i64 (a : Int) 7 = ((a % 8 : Nat) : Int) := by rw [i64_and7 (by omega) (by omega)]; omega
    have e2 : wrap64 (8 - ((a % 8 : Nat) : Int)) = ((8 - a % 8 : Nat) : Int) := by rw [w64 (by omega) (by omega)]; omega
    have e4 : mn (wrap64 (8 - (Go.bits .and .i64 (a : Int) 7))) (left : Int) = (t : Int) := by rw [e1, e2, mn_nat, ht]
    have u : ∀ n : Nat, n ≤ 64 → IntKind.u64.wrap (n : Int) = (n : Int) := fun n hn => u64w (by omega) (by omega)
    have ei : (a : Int) / 8 = ((a / 8 : Nat) : Int) := by omega
    have e5 : IntKind.u64.wrap (shl .u64 1 (t : Int) - 1) = 2 ^ t - 1 := by
      have h8 : (2 : Int) ^ t ≤ 2 ^ 8 := ipow_le (by decide) (by omega)
      have hp : (0 : Int) < 2 ^ t := Int.pow_pos (by decide)
      rw [shl64 (by decide) rfl (by omega) (by omega), Int.one_mul, u64w (by omega) (by omega)]
    -- the byte: what stands in it lies below
    have hbyte : (out[a / 8]).toNat < 2 ^ (a % 8) := by
      rw [← nat_at hb (a / 8) hi]
      have : nat out / 2 ^ (8 * (a / 8)) < 2 ^ (a % 8) := by
        rw [Nat.div_lt_iff_lt_mul (Nat.two_pow_pos _), ← Nat.pow_add, show a % 8 + 8 * (a / 8) = a by omega]; exact hn
      exact Nat.lt_of_le_of_lt (Nat.mod_le _ _) this
    have hset := nat_set (out[a / 8] + v % 2 ^ t * 2 ^ (a % 8)) (a / 8) hi
    have hmod : v % 2 ^ t = ((v.toNat % 2 ^ t : Nat) : Int) := by
      have := divmod2 hv0 0 t; simpa using this
    have hlt : v.toNat % 2 ^ t < 2 ^ t := Nat.mod_lt _ (Nat.two_pow_pos t)
    have ht8 : 2 ^ t * 2 ^ (a % 8) ≤ 2 ^ 8 := by rw [← Nat.pow_add]; exact Nat.pow_le_pow_right (by decide) (by omega)
    have hx : (v.toNat % 2 ^ t + 1) * 2 ^ (a % 8) ≤ 2 ^ t * 2 ^ (a % 8) := Nat.mul_le_mul_right _ (by omega)
    rw [Nat.add_mul, Nat.one_mul] at hx
    have hprod : ((v.toNat % 2 ^ t : Nat) : Int) * 2 ^ (a % 8) = ((v.toNat % 2 ^ t * 2 ^ (a % 8) : Nat) : Int) := by simp
    have hmod0 : 0 ≤ v % 2 ^ t := by rw [hmod]; omega
    have ht256 : 2 ^ t ≤ 256 := by
      have : 2 ^ t ≤ 2 ^ 8 := Nat.pow_le_pow_right (by decide) (by omega)
      exact this
    have e6 : shl .u8 (Go.bits .and .u64 v (2 ^ t - 1) % 256) ((a % 8 : Nat) : Int) = v % 2 ^ t * 2 ^ (a % 8) := by
      rw [u64_mask hv0 hv1 (by omega), show v % 2 ^ t % 256 = v % 2 ^ t by rw [hmod]; omega, shl8 hmod0 rfl (by omega) (by rw [hmod, hprod]; omega)]
    have e7 : Go.bits .or .u8 (out[a / 8]) (v % 2 ^ t * 2 ^ (a % 8)) = out[a / 8] + v % 2 ^ t * 2 ^ (a % 8) := by
      refine or_low8 hc.1 ?_ hmod0 ?_
      · have : (((out[a / 8]).toNat : Nat) : Int) < 2 ^ (a % 8) := by exact_mod_cast hbyte
        rwa [Int.toNat_of_nonneg hc.1] at this
      · rw [hmod, hprod]; omega
    have hnew : 0 ≤ out[a / 8] + v % 2 ^ t * 2 ^ (a % 8) ∧ out[a / 8] + v % 2 ^ t * 2 ^ (a % 8) < 256 := by rw [hmod, hprod]; omega
    have hpow : 2 ^ (a % 8) * 2 ^ (8 * (a / 8)) = 2 ^ a := by rw [← Nat.pow_add]; congr 1; omega
    have hnat : nat (out.set (a / 8) (out[a / 8] + v % 2 ^ t * 2 ^ (a % 8))) = nat out + v.toNat % 2 ^ t * 2 ^ a := by
      rw [show (out[a / 8] + v % 2 ^ t * 2 ^ (a % 8)).toNat = (out[a / 8]).toNat + v.toNat % 2 ^ t * 2 ^ (a % 8) by rw [hmod, hprod]; omega, Nat.add_mul, Nat.mul_assoc, hpow] at hset
      omega
    have hdivlt : v.toNat / 2 ^ t < 2 ^ (left - t) := by
      rw [Nat.div_lt_iff_lt_mul (Nat.two_pow_pos _), ← Nat.pow_add, show left - t + t = left by omega]; exact hv
    have hpa : 2 ^ (a + t) = 2 ^ t * 2 ^ a := by rw [Nat.add_comm, Nat.pow_add]
    have hmul : (v.toNat % 2 ^ t + 1) * 2 ^ a ≤ 2 ^ t * 2 ^ a := Nat.mul_le_mul_right _ (by omega)
    rw [Nat.add_mul, Nat.one_mul] at hmul
    have hdv : 0 ≤ v / 2 ^ t ∧ v / 2 ^ t ≤ v := ⟨Int.ediv_nonneg hv0 (Int.le_of_lt (Int.pow_pos (by decide))), Int.ediv_le_self _ hv0⟩
    obtain ⟨out', m, r1, r2, r3, r4, r5⟩ := ih (out.set (a / 8) (out[a / 8] + v % 2 ^ t * 2 ^ (a % 8))) (a + t) (left - t) (v / 2 ^ t) (hb.set hnew _) (by rw [hnat]; omega) (by rw [List.length_set]; omega) (by rw [List.length_set]; omega) (by omega) hdv.1 (by omega)
      (by rw [toNat_div2 hv0]; exact hdivlt) (by omega)
    refine ⟨out', m + 1, r1, by rw [r2, List.length_set], ?_, by omega, fun k => ?_⟩
    · rw [r3, hnat, toNat_div2 hv0, hpa]
      have := Nat.div_add_mod v.toNat (2 ^ t)
      have h2 : v.toNat * 2 ^ a = (2 ^ t * (v.toNat / 2 ^ t) + v.toNat % 2 ^ t) * 2 ^ a := by rw [this]
      rw [h2, Nat.add_mul, Nat.mul_comm (2 ^ t) (v.toNat / 2 ^ t), Nat.mul_assoc]
      omega
    · rw [show k + (m + 1) = (k + m) + 1 by omega]
      simp only [bits_Pack.l1]
      rw [if_pos (by omega), ei, if_pos (by omega), if_pos (by omega), e4, e1, u (a % 8) (by omega), u t (by omega), if_pos (by omega), if_pos (by omega), Int.toNat_natCast, rd_nat hi, e5, e6, e7, shr64 rfl (by omega),
        w64 (x := (a : Int) + t) (by omega) (by omega), w64 (x := (left : Int) - t) (by omega) (by omega), show (a : Int) + t = ((a + t : Nat) : Int) by omega, show (left : Int) - t = ((left - t : Nat) : Int) by omega, r5 k, show a + t + (left - t) = a + left by omega]
theorem pack_l0 (w : Nat) (hw : w ≤ 64) (vs : List Int) (hv : U64s vs) (hs : ∀ v ∈ vs, v.toNat < 2 ^ w) (hl : vs.length ≤ 4096) (d : Nat) : ∀ (i : Nat) (out : List Int), i + d = vs.length → Bytes out → out.length = needN w vs.length → nat out < 2 ^ (w * i) →
    ∃ K out', Bytes out' ∧ out'.length = out.length ∧ nat out' = nat out + packN w (vs.drop i) * 2 ^ (w * i) ∧ ∀ k, K ≤ k → bits_Pack.l0 k (w : Int) out ((w * i : Nat) : Int) vs (vs.length : Int) i = some (out', 0) := by
  induction d with
  | zero =>
    intro i out hi hb hlen hn
    refine ⟨1, out, hb, rfl, by rw [List.drop_eq_nil_of_le (by omega)]; simp [packN], fun k hk => ?_⟩
    obtain ⟨k, rfl⟩ : ∃ m, k = m + 1 := ⟨k - 1, by omega⟩
    simp only [bits_Pack.l0]
    rw [if_neg (by omega)]
  | succ d ih =>
    intro i out hi hb hlen hn
    have h1 : i < vs.length := by omega
    have hc := hv _ (List.getElem_mem h1)
    have hcs := hs _ (List.getElem_mem h1)
    have hm := mul_lt64 hw hl
    have hmi : w * i + w ≤ w * vs.length := by
      have : w * (i + 1) ≤ w * vs.length := Nat.mul_le_mul_left _ (by omega)
      rwa [Nat.mul_add, Nat.mul_one] at this
    have hnd : w * vs.length ≤ 8 * needN w vs.length ∧ needN w vs.length ≤ 262144 := by unfold needN; omega
    obtain ⟨out1, m, r1, r2, r3, r4, r5⟩ := pack_l1 (w : Int) vs (vs.length : Int) (i : Int) w out (w * i) w vs[i] hb hn (by omega) (by omega) hw hc.1 hc.2 hcs (Nat.le_refl _)
    have hlt1 : nat out1 < 2 ^ (w * (i + 1)) := by
      rw [r3, Nat.mul_add, Nat.mul_one, Nat.add_comm (w * i) w, Nat.pow_add]
      have : ((vs[i]).toNat + 1) * 2 ^ (w * i) ≤ 2 ^ w * 2 ^ (w * i) := Nat.mul_le_mul_right _ (by omega)
      rw [Nat.add_mul, Nat.one_mul] at this
      omega
    obtain ⟨K, out', q1, q2, q3, q4⟩ := ih (i + 1) out1 (by omega) r1 (by omega) hlt1
    refine ⟨K + m + 1, out', q1, by omega, ?_, fun k hk => ?_⟩
    · rw [q3, r3, show vs.drop i = vs[i] :: vs.drop (i + 1) from drop_cons h1, packN, Nat.add_mul, Nat.mul_add w i 1, Nat.mul_one, Nat.add_comm (w * i) w, Nat.pow_add, Nat.mul_comm (2 ^ w) (packN w (vs.drop (i + 1))), Nat.mul_assoc]
      omega
    · obtain ⟨k, rfl⟩ : ∃ j, k = j + m + 1 := ⟨k - m - 1, by omega⟩
      simp only [bits_Pack.l0]
      rw [if_pos (by omega), if_pos (by omega), if_pos (by omega), rd_nat h1, r5 k, wsucc (by omega), show w * i + w = w * (i + 1) by rw [Nat.mul_add, Nat.mul_one]]
      exact q4 k (by omega)
theorem pack_ev (w : Int) (vs : List Int) (hv : U64s vs) (hl : vs.length ≤ 140737488355328) : ∃ K, ∀ k, K ≤ k → bits_Pack.f k w vs = some (packR w vs) := by
  unfold packR
  by_cases h1 : w < 0 ∨ w > 64
  · refine ⟨0, fun k hk => ?_⟩
    unfold bits_Pack.f
    rw [badw, Option.bind_some, decide_eq_true h1, if_pos rfl, if_pos h1]
  by_cases h2 : vs.length > 4096
  · refine ⟨0, fun k hk => ?_⟩
    unfold bits_Pack.f
    rw [badw, Option.bind_some, decide_eq_false h1, if_neg (by decide), if_pos (by omega), if_neg h1, if_pos h2]
  by_cases h3 : (widthN vs : Int) > w
  · refine ⟨vs.length + 2, fun k hk => ?_⟩
    unfold bits_Pack.f
    rw [badw, Option.bind_some, decide_eq_false h1, if_neg (by decide), if_neg (by omega), width_at vs hv hl k hk, Option.bind_some, if_pos h3, if_neg h1, if_neg h2, if_pos h3]
  obtain ⟨n, rfl⟩ := Int.eq_ofNat_of_zero_le (show 0 ≤ w by omega)
  have hs := widthN_le.1 (show widthN vs ≤ n by omega)
  have hm := mul_lt64 (w := n) (n := vs.length) (by omega) (by omega)
  have hnd : needN n vs.length ≤ 32769 := by unfold needN; omega
  obtain ⟨K, out', q1, q2, q3, q4⟩ := pack_l0 n (by omega) vs hv hs (by omega) vs.length 0 (List.replicate (needN n vs.length) 0) (by omega) (zeros_bytes _) (by simp) (by rw [nat_zeros]; simp)
  refine ⟨K + vs.length + 2, fun k hk => ?_⟩
  unfold bits_Pack.f
  rw [badw, Option.bind_some, decide_eq_false h1, if_neg (by decide), if_neg (by omega), width_at vs hv hl k (by omega), Option.bind_some, if_neg h3, need_at (by omega) (by omega), Option.bind_some, if_pos (by omega), Int.toNat_natCast, if_pos (by omega), if_neg h1, if_neg h2, if_neg h3]
  have := q4 k (by omega)
  simp only [Nat.mul_zero, Int.natCast_zero] at this
  rw [this]
  congr 2
  rw [Int.toNat_natCast]
  refine nat_inj q1 (leb_bytes _ _) (by rw [q2, leb_len, List.length_replicate]) ?_
  rw [q3, nat_zeros, nat_leb _ _ (by have := packR_fit (w := (n : Int)) (vs := vs) (by rwa [Int.toNat_natCast]); rwa [Int.toNat_natCast] at this)]
  simp

theorem unpack_l0 (b : List Int) (hb : Bytes b) (hl : b.length ≤ 140737488355328) (w : Nat) (hw : w ≤ 64) (n : Nat) (hn : n ≤ 4096) (hfit : w * n ≤ 8 * b.length) (d : Nat) : ∀ (k i : Nat), i + d = n → d + 65 < k →
    bits_Unpack.l0 k b (w : Int) ((unpackN (nat b) w n).take i ++ List.replicate (n - i) 0) (n : Int) i = some (unpackN (nat b) w n, 0) := by
  induction d with
  | zero =>
    intro k i hi hk
    obtain ⟨k, rfl⟩ : ∃ m, k = m + 1 := ⟨k - 1, by omega⟩
    simp only [bits_Unpack.l0]
    rw [if_neg (by omega), List.take_of_length_le (by rw [unpackN_len]; omega), show n - i = 0 by omega]; simp
  | succ d ih =>
    intro k i hi hk
    obtain ⟨k, rfl⟩ : ∃ m, k = m + 1 := ⟨k - 1, by omega⟩
    have h1 : i < (unpackN (nat b) w n).length := by rw [unpackN_len]; omega
    have hm := mul_lt64 hw hn
    have hmi : i * w + w ≤ w * n := by
      have : w * (i + 1) ≤ w * n := Nat.mul_le_mul_left _ (by omega)
      rwa [Nat.mul_add, Nat.mul_one, Nat.mul_comm] at this
    have e1 : wrap64 ((i : Int) * (w : Int)) = ((i * w : Nat) : Int) := by
      have : (i : Int) * (w : Int) = ((i * w : Nat) : Int) := by simp
      rw [this, w64 (by omega) (by omega)]
    have hlen : ((unpackN (nat b) w n).take i ++ List.replicate (n - i) (0 : Int)).length = n := by
      rw [List.length_append, List.length_take, unpackN_len, List.length_replicate]; omega
    have hset : ((unpackN (nat b) w n).take i ++ List.replicate (n - i) (0 : Int)).set i ((nat b / 2 ^ (i * w) % 2 ^ w : Nat) : Int) = (unpackN (nat b) w n).take (i + 1) ++ List.replicate (n - (i + 1)) 0 := by
      rw [List.set_append_right _ _ (by rw [List.length_take]; omega), List.length_take, unpackN_len, show i - min i n = 0 by omega, show n - i = (n - (i + 1)) + 1 by omega, List.replicate_succ, List.set_cons_zero, take_succ_snoc h1, unpackN_get (by omega), List.append_assoc]; rfl
    simp only [bits_Unpack.l0]
    rw [if_pos (by omega), e1, read_at b hb hl (i * w) w hw (by omega) k (by omega), Option.bind_some, if_pos (by omega), if_pos (by omega), Int.toNat_natCast, hset, wsucc (by omega)]
    exact ih k (i + 1) (by omega) (by omega)
theorem unpack_at (b : List Int) (hb : Bytes b) (hl : b.length ≤ 140737488355328) (w n : Int) (k : Nat) (hk : 5000 ≤ k) : bits_Unpack.f k b w n = some (unpackR b w n) := by
  obtain ⟨k, rfl⟩ : ∃ m, k = m + 1 + 1 := ⟨k - 2, by omega⟩
  have hj : bits_Unpack.f (k + 1 + 1) b w n = bits_Unpack.j0 (k + 1 + 1) b w n (decide (w < 0 ∨ w > 64 ∨ n < 0 ∨ n > 4096)) := by
    unfold bits_Unpack.f
    rw [badw, Option.bind_some]
    by_cases h1 : w < 0 ∨ w > 64
    · rw [decide_eq_true h1, if_pos rfl, decide_eq_true (by omega)]
    · rw [decide_eq_false h1, if_neg (by decide)]
      by_cases h2 : n < 0
      · rw [if_pos h2, decide_eq_true (by omega)]
      · rw [if_neg h2]
        by_cases h3 : n > 4096
        · rw [decide_eq_true h3, decide_eq_true (by omega)]
        · rw [decide_eq_false h3, decide_eq_false (by omega)]
  rw [hj]
  unfold unpackR
  by_cases h1 : w < 0 ∨ w > 64 ∨ n < 0 ∨ n > 4096
  · simp only [bits_Unpack.j0]
    rw [decide_eq_true h1, if_pos rfl, if_pos h1]
  rw [decide_eq_false h1, if_neg h1]
  obtain ⟨w, rfl⟩ := Int.eq_ofNat_of_zero_le (show 0 ≤ w by omega)
  obtain ⟨n, rfl⟩ := Int.eq_ofNat_of_zero_le (show 0 ≤ n by omega)
  have hw : w ≤ 64 := by omega
  have hn : n ≤ 4096 := by omega
  have hm := mul_lt64 hw hn
  have hnd : w * n ≤ 8 * needN w n ∧ 8 * needN w n < w * n + 8 := by unfold needN; omega
  have e : (w : Int) * (n : Int) = ((w * n : Nat) : Int) := by simp
  simp only [bits_Unpack.j0]
  rw [if_neg (by decide), need_at hw hn, Option.bind_some, Int.toNat_natCast, Int.toNat_natCast]
  by_cases h2 : b.length < needN w n
  · rw [if_pos (by omega), if_pos h2]
  rw [if_neg (by omega), if_neg h2, Option.bind_some]
  by_cases h3 : b.length > needN w n
  · rw [if_pos (by omega), if_pos h3]
  rw [if_neg (by omega), if_neg h3]
  have hlen : b.length = needN w n := by omega
  have hN := nat_lt hb
  have last : ∀ z : Bool, z = decide (nat b / 2 ^ (w * n) ≠ 0) → bits_Unpack.j1 (k + 1) b (w : Int) (n : Int) z = some (if nat b / 2 ^ (w * n) ≠ 0 then ([], 5) else (unpackN (nat b) w n, 0)) := by
    intro z hz
    subst hz
    simp only [bits_Unpack.j1]
    by_cases h4 : nat b / 2 ^ (w * n) ≠ 0
    · rw [decide_eq_true h4, if_pos rfl, if_pos h4]
    · rw [decide_eq_false h4, if_neg (by decide), if_pos (by omega), Int.toNat_natCast, if_pos (by omega), if_neg h4]
      have := unpack_l0 b hb hl w hw n hn (by omega) n k 0 (by omega) (by omega)
      simpa using this
  rw [e, w64 (x := ((w * n : Nat) : Int)) (by omega) (by omega), w64 (x := (b.length : Int) * 8) (by omega) (by omega), w64 (x := (b.length : Int) * 8 - ((w * n : Nat) : Int)) (by omega) (by omega)]
  by_cases h5 : (b.length : Int) * 8 - ((w * n : Nat) : Int) > 0
  · rw [if_pos h5, w64 (x := (b.length : Int) - 1) (by omega) (by omega), if_pos (by omega), if_pos (by omega), w64 (x := 8 - ((b.length : Int) * 8 - ((w * n : Nat) : Int))) (by omega) (by omega), u64w (by omega) (by omega), if_pos (by omega)]
    refine last _ ?_
    have hi : (w * n) / 8 < b.length := by omega
    have hc := hb _ (List.getElem_mem hi)
    have e1 : (b.length : Int) - 1 = (((w * n) / 8 : Nat) : Int) := by omega
    have e2 : 8 - ((b.length : Int) * 8 - ((w * n : Nat) : Int)) = ((w * n % 8 : Nat) : Int) := by omega
    have hch := nat_chunk hb (w * n) (8 - w * n % 8) hi (by omega)
    have hlt : nat b / 2 ^ (w * n) < 2 ^ (8 - w * n % 8) := by
      rw [Nat.div_lt_iff_lt_mul (Nat.two_pow_pos _), ← Nat.pow_add, show 8 - w * n % 8 + w * n = 8 * b.length by omega]; exact hN
    have hlt2 : (b[(w * n) / 8]).toNat / 2 ^ (w * n % 8) < 2 ^ (8 - w * n % 8) := by
      rw [Nat.div_lt_iff_lt_mul (Nat.two_pow_pos _), ← Nat.pow_add, show 8 - w * n % 8 + w * n % 8 = 8 by omega]; omega
    rw [Nat.mod_eq_of_lt hlt, Nat.mod_eq_of_lt hlt2] at hch
    rw [e1, e2, rd_nat hi, shr8 rfl (by omega), hch]
    have := toNat_div2 hc.1 (w * n % 8)
    have h0 : 0 ≤ b[(w * n) / 8] / 2 ^ (w * n % 8) := Int.ediv_nonneg hc.1 (Int.le_of_lt (Int.pow_pos (by decide)))
    rw [← this]
    by_cases hz : b[(w * n) / 8] / 2 ^ (w * n % 8) = 0
    · simp [hz]
    · have : (b[(w * n) / 8] / 2 ^ (w * n % 8)).toNat ≠ 0 := by omega
      rw [decide_eq_true this]; simpa using hz
  · rw [if_neg h5]
    refine last _ ?_
    have hle : 8 * b.length = w * n := by omega
    rw [Nat.div_eq_of_lt (by rw [← hle]; exact hN)]; rfl

theorem get_l0 (b : List Int) (hb : Bytes b) (hl : b.length ≤ 140737488355328) (at_ : Nat) (ha : at_ ≤ b.length) (d : Nat) : ∀ (k i : Nat) (u : Int), i + d = 10 → 2 * d ≤ k → 1 ≤ d → at_ + i ≤ b.length → 0 ≤ u → u < 2 ^ (7 * i) →
    vint_Get.l0 k b (at_ : Int) u (i : Int) = some (match getL (b.drop (at_ + i)) i with | .ok (v, n) => (u + v * 2 ^ (7 * i), (at_ : Int) + i + n, 0) | .error e => (0, 0, e)) := by
  induction d with
  | zero => intro k i u hi hk h1; omega
  | succ d ih =>
    intro k i u hi hk _ hle hu0 hu1
    obtain ⟨k, rfl⟩ : ∃ m, k = m + 1 + 1 := ⟨k - 2, by omega⟩
    simp only [vint_Get.l0]
    rw [w64 (x := (b.length : Int) - at_) (by omega) (by omega)]
    by_cases hend : at_ + i = b.length
    · rw [if_pos (by omega), List.drop_eq_nil_of_le (by omega)]; simp [getL]
    have hlt : at_ + i < b.length := by omega
    have e1 : wrap64 ((at_ : Int) + (i : Int)) = ((at_ + i : Nat) : Int) := by rw [w64 (by omega) (by omega)]; omega
    have hc := hb _ (List.getElem_mem hlt)
    rw [if_neg (by omega), e1, if_pos (by omega), if_pos (by omega), rd_nat hlt, drop_cons hlt, getL]
    generalize hcc : b[at_ + i] = c at hc ⊢
    have e2 : wrap64 (7 * (i : Int)) = ((7 * i : Nat) : Int) := by rw [w64 (by omega) (by omega)]; omega
    have e3 : IntKind.u64.wrap ((7 * i : Nat) : Int) = ((7 * i : Nat) : Int) := u64w (by omega) (by omega)
    have e4 : IntKind.u64.wrap (c % 128) = c % 128 := u64w (by omega) (by omega)
    have key : ∀ (h9 : ¬ (i = 9 ∧ c > 1)), vint_Get.j2 (k + 1) b (at_ : Int) u (i : Int) c false = some (match (if i = 9 ∧ c > 1 then .error 20 else if c ≥ 128 then (match getL (b.drop (at_ + i + 1)) (i + 1) with | .ok (v, n) => .ok (c - 128 + 128 * v, n + 1) | .error e => .error e)
        else if c = 0 ∧ i > 0 then .error 5 else .ok (c, 1) : Except Int (Int × Nat)) with | .ok (v, n) => (u + v * 2 ^ (7 * i), (at_ : Int) + i + n, 0) | .error e => (0, 0, e)) := by
      intro h9
      have hm : c % 128 < 2 ^ (64 - 7 * i) := by
        by_cases hi9 : i = 9
        · subst hi9; have : ¬ c > 1 := fun h => h9 ⟨rfl, h⟩; simp; omega
        · have : (2 : Int) ^ 8 ≤ 2 ^ (64 - 7 * i) := ipow_le (by decide) (by omega)
          omega
      have hpos : (0 : Int) < 2 ^ (7 * i) := Int.pow_pos (by decide)
      have e64 : (2 : Int) ^ 64 = 2 ^ (64 - 7 * i) * 2 ^ (7 * i) := by rw [← Int.pow_add]; congr 1; omega
      have hmul : c % 128 * 2 ^ (7 * i) ≤ (2 ^ (64 - 7 * i) - 1) * 2 ^ (7 * i) := Int.mul_le_mul_of_nonneg_right (by omega) (Int.le_of_lt hpos)
      have hfit : u + c % 128 * 2 ^ (7 * i) < 2 ^ 64 := by
        rw [e64]; rw [Int.sub_mul] at hmul; omega
      have e5 : Go.bits .or .u64 u (shl .u64 (IntKind.u64.wrap (Go.bits .and .u8 c 127)) (IntKind.u64.wrap (wrap64 (7 * (i : Int))))) = u + c % 128 * 2 ^ (7 * i) := by
        rw [and127 hc.1 hc.2, e4, e2, e3, shl64 (by omega) rfl (by omega) (by omega), or_low hu0 hu1 (by omega) hfit]
      simp only [vint_Get.j2, Bool.false_eq_true, if_false]
      rw [e5, e2, e3, if_pos (by omega), if_neg h9]
      by_cases h128 : c ≥ 128
      · have hi9 : i ≠ 9 := fun h => h9 ⟨h, by omega⟩
        have hlt2 : u + c % 128 * 2 ^ (7 * i) < 2 ^ (7 * (i + 1)) := by
          have e : (2 : Int) ^ (7 * (i + 1)) = 128 * 2 ^ (7 * i) := by rw [Nat.mul_add, Int.pow_add, Int.mul_comm]; rfl
          have : c % 128 * 2 ^ (7 * i) ≤ 127 * 2 ^ (7 * i) := Int.mul_le_mul_of_nonneg_right (by omega) (Int.le_of_lt hpos)
          omega
        have hge : 0 ≤ c % 128 * 2 ^ (7 * i) := Int.mul_nonneg (by omega) (Int.le_of_lt hpos)
        rw [if_pos h128, if_pos h128, wsucc (by omega), ih k (i + 1) _ (by omega) (by omega) (by omega) (by omega) (by omega) hlt2, show at_ + (i + 1) = at_ + i + 1 by omega]
        cases getL (b.drop (at_ + i + 1)) (i + 1) with
        | error e => rfl
        | ok p =>
          obtain ⟨v, n⟩ := p
          simp only [Option.some.injEq, Prod.mk.injEq, and_true]
          constructor
          · have e : (2 : Int) ^ (7 * (i + 1)) = 128 * 2 ^ (7 * i) := by rw [Nat.mul_add, Int.pow_add, Int.mul_comm]; rfl
            rw [e, show c % 128 = c - 128 by omega, Int.add_mul, Int.add_assoc]
            congr 2
            rw [← Int.mul_assoc, Int.mul_comm v 128]
          · omega
      · rw [if_neg h128, if_neg h128]
        have e6 : wrap64 (((at_ + i : Nat) : Int) + 1) = (at_ : Int) + i + (1 : Nat) := by rw [w64 (by omega) (by omega)]; omega
        by_cases h0 : c = 0
        · rw [if_pos h0]
          by_cases hi0 : (i : Int) > 0
          · rw [if_pos hi0, if_pos ⟨h0, by omega⟩]
          · rw [if_neg hi0, if_neg (by omega), e1, e6, show c % 128 = c by omega]
        · rw [if_neg h0, if_neg (by omega), e1, e6, show c % 128 = c by omega]
    by_cases hi9 : i = 9
    · rw [if_pos (by omega)]
      by_cases hc1 : c > 1
      · simp only [vint_Get.j2, decide_eq_true hc1, if_true]
        rw [if_pos ⟨hi9, hc1⟩]
      · rw [decide_eq_false hc1]
        exact key (fun h => hc1 h.2)
    · rw [if_neg (by omega)]
      exact key (fun h => hi9 h.1)
theorem get_at (b : List Int) (hb : Bytes b) (hl : b.length ≤ 140737488355328) (at_ : Int) (k : Nat) (hk : 22 ≤ k) : vint_Get.f k b at_ = some (getR b at_) := by
  obtain ⟨k, rfl⟩ : ∃ m, k = m + 1 := ⟨k - 1, by omega⟩
  unfold vint_Get.f getR
  by_cases h0 : at_ < 0
  · rw [if_pos h0, if_pos (Or.inl h0)]; simp [vint_Get.j0]
  rw [if_neg h0]
  by_cases h1 : at_ > b.length
  · rw [if_pos (Or.inr h1)]; simp [vint_Get.j0, h1]
  rw [if_neg (by omega)]
  simp only [vint_Get.j0, h1, decide_false, Bool.false_eq_true, if_false]
  obtain ⟨a, rfl⟩ := Int.eq_ofNat_of_zero_le (Int.not_lt.1 h0)
  have := get_l0 b hb hl a (by omega) 10 k 0 0 rfl (by omega) (by decide) (by omega) (by decide) (by decide)
  simp only [Int.natCast_zero] at this
  rw [this]
  simp only [Nat.add_zero, Int.toNat_natCast, Nat.mul_zero, Int.pow_zero, Int.mul_one, Int.zero_add, Int.add_zero]

/-! ### m_xor: xor as arithmetic -/
theorem nat_xor_top {x : Nat} (j : Nat) (h : x < 2 ^ j) : x ^^^ 2 ^ j = x + 2 ^ j := by
  apply Nat.eq_of_testBit_eq
  intro i
  rw [Nat.testBit_xor, Nat.testBit_two_pow]
  rcases Nat.lt_trichotomy i j with hi | hi | hi
  · rw [Nat.add_comm, Nat.testBit_two_pow_add_gt hi, decide_eq_false (by omega)]; simp
  · subst hi
    rw [Nat.add_comm, Nat.testBit_two_pow_add_eq]; simp
  · have h1 : x + 2 ^ j < 2 ^ i := by
      have : 2 ^ (j + 1) ≤ 2 ^ i := Nat.pow_le_pow_right (by decide) hi
      rw [Nat.pow_succ] at this; omega
    rw [Nat.testBit_lt_two_pow h1, Nat.testBit_lt_two_pow (show x < 2 ^ i by omega), decide_eq_false (by omega)]; rfl
theorem nat_xor_top' {x : Nat} (j : Nat) (h : x < 2 ^ j) : (x + 2 ^ j) ^^^ 2 ^ j = x := by
  rw [← nat_xor_top j h, Nat.xor_assoc, Nat.xor_self, Nat.xor_zero]
theorem xor_u64_nat (a b : Nat) (ha : a < 2 ^ 64) (hb : b < 2 ^ 64) : Go.bits .xor .u64 (a : Int) (b : Int) = ((a ^^^ b : Nat) : Int) := by
  have hx := Nat.xor_lt_two_pow ha hb
  rw [show Go.bits .xor .u64 (a : Int) (b : Int) = IntKind.u64.wrap ((BitVec.ofInt 64 (a : Int) ^^^ BitVec.ofInt 64 (b : Int)).toNat : Int) from rfl, BitVec.ofInt_natCast, BitVec.ofInt_natCast, BitVec.toNat_xor, BitVec.toNat_ofNat, BitVec.toNat_ofNat, Nat.mod_eq_of_lt ha, Nat.mod_eq_of_lt hb]
  exact wraps_u64 _ (Int.natCast_nonneg _) (by exact_mod_cast hx)
theorem xor_zero {x : Int} (h0 : 0 ≤ x) (h1 : x < 18446744073709551616) : Go.bits .xor .u64 x 0 = x := by
  obtain ⟨a, rfl⟩ := Int.eq_ofNat_of_zero_le h0
  have := xor_u64_nat a 0 (by omega) (by decide)
  simpa using this
theorem xor_all {x : Int} (h0 : 0 ≤ x) (h1 : x < 18446744073709551616) : Go.bits .xor .u64 x 18446744073709551615 = 18446744073709551615 - x := by
  obtain ⟨a, rfl⟩ := Int.eq_ofNat_of_zero_le h0
  have e : BitVec.ofInt 64 18446744073709551615 = BitVec.allOnes 64 := by decide
  rw [show Go.bits .xor .u64 (a : Int) 18446744073709551615 = IntKind.u64.wrap ((BitVec.ofInt 64 (a : Int) ^^^ BitVec.ofInt 64 18446744073709551615).toNat : Int) from rfl, e, BitVec.ofInt_natCast, BitVec.xor_allOnes, BitVec.toNat_not, BitVec.toNat_ofNat,
    Nat.mod_eq_of_lt (show a < 2 ^ 64 by omega), wraps_u64 _ (by omega) (by omega)]; omega
theorem xor_top {x : Int} (h0 : 0 ≤ x) (h1 : x < 18446744073709551616) : Go.bits .xor .u64 x 9223372036854775808 = if x < 9223372036854775808 then x + 9223372036854775808 else x - 9223372036854775808 := by
  obtain ⟨a, rfl⟩ := Int.eq_ofNat_of_zero_le h0
  have h := xor_u64_nat a (2 ^ 63) (by omega) (by decide)
  rw [show ((2 ^ 63 : Nat) : Int) = 9223372036854775808 from rfl] at h
  rw [h]
  by_cases hc : a < 2 ^ 63
  · rw [nat_xor_top 63 hc, if_pos (by omega)]; omega
  · have := nat_xor_top' (x := a - 2 ^ 63) 63 (by omega)
    rw [show a - 2 ^ 63 + 2 ^ 63 = a by omega] at this
    rw [this, if_neg (by omega)]; omega
theorem i64_wrap_nat {n : Nat} (h : n < 2 ^ 64) : IntKind.i64.wrap (n : Int) = if n < 2 ^ 63 then (n : Int) else (n : Int) - 18446744073709551616 := by
  rw [Go.IntKind.wrap_i64]; split <;> omega
theorem xor_i64_zero {x : Int} (h0 : 0 ≤ x) (h1 : x < 9223372036854775808) : Go.bits .xor .i64 x 0 = x := by
  obtain ⟨a, rfl⟩ := Int.eq_ofNat_of_zero_le h0
  have e : BitVec.ofInt 64 0 = 0#64 := by decide
  rw [show Go.bits .xor .i64 (a : Int) 0 = IntKind.i64.wrap ((BitVec.ofInt 64 (a : Int) ^^^ BitVec.ofInt 64 0).toNat : Int) from rfl, e, BitVec.ofInt_natCast, BitVec.xor_zero, BitVec.toNat_ofNat, Nat.mod_eq_of_lt (show a < 2 ^ 64 by omega), i64_wrap_nat (by omega), if_pos (by omega)]
theorem xor_i64_all {x : Int} (h0 : 0 ≤ x) (h1 : x < 9223372036854775808) : Go.bits .xor .i64 x (-1) = -1 - x := by
  obtain ⟨a, rfl⟩ := Int.eq_ofNat_of_zero_le h0
  have e : BitVec.ofInt 64 (-1) = BitVec.allOnes 64 := by decide
  rw [show Go.bits .xor .i64 (a : Int) (-1) = IntKind.i64.wrap ((BitVec.ofInt 64 (a : Int) ^^^ BitVec.ofInt 64 (-1)).toNat : Int) from rfl, e, BitVec.ofInt_natCast, BitVec.xor_allOnes, BitVec.toNat_not, BitVec.toNat_ofNat, Nat.mod_eq_of_lt (show a < 2 ^ 64 by omega), i64_wrap_nat (by omega), if_neg (by omega)]; omega

theorem fold_at {v : Int} (h0 : -9223372036854775808 ≤ v) (h1 : v < 9223372036854775808) : bits_Fold.f v = some (foldI v) := by
  unfold bits_Fold.f foldI
  congr 1
  by_cases h : 0 ≤ v
  · rw [if_pos h, show v / 9223372036854775808 = 0 by omega, show IntKind.u64.wrap (wrap64 (v * 2)) = v * 2 by rw [u64r]; unfold wrap64; omega, show IntKind.u64.wrap 0 = 0 by rw [u64r]; rfl, xor_zero (by omega) (by omega)]; omega
  · rw [if_neg h, show v / 9223372036854775808 = -1 by omega, show IntKind.u64.wrap (wrap64 (v * 2)) = v * 2 + 18446744073709551616 by rw [u64r]; unfold wrap64; omega, show IntKind.u64.wrap (-1) = 18446744073709551615 by rw [u64r]; rfl, xor_all (by omega) (by omega)]; omega
theorem unfold_at {u : Int} (h0 : 0 ≤ u) (h1 : u < 18446744073709551616) : bits_Unfold.f u = some (unfoldI u) := by
  unfold bits_Unfold.f unfoldI
  congr 1
  have e : Go.bits .and .u64 u 1 = u % 2 := by
    have := u64_mask h0 h1 (i := 1) (by decide); simpa using this
  rw [e, w64 (x := u / 2) (by omega) (by omega), w64 (x := u % 2) (by omega) (by omega)]
  by_cases h : u % 2 = 0
  · rw [if_pos h, h, show wrap64 (-0) = 0 by unfold wrap64; omega, xor_i64_zero (by omega) (by omega)]
  · rw [if_neg h, show u % 2 = 1 by omega, show wrap64 (-1) = -1 by unfold wrap64; omega, xor_i64_all (by omega) (by omega)]; omega

theorem or128 {x : Int} (h0 : 0 ≤ x) (h1 : x < 256) : Go.bits .or .u8 x 128 = x % 128 + 128 := by
  have : ∀ n : Fin 256, Go.bits .or .u8 ((n.val : Nat) : Int) 128 = ((n.val : Nat) : Int) % 128 + 128 := by decide +kernel
  have h := this ⟨x.toNat, by omega⟩
  simp only at h
  rwa [Int.toNat_of_nonneg h0] at h
theorem put_l0 (n : Nat) : ∀ (u k : Nat) (acc : List Int), u < n → acc.length + (putL u).length ≤ 140737488355328 → (putL u).length ≤ k →
    vint_Put.l0 k (u : Int) acc = some (acc ++ putL u) := by
  induction n with
  | zero => intro u k acc h; omega
  | succ n ih =>
    intro u k acc h hl hk
    have hp := putL_pos u
    obtain ⟨k, rfl⟩ : ∃ m, k = m + 1 := ⟨k - 1, by omega⟩
    simp only [vint_Put.l0]
    by_cases hs : u < 128
    · rw [if_neg (by omega), if_pos (by omega), putL_small hs, show (u : Int) % 256 = u by omega]
    · rw [putL_big hs, List.length_cons] at hl hk
      have hp := putL_pos (u / 128)
      rw [if_pos (by omega), if_pos (by omega), or128 (by omega) (by omega), show (u : Int) / 128 = ((u / 128 : Nat) : Int) by omega,
        ih (u / 128) k _ (by omega) (by rw [List.length_append, List.length_singleton]; omega) (by omega), putL_big hs, List.append_assoc]
      congr 3
      simp only [List.singleton_append, List.cons.injEq, and_true]
      omega
theorem put_at {u : Int} (h0 : 0 ≤ u) (h1 : u < 18446744073709551616) (k : Nat) (hk : 10 ≤ k) : vint_Put.f k u = some (putL u.toNat) := by
  have hl := putL_len10 (u := u.toNat) (by omega)
  have := put_l0 (u.toNat + 1) u.toNat k [] (by omega) (by simp only [List.length_nil]; omega) (by omega)
  rw [Int.toNat_of_nonneg h0] at this
  simpa [vint_Put.f] using this

theorem min_l0 (vs : List Int) (hl : vs.length ≤ 17592186044416) (d : Nat) : ∀ (k i : Nat) (a : Int), i + d = vs.length → d < k → slices_Min_int64_int64.l0 k vs a i = some ((vs.drop i).foldl min a) := by
  induction d with
  | zero =>
    intro k i a hi hk
    obtain ⟨k, rfl⟩ : ∃ m, k = m + 1 := ⟨k - 1, by omega⟩
    simp only [slices_Min_int64_int64.l0]
    rw [if_neg (by omega), List.drop_eq_nil_of_le (by omega)]; rfl
  | succ d ih =>
    intro k i a hi hk
    obtain ⟨k, rfl⟩ : ∃ m, k = m + 1 := ⟨k - 1, by omega⟩
    have h1 : i < vs.length := by omega
    simp only [slices_Min_int64_int64.l0]
    rw [if_pos (by omega), if_pos (by omega), rd_nat h1, wsucc (by omega), ih k (i + 1) _ (by omega) (by omega), show vs.drop i = vs[i] :: vs.drop (i + 1) from drop_cons h1, List.foldl_cons, mn_min]
theorem min_at {vs : List Int} (h : vs ≠ []) (hl : vs.length ≤ 17592186044416) (k : Nat) (hk : vs.length + 1 ≤ k) : slices_Min_int64_int64.f k vs = some (minL vs) := by
  have hp : 0 < vs.length := List.length_pos_iff.2 h
  unfold slices_Min_int64_int64.f
  rw [if_neg (by omega), if_pos (by omega)]
  have := min_l0 vs hl (vs.length - 1) k 1 (rd vs 0) (by omega) (by omega)
  rw [show ((1 : Nat) : Int) = 1 from rfl] at this
  rw [this]
  cases vs with
  | nil => exact absurd rfl h
  | cons v r => rfl
theorem enc_l0 (vs : List Int) (hv : I64s vs) (hne : vs ≠ []) (hl : vs.length ≤ 4096) (out : List Int) (ho : out.length ≤ 10) (d : Nat) : ∀ (i : Nat), i + d = vs.length → ∃ K, ∀ k, K ≤ k →
    packed_Encode.l0 k out (minL vs) (farL (minL vs) (vs.take i) ++ List.replicate (vs.length - i) 0) vs (vs.length : Int) i =
      some (out ++ putL (foldI (minL vs)).toNat ++ [(widthN (farL (minL vs) vs) : Int)] ++ (packR (widthN (farL (minL vs) vs)) (farL (minL vs) vs)).1, 0) := by
  obtain ⟨m1, m2⟩ := minL_spec hne
  have hm := hv _ m1
  have hu := farL_u64 hv hne
  have hfl := farL_len (minL vs) vs
  induction d with
  | zero =>
    intro i hi
    obtain ⟨K, h⟩ := pack_ev (widthN (farL (minL vs) vs)) (farL (minL vs) vs) hu (by omega)
    obtain ⟨p1, p2, p3⟩ := packR_own hu (by omega)
    have hw := widthN_64 hu
    have hf : 0 ≤ foldI (minL vs) ∧ foldI (minL vs) < 18446744073709551616 := by unfold foldI; split <;> omega
    have hp := putL_len10 (u := (foldI (minL vs)).toNat) (by omega)
    refine ⟨K + 5000, fun k hk => ?_⟩
    obtain ⟨k, rfl⟩ : ∃ m, k = m + 1 := ⟨k - 1, by omega⟩
    simp only [packed_Encode.l0]
    rw [if_neg (by omega), List.take_of_length_le (by omega), show vs.length - i = 0 by omega, List.replicate_zero, List.append_nil, width_at _ hu (by omega) _ (by omega), Option.bind_some, h _ (by omega), Option.bind_some, fold_at hm.1 hm.2, Option.bind_some,
      put_at hf.1 hf.2 _ (by omega), Option.bind_some, if_pos (by omega), Option.bind_some, if_pos (by rw [List.length_append]; omega), Option.bind_some, if_pos (by simp only [List.length_append, List.length_singleton]; omega), p1, show ((widthN (farL (minL vs) vs) : Int)) % 256 = (widthN (farL (minL vs) vs) : Int) by omega]
  | succ d ih =>
    intro i hi
    obtain ⟨K, h⟩ := ih (i + 1) (by omega)
    refine ⟨K + 1, fun k hk => ?_⟩
    obtain ⟨k, rfl⟩ : ∃ m, k = m + 1 := ⟨k - 1, by omega⟩
    have h1 : i < vs.length := by omega
    have hx := hv _ (List.getElem_mem h1)
    have hmx := m2 _ (List.getElem_mem h1)
    have hlen : (farL (minL vs) (vs.take i)).length = i := by rw [farL_len, List.length_take]; omega
    simp only [packed_Encode.l0]
    rw [if_pos (by omega), if_pos (by omega), if_pos (by omega), if_pos (by rw [List.length_append, hlen, List.length_replicate]; omega), rd_nat h1, far_wrap hx hm hmx, wsucc (by omega), Int.toNat_natCast]
    have hs : (farL (minL vs) (vs.take i) ++ List.replicate (vs.length - i) 0).set i (vs[i] - minL vs) = farL (minL vs) (vs.take (i + 1)) ++ List.replicate (vs.length - (i + 1)) 0 := by
      rw [List.set_append_right _ _ (by omega), hlen, Nat.sub_self, show vs.length - i = (vs.length - (i + 1)) + 1 by omega, List.replicate_succ, List.set_cons_zero]
      have e : farL (minL vs) (vs.take (i + 1)) = farL (minL vs) (vs.take i) ++ [vs[i] - minL vs] := by rw [List.take_succ_eq_append_getElem h1]; unfold farL; rw [List.map_append]; rfl
      rw [e, List.append_assoc]; rfl
    rw [hs]
    exact h k (by omega)
theorem enc_ev (vs : List Int) (hv : I64s vs) (hl : vs.length ≤ 17592186044416) : ∃ K, ∀ k, K ≤ k → packed_Encode.f k vs = some (encP vs) := by
  by_cases h1 : vs.length > 4096
  · refine ⟨0, fun k _ => ?_⟩
    unfold packed_Encode.f encP
    rw [if_pos (by omega), if_pos h1]
  by_cases h2 : vs = []
  · refine ⟨20, fun k hk => ?_⟩
    unfold packed_Encode.f encP
    rw [if_neg (by omega), if_neg h1, u64w (by omega) (by omega), put_at (by omega) (by omega) _ (by omega), Option.bind_some, if_pos (by rw [h2]; rfl), if_pos h2]
    rw [h2]; rfl
  · have hp : 0 < vs.length := List.length_pos_iff.2 h2
    have hl10 := putL_len10 (u := vs.length) (by omega)
    obtain ⟨K, h⟩ := enc_l0 vs hv h2 (by omega) (putL vs.length) hl10 vs.length 0 (by omega)
    refine ⟨K + vs.length + 40, fun k hk => ?_⟩
    unfold packed_Encode.f encP
    rw [if_neg (by omega), if_neg h1, if_neg h2, u64w (by omega) (by omega), put_at (by omega) (by omega) _ (by omega), Option.bind_some, if_neg (by omega), min_at h2 hl _ (by omega), Option.bind_some, if_pos (by omega), if_pos (by omega), Int.toNat_natCast]
    have := h k (by omega)
    simpa [farL] using this

theorem max_l0 (vs : List Int) (hl : vs.length ≤ 17592186044416) (d : Nat) : ∀ (k i : Nat) (a : Int), i + d = vs.length → d < k → slices_Max_int64_int64.l0 k vs a i = some ((vs.drop i).foldl max a) := by
  induction d with
  | zero =>
    intro k i a hi hk
    obtain ⟨k, rfl⟩ : ∃ m, k = m + 1 := ⟨k - 1, by omega⟩
    simp only [slices_Max_int64_int64.l0]
    rw [if_neg (by omega), List.drop_eq_nil_of_le (by omega)]; rfl
  | succ d ih =>
    intro k i a hi hk
    obtain ⟨k, rfl⟩ : ∃ m, k = m + 1 := ⟨k - 1, by omega⟩
    have h1 : i < vs.length := by omega
    simp only [slices_Max_int64_int64.l0]
    rw [if_pos (by omega), if_pos (by omega), rd_nat h1, wsucc (by omega), ih k (i + 1) _ (by omega) (by omega), show vs.drop i = vs[i] :: vs.drop (i + 1) from drop_cons h1, List.foldl_cons, mx_max]
theorem max_at {vs : List Int} (h : vs ≠ []) (hl : vs.length ≤ 17592186044416) (k : Nat) (hk : vs.length + 1 ≤ k) : slices_Max_int64_int64.f k vs = some (maxL vs) := by
  have hp : 0 < vs.length := List.length_pos_iff.2 h
  unfold slices_Max_int64_int64.f
  rw [if_neg (by omega), if_pos (by omega)]
  have := max_l0 vs hl (vs.length - 1) k 1 (rd vs 0) (by omega) (by omega)
  rw [show ((1 : Nat) : Int) = 1 from rfl] at this
  rw [this]
  cases vs with
  | nil => exact absurd rfl h
  | cons v r => rfl
theorem index_l0 (vs : List Int) (hl : vs.length ≤ 17592186044416) (x : Int) (d : Nat) : ∀ (k i : Nat), i + d = vs.length → d < k →
    ∃ j, slices_Index_uint64_uint64.l0 k vs x vs.length i = some j ∧ (0 ≤ j ↔ x ∈ vs.drop i) := by
  induction d with
  | zero =>
    intro k i hi hk
    obtain ⟨k, rfl⟩ : ∃ m, k = m + 1 := ⟨k - 1, by omega⟩
    refine ⟨-1, ?_, ?_⟩
    · simp only [slices_Index_uint64_uint64.l0]
      rw [if_neg (by omega)]
    · rw [List.drop_eq_nil_of_le (by omega)]; simp
  | succ d ih =>
    intro k i hi hk
    obtain ⟨k, rfl⟩ : ∃ m, k = m + 1 := ⟨k - 1, by omega⟩
    have h1 : i < vs.length := by omega
    obtain ⟨j, e, q⟩ := ih k (i + 1) (by omega) (by omega)
    by_cases c : x = vs[i]
    · refine ⟨i, ?_, ?_⟩
      · simp only [slices_Index_uint64_uint64.l0]
        rw [if_pos (by omega), if_pos (by omega), if_pos (by omega), rd_nat h1, if_pos c]
      · exact iff_of_true (by omega) (by rw [drop_cons h1, ← c]; exact List.mem_cons_self)
    · refine ⟨j, ?_, ?_⟩
      · simp only [slices_Index_uint64_uint64.l0]
        rw [if_pos (by omega), if_pos (by omega), if_pos (by omega), rd_nat h1, if_neg c, wsucc (by omega), e]
      · rw [drop_cons h1, List.mem_cons, q]; simp [c]
theorem contains_at (vs : List Int) (hl : vs.length ≤ 17592186044416) (x : Int) (k : Nat) (hk : vs.length + 1 ≤ k) : slices_Contains_uint64_uint64.f k vs x = some (decide (x ∈ vs)) := by
  obtain ⟨j, e, q⟩ := index_l0 vs hl x vs.length k 0 (by omega) (by omega)
  unfold slices_Contains_uint64_uint64.f slices_Index_uint64_uint64.f
  rw [show ((0 : Nat) : Int) = 0 from rfl] at e
  rw [e, Option.bind_some]
  simp only [List.drop_zero] at q
  simp only [ge_iff_le, q]
def distP (c : List Int) (n : Int) : List Int × Int :=
  match c with
  | [] => ([], 2)
  | w :: r => if w > 64 then ([], 5) else if (unpackR r w n).2 ≠ 0 then ([], (unpackR r w n).2) else if (widthN (unpackR r w n).1 : Int) ≠ w then ([], 5) else if 0 ∈ (unpackR r w n).1 then ((unpackR r w n).1, 0) else ([], 5)
theorem dist_at (c : List Int) (hb : Bytes c) (hl : c.length ≤ 140737488355328) (n : Int) (k : Nat) (hk : 5000 ≤ k) : packed_distances.f k c n = some (distP c n) := by
  unfold packed_distances.f
  cases c with
  | nil => rw [if_pos (by simp)]; rfl
  | cons w r =>
    have hw := hb w List.mem_cons_self
    have hr : Bytes r := fun x hx => hb x (List.mem_cons_of_mem _ hx)
    have hrd : rd (w :: r) 0 = w := rfl
    simp only [distP]
    rw [if_neg (by rw [List.length_cons]; omega), if_pos (by rw [List.length_cons]; omega), hrd]
    by_cases c1 : w > 64
    · rw [if_pos c1, if_pos c1]
    · rw [if_neg c1, if_neg c1, if_pos (by rw [List.length_cons]; omega), List.drop_one, List.tail_cons, w64 (by omega) (by omega), unpack_at r hr (by rw [List.length_cons] at hl; omega) w n k hk, Option.bind_some]
      by_cases c2 : (unpackR r w n).2 = 0
      · obtain ⟨u1, u2, u3⟩ := unpack_len c2
        rw [if_pos c2, if_neg (nne c2), width_at _ u3 (by omega) k (by omega), Option.bind_some]
        by_cases c3 : (widthN (unpackR r w n).1 : Int) = w
        · rw [if_pos c3, if_neg (nne c3), contains_at _ (by omega) 0 k (by omega), Option.bind_some]
          by_cases c4 : 0 ∈ (unpackR r w n).1
          · rw [if_pos (decide_eq_true c4), if_pos c4, c2]
          · rw [if_neg (by simpa using c4), if_neg c4]
        · rw [if_neg c3, if_pos c3]
      · rw [if_neg c2, if_pos c2, unpackR_bad c2]
theorem dec_l0 (l : Int) (hi64 : I64 l) (far : List Int) (hu : U64s far) (hl : far.length ≤ 4096) (d : Nat) : ∀ (k i : Nat) (out : List Int), i + d = far.length → d < k → out.length = far.length →
    (∀ j, j < i → ∀ h : j < far.length, l + far[j] < 9223372036854775808) →
    packed_Decode.l0 k l out far far.length i = some (if ∀ x ∈ far, l + x < 9223372036854775808 then (out.take i ++ (far.drop i).map fun x => l + x, 0) else ([], 5)) := by
  unfold I64 at hi64
  induction d with
  | zero =>
    intro k i out hi hk ho hj
    obtain ⟨k, rfl⟩ : ∃ m, k = m + 1 := ⟨k - 1, by omega⟩
    simp only [packed_Decode.l0]
    rw [if_neg (by omega), if_pos, List.drop_eq_nil_of_le (by omega), List.take_of_length_le (by omega), List.map_nil, List.append_nil]
    intro x hx
    obtain ⟨j, h, rfl⟩ := List.getElem_of_mem hx
    exact hj j (by omega) h
  | succ d ih =>
    intro k i out hi hk ho hj
    obtain ⟨k, rfl⟩ : ∃ m, k = m + 1 := ⟨k - 1, by omega⟩
    have h1 : i < far.length := by omega
    have hx := hu _ (List.getElem_mem h1)
    have hmax : IntKind.u64.wrap (9223372036854775807 - IntKind.u64.wrap l) = 9223372036854775807 - l := by rw [u64r, u64r]; omega
    simp only [packed_Decode.l0]
    rw [if_pos (by omega), if_pos (by omega), if_pos (by omega), rd_nat h1, hmax]
    by_cases c : far[i] > 9223372036854775807 - l
    · rw [if_pos c, if_neg]
      intro hall
      have := hall _ (List.getElem_mem h1)
      omega
    · have hv : wrap64 (IntKind.u64.wrap (IntKind.u64.wrap l + far[i])) = l + far[i] := by rw [u64r, u64r]; unfold wrap64; omega
      rw [if_neg c, if_pos (by omega), hv, wsucc (by omega), Int.toNat_natCast, ih k (i + 1) (out.set i (l + far[i])) (by omega) (by omega) (by rw [List.length_set]; omega)]
      · have e1 : (out.set i (l + far[i])).take (i + 1) = out.take i ++ [l + far[i]] := by
          rw [take_succ_snoc (by rw [List.length_set]; omega), List.take_set_of_le (Nat.le_refl _), List.getElem_set_self]
        rw [e1, drop_cons h1, List.map_cons, List.append_assoc]; rfl
      · intro j hj2 hjl
        by_cases e : j = i
        · subst e; omega
        · exact hj j (by omega) hjl
theorem decW_dist (l : Int) (c : List Int) (n : Int) : decW l c n = if (distP c n).2 = 0 then (if ∀ x ∈ (distP c n).1, l + x < 9223372036854775808 then ((distP c n).1.map fun x => l + x, 0) else ([], 5)) else ([], (distP c n).2) := by
  cases c with
  | nil => rfl
  | cons w r =>
    simp only [distP, decW]
    by_cases d1 : w > 64
    · simp [d1]
    · by_cases d2 : (unpackR r w n).2 = 0
      · by_cases d3 : (widthN (unpackR r w n).1 : Int) = w
        · by_cases d4 : 0 ∈ (unpackR r w n).1
          · simp [d1, d2, d3, d4, aboveP]
          · simp [d1, d2, d3, d4, aboveP]
        · simp [d1, d2, d3]
      · simp [d1, d2]
theorem distP_ok {c : List Int} {n : Int} (h : (distP c n).2 = 0) : ((distP c n).1.length : Int) = n ∧ n ≤ 4096 ∧ U64s (distP c n).1 := by
  cases c with
  | nil => simp [distP] at h
  | cons w r =>
    simp only [distP] at h ⊢
    by_cases d1 : w > 64
    · simp [d1] at h
    · by_cases d2 : (unpackR r w n).2 = 0
      · by_cases d3 : (widthN (unpackR r w n).1 : Int) = w
        · by_cases d4 : 0 ∈ (unpackR r w n).1
          · rw [if_neg d1, if_neg (nne d2), if_neg (nne d3), if_pos d4]; exact unpack_len d2
          · simp [d1, d2, d3, d4] at h
        · simp [d1, d2, d3] at h
      · simp [d1, d2] at h
theorem dec_at (b : List Int) (hb : Bytes b) (hl : b.length ≤ 140737488355328) (k : Nat) (hk : 5010 ≤ k) : packed_Decode.f k b = some (decP b) := by
  unfold packed_Decode.f decP
  rw [get_at b hb hl 0 k (by omega), Option.bind_some]
  by_cases c1 : (getR b 0).2.2 = 0
  · obtain ⟨g1, g2, g3, g4, _⟩ := getR_fit hb c1
    rw [if_pos c1, if_neg (nne c1)]
    by_cases c2 : (getR b 0).1 > 4096
    · rw [if_pos c2, if_pos c2]
    · rw [if_neg c2, if_neg c2]
      obtain ⟨k, rfl⟩ : ∃ m, k = m + 1 := ⟨k - 1, by omega⟩
      by_cases c3 : (getR b 0).1 = 0
      · rw [if_pos c3, if_pos c3]
        simp only [packed_Decode.j0]
        by_cases c4 : (getR b 0).2.1 < (b.length : Int)
        · rw [if_pos (decide_eq_true c4), if_pos c4]
        · rw [if_neg (by simpa using c4), if_neg c4, if_pos c3]
      · rw [if_neg c3, if_neg c3]
        simp only [packed_Decode.j0]
        rw [if_neg (by decide), if_neg c3, get_at b hb hl _ k (by omega), Option.bind_some]
        by_cases c5 : (getR b (getR b 0).2.1).2.2 = 0
        · obtain ⟨q1, q2, q3, q4, _⟩ := getR_fit hb c5
          have hi := unfoldI_range q1 q2
          rw [if_pos c5, if_neg (nne c5), if_pos (by omega), if_pos (by omega), w64 (by omega) (by omega), dist_at _ (hb.drop _) (by rw [List.length_drop]; omega) _ k (by omega), Option.bind_some]
          rw [decW_dist]
          generalize hdp : distP (b.drop (getR b (getR b 0).2.1).2.1.toNat) (getR b 0).1 = p
          have hok := distP_ok (c := b.drop (getR b (getR b 0).2.1).2.1.toNat) (n := (getR b 0).1)
          rw [hdp] at hok
          obtain ⟨far, e⟩ := p
          simp only at hok ⊢
          by_cases d : e = 0
          · obtain ⟨u1, u2, u3⟩ := hok d
            rw [if_pos d, if_pos d, unfold_at q1 q2, Option.bind_some, if_pos (by omega), if_pos (by omega)]
            have := dec_l0 (unfoldI (getR b (getR b 0).2.1).1) hi far u3 (by omega) far.length k 0 (List.replicate (getR b 0).1.toNat 0) (by omega) (by omega) (by rw [List.length_replicate]; omega) (fun j hj => absurd hj (by omega))
            rw [show ((0 : Nat) : Int) = 0 from rfl] at this
            simp only [this, List.take_zero, List.nil_append, List.drop_zero]
          · rw [if_neg d, if_neg d]
        · rw [if_neg c5, if_pos c5]
  · rw [if_neg c1, if_pos c1]

theorem rleast_l0 (vs : List Int) (hl : vs.length ≤ 17592186044416) (d : Nat) : ∀ (k i : Nat) (a : Int), i + d = vs.length → d < k → stoaref09_Least.l0 k vs a i = some ((vs.drop i).foldl min a) := by
  induction d with
  | zero =>
    intro k i a hi hk
    obtain ⟨k, rfl⟩ : ∃ m, k = m + 1 := ⟨k - 1, by omega⟩
    simp only [stoaref09_Least.l0]
    rw [if_neg (by omega), List.drop_eq_nil_of_le (by omega)]; rfl
  | succ d ih =>
    intro k i a hi hk
    obtain ⟨k, rfl⟩ : ∃ m, k = m + 1 := ⟨k - 1, by omega⟩
    have h1 : i < vs.length := by omega
    simp only [stoaref09_Least.l0]
    rw [if_pos (by omega), if_pos (by omega), rd_nat h1, wsucc (by omega), drop_cons h1, List.foldl_cons]
    by_cases c : vs[i] < a
    · rw [if_pos c, ih k (i + 1) _ (by omega) (by omega), show min a vs[i] = vs[i] by omega]
    · rw [if_neg c, ih k (i + 1) _ (by omega) (by omega), show min a vs[i] = a by omega]
theorem rleast_at {vs : List Int} (h : vs ≠ []) (hl : vs.length ≤ 17592186044416) (k : Nat) (hk : vs.length + 1 ≤ k) : stoaref09_Least.f k vs = some (minL vs) := by
  have hp : 0 < vs.length := List.length_pos_iff.2 h
  unfold stoaref09_Least.f
  rw [if_pos (by omega)]
  have := rleast_l0 vs hl vs.length k 0 (rd vs 0) (by omega) (by omega)
  rw [show ((0 : Nat) : Int) = 0 from rfl] at this
  rw [this]
  cases vs with
  | nil => exact absurd rfl h
  | cons v r => simp [minL, rd]

theorem rgreatest_l0 (vs : List Int) (hl : vs.length ≤ 17592186044416) (d : Nat) : ∀ (k i : Nat) (a : Int), i + d = vs.length → d < k → stoaref09_Greatest.l0 k vs a i = some ((vs.drop i).foldl max a) := by
  induction d with
  | zero =>
    intro k i a hi hk
    obtain ⟨k, rfl⟩ : ∃ m, k = m + 1 := ⟨k - 1, by omega⟩
    simp only [stoaref09_Greatest.l0]
    rw [if_neg (by omega), List.drop_eq_nil_of_le (by omega)]; rfl
  | succ d ih =>
    intro k i a hi hk
    obtain ⟨k, rfl⟩ : ∃ m, k = m + 1 := ⟨k - 1, by omega⟩
    have h1 : i < vs.length := by omega
    simp only [stoaref09_Greatest.l0]
    rw [if_pos (by omega), if_pos (by omega), rd_nat h1, wsucc (by omega), drop_cons h1, List.foldl_cons]
    by_cases c : vs[i] > a
    · rw [if_pos c, ih k (i + 1) _ (by omega) (by omega), show max a vs[i] = vs[i] by omega]
    · rw [if_neg c, ih k (i + 1) _ (by omega) (by omega), show max a vs[i] = a by omega]
theorem rgreatest_at {vs : List Int} (h : vs ≠ []) (hl : vs.length ≤ 17592186044416) (k : Nat) (hk : vs.length + 1 ≤ k) : stoaref09_Greatest.f k vs = some (maxL vs) := by
  have hp : 0 < vs.length := List.length_pos_iff.2 h
  unfold stoaref09_Greatest.f
  rw [if_pos (by omega)]
  have := rgreatest_l0 vs hl vs.length k 0 (rd vs 0) (by omega) (by omega)
  rw [show ((0 : Nat) : Int) = 0 from rfl] at this
  rw [this]
  cases vs with
  | nil => exact absurd rfl h
  | cons v r => simp [maxL, rd]

theorem blen_half {v : Nat} (h : v ≠ 0) : blen v = blen (v / 2) + 1 := by
  by_cases h2 : v / 2 = 0
  · have : v = 1 := by omega
    subst this; decide
  · have := blen_shift (n := v) (k := 1) (by simpa using h2)
    simpa using this
theorem rwidth_l1 (vs : List Int) (w : Int) (i : Int) (d : Nat) : ∀ (v n : Nat), v < 2 ^ d → v < 18446744073709551616 → n + d ≤ 1000 → ∀ k,
    stoaref01_Width.l1 (k + blen v + 1) vs w i (n : Int) (v : Int) = if ((n + blen v : Nat) : Int) > w then stoaref01_Width.l0 k vs ((n + blen v : Nat) : Int) (wrap64 (i + 1)) else stoaref01_Width.l0 k vs w (wrap64 (i + 1)) := by
  induction d with
  | zero =>
    intro v n h h64 hn k
    have h0 : v = 0 := by simpa using h
    subst h0
    simp only [stoaref01_Width.l1]
    rw [if_neg (by omega), show blen 0 = 0 from rfl]; rfl
  | succ d ih =>
    intro v n h h64 hn k
    by_cases h0 : v = 0
    · subst h0
      simp only [stoaref01_Width.l1]
      rw [if_neg (by omega), show blen 0 = 0 from rfl]; rfl
    · have hih := ih (v / 2) (n + 1) (by rw [Nat.pow_succ] at h; omega) (by omega) (by omega) k
      rw [blen_half h0, show k + (blen (v / 2) + 1) + 1 = (k + blen (v / 2) + 1) + 1 by omega]
      generalize k + blen (v / 2) + 1 = K at hih
      simp only [stoaref01_Width.l1]
      rw [if_pos (by omega), w64 (by omega) (by omega), Int.tdiv_eq_ediv_of_nonneg (by omega), u64w (by omega) (by omega), show (n : Int) + 1 = ((n + 1 : Nat) : Int) by omega, show (v : Int) / 2 = ((v / 2 : Nat) : Int) by omega,
        hih, show n + 1 + blen (v / 2) = n + (blen (v / 2) + 1) by omega]
theorem rwidth_l0 (vs : List Int) (hv : U64s vs) (hl : vs.length ≤ 140737488355328) (d : Nat) : ∀ (i a : Nat), i + d = vs.length → ∃ K, ∀ k, K ≤ k →
    stoaref01_Width.l0 k vs (a : Int) i = some (((vs.drop i).foldl (fun m v => max m (blen v.toNat)) a : Nat) : Int) := by
  induction d with
  | zero =>
    intro i a hi
    refine ⟨1, fun k hk => ?_⟩
    obtain ⟨k, rfl⟩ : ∃ m, k = m + 1 := ⟨k - 1, by omega⟩
    simp only [stoaref01_Width.l0]
    rw [if_neg (by omega), List.drop_eq_nil_of_le (by omega), List.foldl_nil]
  | succ d ih =>
    intro i a hi
    have h1 : i < vs.length := by omega
    have hc := hv _ (List.getElem_mem h1)
    obtain ⟨K, h⟩ := ih (i + 1) (max a (blen (vs[i]).toNat)) (by omega)
    refine ⟨K + blen (vs[i]).toNat + 3, fun k hk => ?_⟩
    obtain ⟨j, hj⟩ : ∃ m, k = m + blen (vs[i]).toNat + 1 + 1 := ⟨k - blen (vs[i]).toNat - 2, by omega⟩
    have hl1 := rwidth_l1 vs (a : Int) (i : Int) 64 (vs[i]).toNat 0 (by omega) (by omega) (by omega) j
    rw [Nat.zero_add, Int.toNat_of_nonneg hc.1] at hl1
    generalize hK : j + blen (vs[i]).toNat + 1 = K2 at hl1
    rw [show k = K2 + 1 by omega]
    simp only [stoaref01_Width.l0]
    rw [if_pos (by omega), if_pos (by omega), rd_nat h1, show (0 : Int) = ((0 : Nat) : Int) from rfl, hl1, wsucc (by omega), show vs.drop i = vs[i] :: vs.drop (i + 1) from drop_cons h1, List.foldl_cons]
    have hk2 := h j (by omega)
    by_cases hb : ((blen (vs[i]).toNat : Nat) : Int) > (a : Int)
    · rw [if_pos hb, ← hk2]; congr 1; omega
    · rw [if_neg hb, ← hk2]; congr 1; omega
theorem rwidth_ev (vs : List Int) (hv : U64s vs) (hl : vs.length ≤ 140737488355328) : ∃ K, ∀ k, K ≤ k → stoaref01_Width.f k vs = some (widthN vs : Int) := by
  obtain ⟨K, h⟩ := rwidth_l0 vs hv hl vs.length 0 0 (by omega)
  refine ⟨K, fun k hk => ?_⟩
  have := h k hk
  unfold stoaref01_Width.f widthN
  simpa using this

theorem power_l0 (n : Nat) (hn : n ≤ 63) (d : Nat) : ∀ (k i : Nat), i + d = n → d < k → stoaref01_power.l0 k (n : Int) (2 ^ i) (i : Int) = some (2 ^ n) := by
  induction d with
  | zero =>
    intro k i hi hk
    obtain ⟨k, rfl⟩ : ∃ m, k = m + 1 := ⟨k - 1, by omega⟩
    simp only [stoaref01_power.l0]
    rw [if_neg (by omega), show i = n by omega]
  | succ d ih =>
    intro k i hi hk
    obtain ⟨k, rfl⟩ : ∃ m, k = m + 1 := ⟨k - 1, by omega⟩
    have h1 : (2 : Int) ^ (i + 1) = 2 ^ i * 2 := by rw [Int.pow_succ]
    have h2 : (2 : Int) ^ (i + 1) ≤ 2 ^ 63 := ipow_le (by decide) (by omega)
    have h3 : (0 : Int) < 2 ^ (i + 1) := Int.pow_pos (by decide)
    simp only [stoaref01_power.l0]
    rw [if_pos (by omega), ← h1, u64w (by omega) (by omega), wsucc (by omega)]
    exact ih k (i + 1) (by omega) (by omega)
theorem power_at {n : Nat} (hn : n ≤ 63) (k : Nat) (hk : 64 ≤ k) : stoaref01_power.f k (n : Int) = some (2 ^ n) := by
  have := power_l0 n hn n k 0 (by omega) (by omega)
  simpa [stoaref01_power.f] using this

theorem bit_at (b : List Int) (hb : Bytes b) (hl : b.length ≤ 140737488355328) {i : Nat} (hi : i < 8 * b.length) (k : Nat) (hk : 64 ≤ k) : stoaref01_bit.f k b (i : Int) = some ((nat b / 2 ^ i % 2 : Nat) : Int) := by
  have h1 : i / 8 < b.length := by omega
  have hc := hb _ (List.getElem_mem h1)
  have hch := nat_chunk hb i 1 h1 (by omega)
  have e1 : wrap64 (Int.tdiv (i : Int) 8) = ((i / 8 : Nat) : Int) := by rw [Int.tdiv_eq_ediv_of_nonneg (by omega), w64 (by omega) (by omega)]; omega
  have e2 : Int.tmod (i : Int) 8 = ((i % 8 : Nat) : Int) := by rw [Int.tmod_eq_emod_of_nonneg (by omega)]; omega
  have hp : (0 : Int) < 2 ^ (i % 8) := Int.pow_pos (by decide)
  have h0 : 0 ≤ b[i / 8] / 2 ^ (i % 8) := Int.ediv_nonneg hc.1 (Int.le_of_lt hp)
  have hle : b[i / 8] / 2 ^ (i % 8) ≤ b[i / 8] := Int.ediv_le_self _ hc.1
  have hdm := divmod2 hc.1 (i % 8) 1
  unfold stoaref01_bit.f
  rw [e1, if_pos (by omega), if_pos (by omega), e2, power_at (by omega) k hk, Option.bind_some, if_neg (by omega), rd_nat h1, u64w (x := b[i / 8]) (by omega) (by omega), Int.tdiv_eq_ediv_of_nonneg hc.1, u64w h0 (by omega), Int.tmod_eq_emod_of_nonneg h0]
  simp only [Nat.pow_one, Int.pow_one] at hch hdm
  rw [hdm, ← hch]
theorem pow_two_mod (X m : Nat) : X % 2 ^ (m + 1) = X % 2 + 2 * (X / 2 % 2 ^ m) := by
  have := mod_split X 1 m
  rw [Nat.add_comm 1 m] at this
  simpa using this
theorem number_l0 (b : List Int) (hb : Bytes b) (hl : b.length ≤ 140737488355328) (a w : Nat) (hw : w ≤ 64) (hfit : a + w ≤ 8 * b.length) (d : Nat) : ∀ (k : Nat), d ≤ w → d + 65 < k →
    stoaref01_number.l0 k b (a : Int) ((nat b / 2 ^ (a + d) % 2 ^ (w - d) : Nat) : Int) ((d : Int) - 1) = some ((nat b / 2 ^ a % 2 ^ w : Nat) : Int) := by
  induction d with
  | zero =>
    intro k hd hk
    obtain ⟨k, rfl⟩ : ∃ m, k = m + 1 := ⟨k - 1, by omega⟩
    simp only [stoaref01_number.l0]
    rw [if_neg (by omega)]; simp
  | succ d ih =>
    intro k hd hk
    obtain ⟨k, rfl⟩ : ∃ m, k = m + 1 := ⟨k - 1, by omega⟩
    have e1 : wrap64 ((a : Int) + (d : Int)) = ((a + d : Nat) : Int) := by rw [w64 (by omega) (by omega)]; omega
    have hs : nat b / 2 ^ (a + d) % 2 ^ (w - d) = nat b / 2 ^ (a + d) % 2 + 2 * (nat b / 2 ^ (a + (d + 1)) % 2 ^ (w - (d + 1))) := by
      rw [show w - d = (w - (d + 1)) + 1 by omega, pow_two_mod, ← Nat.add_assoc a d 1, div_pow_add _ (a + d) 1, Nat.pow_one]
    have hlt : nat b / 2 ^ (a + d) % 2 ^ (w - d) < 2 ^ 64 := Nat.lt_of_lt_of_le (Nat.mod_lt _ (Nat.two_pow_pos _)) (Nat.pow_le_pow_right (by decide) (by omega))
    have e3 : ∀ X Y Z : Nat, Y = X + 2 * Z → Y < 2 ^ 64 → IntKind.u64.wrap (IntKind.u64.wrap ((Z : Int) * 2) + (X : Int)) = (Y : Int) := fun X Y Z h1 h2 => by
      rw [u64w (x := (Z : Int) * 2) (by omega) (by omega), u64w (by omega) (by omega)]; omega
    simp only [stoaref01_number.l0]
    rw [show ((d + 1 : Nat) : Int) - 1 = (d : Int) by omega, if_pos (by omega), e1, bit_at b hb hl (by omega) k (by omega), Option.bind_some, e3 _ _ _ hs hlt, w64 (by omega) (by omega)]
    exact ih k (by omega) (by omega)
theorem number_at (b : List Int) (hb : Bytes b) (hl : b.length ≤ 140737488355328) (a w : Nat) (hw : w ≤ 64) (hfit : a + w ≤ 8 * b.length) (k : Nat) (hk : 131 ≤ k) : stoaref01_number.f k b (a : Int) (w : Int) = some ((nat b / 2 ^ a % 2 ^ w : Nat) : Int) := by
  have := number_l0 b hb hl a w hw hfit w k (by omega) (by omega)
  simp only [Nat.sub_self, Nat.pow_zero, Nat.mod_one, Int.natCast_zero] at this
  unfold stoaref01_number.f
  rw [w64 (by omega) (by omega)]; exact this

theorem runpack_l1 (b : List Int) (hb : Bytes b) (hl : b.length ≤ 140737488355328) (w n : Nat) (hw : w ≤ 64) (hn : n ≤ 4096) (hfit : w * n ≤ 8 * b.length) (d : Nat) : ∀ (k i : Nat), i + d = n → d + 140 < k →
    stoaref01_Unpack.l1 k b (w : Int) (n : Int) ((unpackN (nat b) w n).take i) i = some (unpackN (nat b) w n, 0) := by
  induction d with
  | zero =>
    intro k i hi hk
    obtain ⟨k, rfl⟩ : ∃ m, k = m + 1 := ⟨k - 1, by omega⟩
    simp only [stoaref01_Unpack.l1]
    rw [if_neg (by omega), List.take_of_length_le (by rw [unpackN_len]; omega)]
  | succ d ih =>
    intro k i hi hk
    obtain ⟨k, rfl⟩ : ∃ m, k = m + 1 := ⟨k - 1, by omega⟩
    have h1 : i < (unpackN (nat b) w n).length := by rw [unpackN_len]; omega
    have hm := mul_lt64 hw hn
    have hmi : i * w + w ≤ w * n := by
      have : w * (i + 1) ≤ w * n := Nat.mul_le_mul_left _ (by omega)
      rwa [Nat.mul_add, Nat.mul_one, Nat.mul_comm] at this
    have e1 : wrap64 ((i : Int) * (w : Int)) = ((i * w : Nat) : Int) := by
      have : (i : Int) * (w : Int) = ((i * w : Nat) : Int) := by simp
      rw [this, w64 (by omega) (by omega)]
    have hs := take_succ_snoc h1
    rw [unpackN_get (by omega)] at hs
    simp only [stoaref01_Unpack.l1]
    rw [if_pos (by omega), e1, number_at b hb hl (i * w) w hw (by omega) k (by omega), Option.bind_some, if_pos (by rw [List.length_take, unpackN_len]; omega), ← hs, wsucc (by omega)]
    exact ih k (i + 1) (by omega) (by omega)
theorem div_bit (X i : Nat) : X / 2 ^ i = 2 * (X / 2 ^ (i + 1)) + X / 2 ^ i % 2 := by
  rw [div_pow_add X i 1, Nat.pow_one]; omega
theorem runpack_l0 (b : List Int) (hb : Bytes b) (hl : b.length ≤ 140737488355328) (w n : Nat) (hw : w ≤ 64) (hn : n ≤ 4096) (hfit : w * n ≤ 8 * b.length) (d : Nat) : ∀ (k i : Nat), i + d = 8 * b.length → w * n ≤ i → nat b / 2 ^ (w * n) = 0 ∨ nat b / 2 ^ i ≠ 0 → d + n + 141 < k →
    stoaref01_Unpack.l0 k b (w : Int) (n : Int) i = some (if nat b / 2 ^ (w * n) ≠ 0 then ([], 5) else (unpackN (nat b) w n, 0)) := by
  induction d with
  | zero =>
    intro k i hi hwi hz hk
    obtain ⟨k, rfl⟩ : ∃ m, k = m + 1 := ⟨k - 1, by omega⟩
    have hN := nat_lt hb
    have h0 : nat b / 2 ^ i = 0 := Nat.div_eq_of_lt (by rw [show i = 8 * b.length by omega]; exact hN)
    have hz2 : nat b / 2 ^ (w * n) = 0 := hz.resolve_right (fun h => h h0)
    simp only [stoaref01_Unpack.l0]
    rw [w64 (by omega) (by omega), if_neg (by omega), if_neg (by rw [hz2]; simp)]
    have := runpack_l1 b hb hl w n hw hn hfit n k 0 (by omega) (by omega)
    simpa using this
  | succ d ih =>
    intro k i hi hwi hz hk
    obtain ⟨k, rfl⟩ : ∃ m, k = m + 1 := ⟨k - 1, by omega⟩
    have hb1 := div_bit (nat b) i
    simp only [stoaref01_Unpack.l0]
    rw [w64 (by omega) (by omega), if_pos (by omega), bit_at b hb hl (by omega) k (by omega), Option.bind_some]
    by_cases hbit : nat b / 2 ^ i % 2 = 0
    · rw [if_pos (by omega), wsucc (by omega)]
      exact ih k (i + 1) (by omega) (by omega) (by omega) (by omega)
    · rw [if_neg (by omega), if_pos]
      intro h0
      have : nat b / 2 ^ i = 0 := by
        rw [show i = w * n + (i - w * n) by omega, div_pow_add, h0, Nat.zero_div]
      rw [this] at hbit; simp at hbit
theorem runpack_at (b : List Int) (hb : Bytes b) (hl : b.length ≤ 140737488355328) (w n : Int) (k : Nat) (hk : 4300 ≤ k) : stoaref01_Unpack.f k b w n = some (unpackR b w n) := by
  obtain ⟨k, rfl⟩ : ∃ m, k = m + 1 := ⟨k - 1, by omega⟩
  have hj : stoaref01_Unpack.f (k + 1) b w n = stoaref01_Unpack.j0 (k + 1) b w n (decide (w < 0 ∨ w > 64 ∨ n < 0 ∨ n > 4096)) := by
    unfold stoaref01_Unpack.f
    by_cases h1 : w < 0
    · rw [if_pos h1, decide_eq_true (by omega)]
    rw [if_neg h1]
    by_cases h2 : w > 64
    · rw [if_pos h2, decide_eq_true (by omega)]
    rw [if_neg h2]
    by_cases h3 : n < 0
    · rw [if_pos h3, decide_eq_true (by omega)]
    rw [if_neg h3]
    by_cases h4 : n > 4096
    · rw [decide_eq_true h4, decide_eq_true (by omega)]
    · rw [decide_eq_false h4, decide_eq_false (by omega)]
  rw [hj]
  unfold unpackR
  by_cases h1 : w < 0 ∨ w > 64 ∨ n < 0 ∨ n > 4096
  · simp only [stoaref01_Unpack.j0]
    rw [decide_eq_true h1, if_pos rfl, if_pos h1]
  rw [decide_eq_false h1, if_neg h1]
  simp only [stoaref01_Unpack.j0]
  rw [if_neg (by decide)]
  obtain ⟨w, rfl⟩ := Int.eq_ofNat_of_zero_le (show 0 ≤ w by omega)
  obtain ⟨n, rfl⟩ := Int.eq_ofNat_of_zero_le (show 0 ≤ n by omega)
  have hm := mul_lt64 (w := w) (n := n) (by omega) (by omega)
  have hnd : w * n ≤ 8 * needN w n ∧ 8 * needN w n < w * n + 8 := by unfold needN; omega
  have e : (w : Int) * (n : Int) = ((w * n : Nat) : Int) := by simp
  rw [e, w64 (x := ((w * n : Nat) : Int)) (by omega) (by omega), w64 (x := 8 * (b.length : Int)) (by omega) (by omega), w64 (x := 8 * (b.length : Int) - ((w * n : Nat) : Int)) (by omega) (by omega), Int.toNat_natCast, Int.toNat_natCast]
  by_cases h2 : b.length < needN w n
  · rw [if_pos (by omega), if_pos h2]
  rw [if_neg (by omega), if_neg h2]
  by_cases h3 : b.length > needN w n
  · rw [if_pos (by omega), if_pos h3]
  rw [if_neg (by omega), if_neg h3]
  exact runpack_l0 b hb hl w n (by omega) (by omega) (by omega) (8 * b.length - w * n) k (w * n) (by omega) (Nat.le_refl _) (by omega) (by omega)

theorem piece_l0 (a : List Int) (lo hi : Nat) (hl : a.length ≤ 140737488355328) (d : Nat) : ∀ (k i : Nat), i + d = min a.length hi → d < k → lo ≤ i →
    stoaref01_Piece.l0 k a hi ((a.take i).drop lo) i = some ((a.take hi).drop lo) := by
  induction d with
  | zero =>
    intro k i hi' hk hlo
    obtain ⟨k, rfl⟩ : ∃ m, k = m + 1 := ⟨k - 1, by omega⟩
    simp only [stoaref01_Piece.l0]
    have e : a.take i = a.take hi := by
      rw [show i = min hi a.length by omega, ← List.take_take, List.take_length]
    by_cases h : i < a.length
    · rw [if_pos (by omega), if_neg (by omega), e]
    · rw [if_neg (by omega), e]
  | succ d ih =>
    intro k i hi' hk hlo
    obtain ⟨k, rfl⟩ : ∃ m, k = m + 1 := ⟨k - 1, by omega⟩
    have h1 : i < a.length := by omega
    simp only [stoaref01_Piece.l0]
    have e : (a.take i).drop lo ++ [a[i]] = (a.take (i + 1)).drop lo := by
      rw [take_succ_snoc h1, List.drop_append_of_le_length (by rw [List.length_take]; omega)]
    rw [if_pos (by omega), if_pos (by omega), if_pos (by omega), if_pos (by rw [List.length_drop, List.length_take]; omega), rd_nat h1, wsucc (by omega), e]
    exact ih k (i + 1) (by omega) (by omega) (by omega)
theorem piece_ev (a : List Int) (lo hi : Int) (hl : a.length ≤ 140737488355328) : ∃ K, ∀ k, K ≤ k → stoaref01_Piece.f k a lo hi = some ((a.take hi.toNat).drop lo.toNat) := by
  refine ⟨a.length + 3, fun k hk => ?_⟩
  obtain ⟨k, rfl⟩ : ∃ m, k = m + 1 := ⟨k - 1, by omega⟩
  have main : ∀ z : Nat, stoaref01_Piece.j0 (k + 1) a (z : Int) hi [] = some ((a.take hi.toNat).drop z) := by
    intro z
    simp only [stoaref01_Piece.j0]
    by_cases h : z < a.length ∧ (z : Int) < hi
    · have := piece_l0 a z hi.toNat hl (min a.length hi.toNat - z) k z (by omega) (by omega) (Nat.le_refl _)
      rw [List.drop_eq_nil_of_le (by rw [List.length_take]; omega), Int.toNat_of_nonneg (by omega)] at this
      exact this
    · obtain ⟨k, rfl⟩ : ∃ m, k = m + 1 := ⟨k - 1, by omega⟩
      rw [List.drop_eq_nil_of_le (by rw [List.length_take]; omega)]
      simp only [stoaref01_Piece.l0]
      by_cases h2 : (z : Int) < a.length
      · rw [if_pos h2, if_neg (by omega)]
      · rw [if_neg h2]
  unfold stoaref01_Piece.f
  simp only [Option.bind_some]
  by_cases h : lo < 0
  · rw [if_pos h]
    have := main 0
    rw [show lo.toNat = 0 by omega]; exact this
  · rw [if_neg h]
    have := main lo.toNat
    rw [Int.toNat_of_nonneg (by omega)] at this; exact this

theorem rget_l0 (b : List Int) (hb : Bytes b) (hl : b.length ≤ 140737488355328) (at_ : Nat) (ha : at_ ≤ b.length) (d : Nat) : ∀ (k i : Nat) (u : Int), i + d = 10 → 2 * d ≤ k → 1 ≤ d → at_ + i ≤ b.length → 0 ≤ u → u < 2 ^ (7 * i) →
    stoaref02_Get.l0 k b (at_ : Int) u (2 ^ (7 * i)) ((at_ : Int) + i) = some (match getL (b.drop (at_ + i)) i with | .ok (v, n) => (u + v * 2 ^ (7 * i), (at_ : Int) + i + n, 0) | .error e => (0, 0, e)) := by
  induction d with
  | zero => intro k i u hi hk h1; omega
  | succ d ih =>
    intro k i u hi hk _ hle hu0 hu1
    obtain ⟨k, rfl⟩ : ∃ m, k = m + 1 + 1 := ⟨k - 2, by omega⟩
    simp only [stoaref02_Get.l0]
    by_cases hend : at_ + i = b.length
    · rw [if_neg (by omega), List.drop_eq_nil_of_le (by omega)]; simp [getL]
    have hlt : at_ + i < b.length := by omega
    have hc := hb _ (List.getElem_mem hlt)
    rw [if_pos (by omega), if_pos (by omega), show (at_ : Int) + (i : Int) = ((at_ + i : Nat) : Int) by omega, rd_nat hlt, drop_cons hlt, getL, w64 (x := ((at_ + i : Nat) : Int) - at_) (by omega) (by omega)]
    generalize hcc : b[at_ + i] = c at hc ⊢
    rw [u64w (x := c) (by omega) (by omega)]
    have key : ∀ (h9 : ¬ (i = 9 ∧ c > 1)), stoaref02_Get.j2 (k + 1) b (at_ : Int) u (2 ^ (7 * i)) ((at_ + i : Nat) : Int) c false = some (match (if i = 9 ∧ c > 1 then .error 20 else if c ≥ 128 then (match getL (b.drop (at_ + i + 1)) (i + 1) with | .ok (v, n) => .ok (c - 128 + 128 * v, n + 1) | .error e => .error e)
        else if c = 0 ∧ i > 0 then .error 5 else .ok (c, 1) : Except Int (Int × Nat)) with | .ok (v, n) => (u + v * 2 ^ (7 * i), ((at_ + i : Nat) : Int) + n, 0) | .error e => (0, 0, e)) := by
      intro h9
      have hm : c % 128 < 2 ^ (64 - 7 * i) := by
        by_cases hi9 : i = 9
        · subst hi9; have : ¬ c > 1 := fun h => h9 ⟨rfl, h⟩; simp; omega
        · have : (2 : Int) ^ 8 ≤ 2 ^ (64 - 7 * i) := ipow_le (by decide) (by omega)
          omega
      have hpos : (0 : Int) < 2 ^ (7 * i) := Int.pow_pos (by decide)
      have e64 : (2 : Int) ^ 64 = 2 ^ (64 - 7 * i) * 2 ^ (7 * i) := by rw [← Int.pow_add]; congr 1; omega
      have hmul : c % 128 * 2 ^ (7 * i) ≤ (2 ^ (64 - 7 * i) - 1) * 2 ^ (7 * i) := Int.mul_le_mul_of_nonneg_right (by omega) (Int.le_of_lt hpos)
      have hge : 0 ≤ c % 128 * 2 ^ (7 * i) := Int.mul_nonneg (by omega) (Int.le_of_lt hpos)
      have hfit : u + c % 128 * 2 ^ (7 * i) < 2 ^ 64 := by
        rw [e64]; rw [Int.sub_mul] at hmul; omega
      have e5 : IntKind.u64.wrap (u + (IntKind.u64.wrap ((Int.tmod c 128) * 2 ^ (7 * i)))) = u + c % 128 * 2 ^ (7 * i) := by
        rw [Int.tmod_eq_emod_of_nonneg (by omega), u64w (x := c % 128 * 2 ^ (7 * i)) hge (by omega), u64w (by omega) (by omega)]
      simp only [stoaref02_Get.j2, Bool.false_eq_true, if_false]
      rw [e5, if_neg h9]
      by_cases h128 : c ≥ 128
      · have hi9 : i ≠ 9 := fun h => h9 ⟨h, by omega⟩
        have e7 : (2 : Int) ^ (7 * (i + 1)) = 2 ^ (7 * i) * 128 := by rw [Nat.mul_add, Int.pow_add]; rfl
        have hlt2 : u + c % 128 * 2 ^ (7 * i) < 2 ^ (7 * (i + 1)) := by
          have : c % 128 * 2 ^ (7 * i) ≤ 127 * 2 ^ (7 * i) := Int.mul_le_mul_of_nonneg_right (by omega) (Int.le_of_lt hpos)
          omega
        have hpw : (2 : Int) ^ (7 * (i + 1)) ≤ 2 ^ 63 := ipow_le (by decide) (by omega)
        rw [if_neg (by omega), if_pos h128, ← e7, u64w (x := (2 : Int) ^ (7 * (i + 1))) (by omega) (by omega), w64 (by omega) (by omega), show ((at_ + i : Nat) : Int) + 1 = (at_ : Int) + ((i + 1 : Nat) : Int) by omega,
          ih k (i + 1) _ (by omega) (by omega) (by omega) (by omega) (by omega) hlt2, show at_ + (i + 1) = at_ + i + 1 by omega]
        cases getL (b.drop (at_ + i + 1)) (i + 1) with
        | error e => rfl
        | ok p =>
          obtain ⟨v, n⟩ := p
          simp only [Option.some.injEq, Prod.mk.injEq, and_true]
          constructor
          · have e : (2 : Int) ^ (7 * (i + 1)) = 128 * 2 ^ (7 * i) := by rw [Nat.mul_add, Int.pow_add, Int.mul_comm]; rfl
            rw [e, show c % 128 = c - 128 by omega, Int.add_mul, Int.add_assoc]
            congr 2
            rw [← Int.mul_assoc, Int.mul_comm v 128]
          · omega
      · rw [if_pos (by omega), if_neg h128]
        have e6 : wrap64 (((at_ + i : Nat) : Int) + 1) = ((at_ + i : Nat) : Int) + (1 : Nat) := by rw [w64 (by omega) (by omega)]; omega
        by_cases h0 : c = 0
        · rw [if_pos h0]
          by_cases hi0 : ((at_ + i : Nat) : Int) > (at_ : Int)
          · rw [if_pos hi0, if_pos ⟨h0, by omega⟩]
          · rw [if_neg hi0, if_neg (by omega), e6, show c % 128 = c by omega]
        · rw [if_neg h0, if_neg (by omega), e6, show c % 128 = c by omega]
    by_cases hi9 : i = 9
    · rw [if_pos (by omega)]
      by_cases hc1 : c > 1
      · simp only [stoaref02_Get.j2, decide_eq_true hc1, if_true]
        rw [if_pos ⟨hi9, hc1⟩]
      · rw [decide_eq_false hc1]
        exact key (fun h => hc1 h.2)
    · rw [if_neg (by omega)]
      exact key (fun h => hi9 h.1)
theorem rget_at (b : List Int) (hb : Bytes b) (hl : b.length ≤ 140737488355328) (at_ : Int) (k : Nat) (hk : 22 ≤ k) : stoaref02_Get.f k b at_ = some (getR b at_) := by
  obtain ⟨k, rfl⟩ : ∃ m, k = m + 1 := ⟨k - 1, by omega⟩
  unfold stoaref02_Get.f getR
  by_cases h0 : at_ < 0
  · rw [if_pos h0, if_pos (Or.inl h0)]; simp [stoaref02_Get.j0]
  rw [if_neg h0]
  by_cases h1 : at_ > b.length
  · rw [if_pos (Or.inr h1)]; simp [stoaref02_Get.j0, h1]
  rw [if_neg (by omega)]
  simp only [stoaref02_Get.j0, h1, decide_false, Bool.false_eq_true, if_false]
  obtain ⟨a, rfl⟩ := Int.eq_ofNat_of_zero_le (Int.not_lt.1 h0)
  have := rget_l0 b hb hl a (by omega) 10 k 0 0 rfl (by omega) (by decide) (by omega) (by decide) (by decide)
  simp only [Int.natCast_zero, Nat.mul_zero, Int.pow_zero, Int.add_zero] at this
  rw [this]
  simp only [Nat.add_zero, Int.toNat_natCast, Nat.mul_zero, Int.pow_zero, Int.mul_one, Int.zero_add, Int.add_zero]

theorem runfold_at {u : Int} (h0 : 0 ≤ u) (h1 : u < 18446744073709551616) : stoaref05_Unfold.f u = some (unfoldI u) := by
  have e1 : Int.tmod u 2 = u % 2 := Int.tmod_eq_emod_of_nonneg h0
  have e2 : Int.tdiv u 2 = u / 2 := Int.tdiv_eq_ediv_of_nonneg h0
  unfold stoaref05_Unfold.f
  rw [e1, e2, u64w (x := u / 2) (by omega) (by omega), w64 (x := u / 2) (by omega) (by omega), w64 (x := -(u / 2)) (by omega) (by omega), w64 (by omega) (by omega)]
  unfold unfoldI
  by_cases h : u % 2 = 0
  · rw [if_pos h, if_pos (by omega)]
  · rw [if_neg h, if_neg (by omega)]

theorem above_l0 (l : Int) (hi64 : I64 l) (far : List Int) (hu : U64s far) (hl : far.length ≤ 4096) (d : Nat) : ∀ (k i : Nat) (z : Bool), i + d = far.length → 2 * d < k →
    stoaref09_above.l0 k l far ((far.take i).map fun x => l + x) z i =
      some (if (∀ x ∈ far.drop i, l + x < 9223372036854775808) ∧ (z = true ∨ 0 ∈ far.drop i) then (far.map fun x => l + x, 0) else ([], 5)) := by
  unfold I64 at hi64
  induction d with
  | zero =>
    intro k i z hi hk
    obtain ⟨k, rfl⟩ : ∃ m, k = m + 1 := ⟨k - 1, by omega⟩
    simp only [stoaref09_above.l0]
    rw [if_neg (by omega), List.drop_eq_nil_of_le (by omega), List.take_of_length_le (by omega)]
    cases z <;> simp
  | succ d ih =>
    intro k i z hi hk
    obtain ⟨k, rfl⟩ : ∃ m, k = m + 2 := ⟨k - 2, by omega⟩
    have h1 : i < far.length := by omega
    have hx := hu _ (List.getElem_mem h1)
    simp only [stoaref09_above.l0]
    rw [if_pos (by omega), if_pos (by omega), rd_nat h1]
    by_cases c : l + far[i] < 9223372036854775808
    · have hv : wrap64 (IntKind.u64.wrap (IntKind.u64.wrap l + far[i])) = l + far[i] := by rw [u64r, u64r]; unfold wrap64; omega
      have hd : IntKind.u64.wrap (IntKind.u64.wrap (l + far[i]) - IntKind.u64.wrap l) = far[i] := by rw [u64r, u64r, u64r]; omega
      have hlen : ((far.take i).map fun x => l + x).length < 17592186044416 := by rw [List.length_map, List.length_take]; omega
      rw [hv, if_neg (by omega), hd]
      simp only [stoaref09_above.j1]
      rw [if_neg (by simp), if_pos (by omega), if_pos (by omega), rd_nat h1, wsucc (by omega)]
      have e1 : (far.take i).map (fun x => l + x) ++ [l + far[i]] = (far.take (i + 1)).map fun x => l + x := by rw [take_succ_snoc h1, List.map_append]; rfl
      by_cases c0 : far[i] = 0
      · rw [if_pos c0, if_pos hlen, e1, ih k (i + 1) true (by omega) (by omega), drop_cons h1]
        have hz : (0 = far[i]) = True := eq_true c0.symm
        simp only [List.mem_cons, forall_eq_or_imp, c, true_and, hz, true_or, or_true, and_true]
      · rw [if_neg c0, if_pos hlen, e1, ih k (i + 1) z (by omega) (by omega), drop_cons h1]
        have hz : (0 = far[i]) = False := eq_false fun h => c0 h.symm
        simp only [List.mem_cons, forall_eq_or_imp, c, true_and, hz, false_or]
    · have hv : wrap64 (IntKind.u64.wrap (IntKind.u64.wrap l + far[i])) = l + far[i] - 18446744073709551616 := by rw [u64r, u64r]; unfold wrap64; omega
      rw [hv, if_pos (by omega)]
      simp only [stoaref09_above.j1]
      rw [if_pos trivial, if_neg]
      rintro ⟨h, _⟩
      exact c (h _ (by rw [drop_cons h1]; exact List.mem_cons_self))
theorem above_at (l : Int) (hi64 : I64 l) (far : List Int) (hu : U64s far) (hl : far.length ≤ 4096) (k : Nat) (hk : 8200 ≤ k) : stoaref09_above.f k l far = some (aboveP l far) := by
  unfold stoaref09_above.f
  have := above_l0 l hi64 far hu hl far.length k 0 false (by omega) (by omega)
  rw [show ((0 : Nat) : Int) = 0 from rfl, List.take_zero, List.map_nil, List.drop_zero] at this
  rw [this]
  unfold aboveP
  simp
theorem rdec_ev (b : List Int) (hb : Bytes b) (hl : b.length ≤ 140737488355320) : ∃ K, ∀ k, K ≤ k → stoaref09_Decode.f k b = some (decP b) := by
  by_cases c1 : (getR b 0).2.2 = 0
  case neg =>
    refine ⟨30, fun k hk => ?_⟩
    unfold stoaref09_Decode.f decP
    rw [rget_at b hb (by omega) 0 k (by omega), Option.bind_some, if_neg c1, if_pos c1]
  obtain ⟨g1, g2, g3, g4, _⟩ := getR_fit hb c1
  by_cases c2 : (getR b 0).1 > 4096
  · refine ⟨30, fun k hk => ?_⟩
    unfold stoaref09_Decode.f decP
    rw [rget_at b hb (by omega) 0 k (by omega), Option.bind_some, if_pos c1, if_neg (nne c1), if_pos c2, if_pos c2]
  by_cases c3 : (getR b 0).1 = 0
  · refine ⟨30, fun k hk => ?_⟩
    unfold stoaref09_Decode.f decP
    rw [rget_at b hb (by omega) 0 k (by omega), Option.bind_some, if_pos c1, if_neg (nne c1), if_neg c2, if_neg c2, if_pos c3, if_pos c3]
    split <;> rfl
  by_cases c5 : (getR b (getR b 0).2.1).2.2 = 0
  case neg =>
    refine ⟨30, fun k hk => ?_⟩
    unfold stoaref09_Decode.f decP
    rw [rget_at b hb (by omega) 0 k (by omega), Option.bind_some, if_pos c1, if_neg (nne c1), if_neg c2, if_neg c2, if_neg c3, if_neg c3, rget_at b hb (by omega) _ k (by omega), Option.bind_some, if_neg c5, if_pos c5]
  obtain ⟨q1, q2, q3, q4, q5⟩ := getR_fit hb c5
  have hi := unfoldI_range q1 q2
  obtain ⟨K1, p1⟩ := piece_ev b ((getR b (getR b 0).2.1).2.1 + 1) b.length (by omega)
  have hdec : decP b = decW (unfoldI (getR b (getR b 0).2.1).1) (b.drop (getR b (getR b 0).2.1).2.1.toNat) (getR b 0).1 := by
    unfold decP
    rw [if_neg (nne c1), if_neg c2, if_neg c3, if_neg (nne c5)]
  rw [hdec]
  by_cases c6 : (getR b (getR b 0).2.1).2.1 ≥ b.length
  · refine ⟨30, fun k hk => ?_⟩
    unfold stoaref09_Decode.f
    rw [rget_at b hb (by omega) 0 k (by omega), Option.bind_some, if_pos c1, if_neg c2, if_neg c3, rget_at b hb (by omega) _ k (by omega), Option.bind_some, if_pos c5, if_pos c6, List.drop_eq_nil_of_le (by omega)]
    rfl
  · obtain ⟨x, hx⟩ : ∃ x : Nat, (getR b (getR b 0).2.1).2.1 = (x : Int) := ⟨(getR b (getR b 0).2.1).2.1.toNat, by omega⟩
    have hxl : x < b.length := by omega
    have hw := hb _ (List.getElem_mem hxl)
    rw [hx, Int.toNat_natCast, drop_cons hxl]
    simp only [decW]
    rw [hx] at p1
    have hp : (b.take ((b.length : Int)).toNat).drop ((x : Int) + 1).toNat = b.drop (x + 1) := by rw [Int.toNat_natCast, List.take_length]; congr 1
    rw [hp] at p1
    by_cases d1 : b[x] > 64
    · refine ⟨K1 + 30, fun k hk => ?_⟩
      unfold stoaref09_Decode.f
      rw [rget_at b hb (by omega) 0 k (by omega), Option.bind_some, if_pos c1, if_neg c2, if_neg c3, rget_at b hb (by omega) _ k (by omega), Option.bind_some, if_pos c5, if_neg c6, hx, if_pos (by omega), if_pos (by omega), rd_nat hxl, w64 (by omega) (by omega), if_pos d1, if_pos d1]
    rw [if_neg d1]
    by_cases d2 : (unpackR (b.drop (x + 1)) b[x] (getR b 0).1).2 = 0
    · obtain ⟨u1, u2, u3⟩ := unpack_len d2
      obtain ⟨K2, p2⟩ := rwidth_ev (unpackR (b.drop (x + 1)) b[x] (getR b 0).1).1 u3 (by omega)
      refine ⟨K1 + K2 + 9000, fun k hk => ?_⟩
      unfold stoaref09_Decode.f
      rw [rget_at b hb (by omega) 0 k (by omega), Option.bind_some, if_pos c1, if_neg c2, if_neg c3, rget_at b hb (by omega) _ k (by omega), Option.bind_some, if_pos c5, if_neg c6, hx, if_pos (by omega), if_pos (by omega), rd_nat hxl, w64 (by omega) (by omega), if_neg d1, w64 (x := (x : Int) + 1) (by omega) (by omega), p1 k (by omega), Option.bind_some,
        w64 (x := (getR b 0).1) (by omega) (by omega), runpack_at _ (hb.drop _) (by rw [List.length_drop]; omega) _ _ k (by omega), Option.bind_some, if_pos d2, p2 k (by omega), Option.bind_some, if_neg (nne d2)]
      by_cases d3 : (widthN (unpackR (b.drop (x + 1)) b[x] (getR b 0).1).1 : Int) = b[x]
      · rw [if_pos d3, if_neg (nne d3), runfold_at q1 q2, Option.bind_some, above_at _ hi _ u3 (by omega) k (by omega), Option.bind_some]
      · rw [if_neg d3, if_pos d3]
    · refine ⟨K1 + 9000, fun k hk => ?_⟩
      unfold stoaref09_Decode.f
      rw [rget_at b hb (by omega) 0 k (by omega), Option.bind_some, if_pos c1, if_neg c2, if_neg c3, rget_at b hb (by omega) _ k (by omega), Option.bind_some, if_pos c5, if_neg c6, hx, if_pos (by omega), if_pos (by omega), rd_nat hxl, w64 (by omega) (by omega), if_neg d1, w64 (x := (x : Int) + 1) (by omega) (by omega), p1 k (by omega), Option.bind_some,
        w64 (x := (getR b 0).1) (by omega) (by omega), runpack_at _ (hb.drop _) (by rw [List.length_drop]; omega) _ _ k (by omega), Option.bind_some, if_neg d2, if_pos d2]

theorem same8_l0 (a b : List Int) (hab : a.length = b.length) (hl : a.length ≤ 17592186044416) (d : Nat) : ∀ (k i : Nat), i + d = a.length → d < k →
    stoaref08_Same.l0 k a b i = some (decide (a.drop i = b.drop i)) := by
  induction d with
  | zero =>
    intro k i hi hk
    obtain ⟨k, rfl⟩ : ∃ m, k = m + 1 := ⟨k - 1, by omega⟩
    simp only [stoaref08_Same.l0]
    rw [if_neg (by omega), List.drop_eq_nil_of_le (by omega), List.drop_eq_nil_of_le (by omega)]; simp
  | succ d ih =>
    intro k i hi hk
    obtain ⟨k, rfl⟩ : ∃ m, k = m + 1 := ⟨k - 1, by omega⟩
    have h1 : i < a.length := by omega
    have h2 : i < b.length := by omega
    simp only [stoaref08_Same.l0]
    rw [if_pos (by omega), if_pos (by omega), if_pos (by omega), rd_nat h1, rd_nat h2, wsucc (by omega), show a.drop i = a[i] :: a.drop (i + 1) from drop_cons h1, show b.drop i = b[i] :: b.drop (i + 1) from drop_cons h2]
    by_cases e : a[i] = b[i]
    · rw [if_pos e, ih k (i + 1) (by omega) (by omega)]; simp only [e, List.cons.injEq, true_and]
    · rw [if_neg e]; simp only [e, List.cons.injEq, false_and, decide_false]
theorem same8_at (a b : List Int) (hl : a.length ≤ 17592186044416) (k : Nat) (hk : a.length + 1 ≤ k) : stoaref08_Same.f k a b = some (decide (a = b)) := by
  simp only [stoaref08_Same.f]
  by_cases h : a.length = b.length
  · rw [if_pos (by omega)]
    have := same8_l0 a b h hl a.length k 0 (by omega) (by omega)
    simpa using this
  · rw [if_neg (by omega)]
    have : a ≠ b := fun e => h (by rw [e])
    simp [this]

theorem apart8_l0 (b w : List Int) (hb : b.length ≤ 17592186044416) (n : Nat) (hl : n ≤ 17592186044416) (d : Nat) : ∀ (k i : Nat) (a : List Int), a.length = n → i + d = n → d + b.length + 2 ≤ k →
    ∃ z, stoaref08_Apart.l0 k a b w i = some (decide (b = w), z) := by
  induction d with
  | zero =>
    intro k i a ha hi hk
    obtain ⟨k, rfl⟩ : ∃ m, k = m + 1 := ⟨k - 1, by omega⟩
    refine ⟨a, ?_⟩
    simp only [stoaref08_Apart.l0]
    rw [if_neg (by omega), same8_at b w hb k (by omega), Option.bind_some]
  | succ d ih =>
    intro k i a ha hi hk
    obtain ⟨k, rfl⟩ : ∃ m, k = m + 1 := ⟨k - 1, by omega⟩
    obtain ⟨z, hz⟩ := ih k (i + 1) (a.set i (Go.bits .xor .i64 (rd a i) 5)) (by rw [List.length_set]; exact ha) (by omega) (by omega)
    refine ⟨z, ?_⟩
    simp only [stoaref08_Apart.l0]
    rw [if_pos (by omega), if_pos (by omega), wsucc (by omega), Int.toNat_natCast, hz]
theorem apart8_at (a : List Int) (hl : a.length ≤ 17592186044416) (k : Nat) (hk : 2 * a.length + 4 ≤ k) : ∃ z, stoaref08_Apart.f k a a a = some (true, z) := by
  obtain ⟨k, rfl⟩ : ∃ m, k = m + 1 := ⟨k - 1, by omega⟩
  obtain ⟨z, hz⟩ := apart8_l0 a a hl a.length hl a.length k 0 a rfl (by omega) (by omega)
  refine ⟨z, ?_⟩
  unfold stoaref08_Apart.f
  rw [same8_at a a hl _ (by omega), Option.bind_some, if_pos (decide_eq_true rfl), Option.bind_some, decide_eq_true rfl]
  simp only [stoaref08_Apart.j0]
  rw [if_neg (by decide)]
  rw [show ((0 : Nat) : Int) = 0 from rfl] at hz
  rw [hz, decide_eq_true rfl]

theorem alive_ev : ∃ K, ∀ k, K ≤ k → stoalaw09_alive.f k = some true := by
  have h : stoalaw09_alive.f 40 = some true := by decide +kernel
  exact Ev.of (fun k => stoalaw09_alive.mono k) h

def rangeP (b : List Int) : Int × Int × Int × Int :=
  if (decP b).2 ≠ 0 then (0, 0, 0, (decP b).2) else if (decP b).1 = [] then (0, 0, 0, 1) else (minL (decP b).1, maxL (decP b).1, (decP b).1.length, 0)
theorem range_at (b : List Int) (hb : Bytes b) (hl : b.length ≤ 140737488355328) (k : Nat) (hk : 5010 ≤ k) : packed_Range.f k b = some (rangeP b) := by
  have hlen := decP_len (b := b)
  unfold packed_Range.f rangeP
  rw [dec_at b hb hl k hk, Option.bind_some]
  by_cases c : (decP b).2 = 0
  · rw [if_pos c, if_neg (nne c)]
    by_cases c1 : (decP b).1 = []
    · rw [if_pos (by rw [c1]; rfl), if_pos c1]
    · have : 0 < (decP b).1.length := List.length_pos_iff.2 c1
      rw [if_neg (by omega), if_neg c1, min_at c1 (by omega) k (by omega), Option.bind_some, max_at c1 (by omega) k (by omega), Option.bind_some]
  · rw [if_neg c, if_pos c]

theorem copy_l0 (a : List Int) (hl : a.length ≤ 140737488355328) (d : Nat) : ∀ (k i : Nat), i + d = a.length → d < k →
    stoaref01_Copy.l0 k a (a.take i) i = some a := by
  induction d with
  | zero =>
    intro k i hi hk
    obtain ⟨k, rfl⟩ : ∃ m, k = m + 1 := ⟨k - 1, by omega⟩
    simp only [stoaref01_Copy.l0]
    rw [if_neg (by omega), List.take_of_length_le (by omega)]
  | succ d ih =>
    intro k i hi hk
    obtain ⟨k, rfl⟩ : ∃ m, k = m + 1 := ⟨k - 1, by omega⟩
    have h1 : i < a.length := by omega
    simp only [stoaref01_Copy.l0]
    rw [if_pos (by omega), if_pos (by omega), if_pos (by rw [List.length_take]; omega), rd_nat h1, wsucc (by omega), ← take_succ_snoc h1]
    exact ih k (i + 1) (by omega) (by omega)
theorem copy_ev (a : List Int) (hl : a.length ≤ 140737488355328) : ∃ K, ∀ k, K ≤ k → stoaref01_Copy.f k a = some a := by
  refine ⟨a.length + 1, fun k hk => ?_⟩
  have := copy_l0 a hl a.length k 0 (by omega) (by omega)
  simpa [stoaref01_Copy.f] using this

/-- The marks behind the bytes that are handed in. -/
def marks : List Int := (List.range 64).map fun (i : Nat) => (192 + (i : Int) % 7)
theorem marks_len : marks.length = 64 := by simp [marks]
theorem marks_bytes : Bytes marks := by
  intro x hx
  simp only [marks, List.mem_map, List.mem_range] at hx
  obtain ⟨i, _, rfl⟩ := hx
  omega
theorem marks_at {i : Nat} (h : i < 64) : marks[i]'(by rw [marks_len]; exact h) = (wrap64 (192 + (Int.tmod (i : Int) 7))) % 256 := by
  simp only [marks, List.getElem_map, List.getElem_range]
  rw [Int.tmod_eq_emod_of_nonneg (by omega), w64 (by omega) (by omega)]; omega
theorem wide_l0 (a : List Int) (hl : a.length + 64 ≤ 140737488355328) (d : Nat) : ∀ (k i : Nat), i + d = 64 → d < k →
    stoaref01_Wide.l0 k (a ++ marks.take i) i = some (a ++ marks) := by
  induction d with
  | zero =>
    intro k i hi hk
    obtain ⟨k, rfl⟩ : ∃ m, k = m + 1 := ⟨k - 1, by omega⟩
    simp only [stoaref01_Wide.l0]
    rw [if_neg (by omega), List.take_of_length_le (by rw [marks_len]; omega)]
  | succ d ih =>
    intro k i hi hk
    obtain ⟨k, rfl⟩ : ∃ m, k = m + 1 := ⟨k - 1, by omega⟩
    have hm := marks_len
    have h1 : i < marks.length := by omega
    simp only [stoaref01_Wide.l0]
    rw [if_pos (by omega), if_pos (by rw [List.length_append, List.length_take]; omega), ← marks_at (by omega), wsucc (by omega), List.append_assoc, ← take_succ_snoc h1]
    exact ih k (i + 1) (by omega) (by omega)
theorem wide_ev (a : List Int) (hl : a.length + 64 ≤ 140737488355328) : ∃ K, ∀ k, K ≤ k → stoaref01_Wide.f k a = some (a ++ marks) := by
  obtain ⟨K, h⟩ := copy_ev a (by omega)
  refine ⟨K + 65, fun k hk => ?_⟩
  have := wide_l0 a hl 64 k 0 (by omega) (by omega)
  simp only [stoaref01_Wide.f, h k (by omega), Option.bind_some]
  simpa using this
theorem intact_l1 (a : List Int) (hl : a.length + 64 ≤ 140737488355328) (d : Nat) : ∀ (k i : Nat), i + d = 64 → d < k →
    stoaref01_Intact.l1 k (a ++ marks) a i = some true := by
  induction d with
  | zero =>
    intro k i hi hk
    obtain ⟨k, rfl⟩ : ∃ m, k = m + 1 := ⟨k - 1, by omega⟩
    simp only [stoaref01_Intact.l1]
    rw [if_neg (by omega)]
  | succ d ih =>
    intro k i hi hk
    obtain ⟨k, rfl⟩ : ∃ m, k = m + 1 := ⟨k - 1, by omega⟩
    have hm := marks_len
    have e : wrap64 ((a.length : Int) + (i : Int)) = ((a.length + i : Nat) : Int) := by rw [w64 (by omega) (by omega)]; omega
    have h1 : a.length + i < (a ++ marks).length := by rw [List.length_append]; omega
    simp only [stoaref01_Intact.l1]
    rw [if_pos (by omega), e, if_pos (by omega), if_pos (by omega), rd_nat h1, List.getElem_append_right (by omega)]
    simp only [Nat.add_sub_cancel_left]
    rw [marks_at (by omega), if_pos rfl, wsucc (by omega)]
    exact ih k (i + 1) (by omega) (by omega)
theorem intact_l0 (a : List Int) (hl : a.length + 64 ≤ 140737488355328) (d : Nat) : ∀ (k i : Nat), i + d = a.length → d + 65 < k →
    stoaref01_Intact.l0 k (a ++ marks) a i = some true := by
  induction d with
  | zero =>
    intro k i hi hk
    obtain ⟨k, rfl⟩ : ∃ m, k = m + 1 := ⟨k - 1, by omega⟩
    simp only [stoaref01_Intact.l0]
    rw [if_neg (by omega)]
    exact intact_l1 a hl 64 k 0 (by omega) (by omega)
  | succ d ih =>
    intro k i hi hk
    obtain ⟨k, rfl⟩ : ∃ m, k = m + 1 := ⟨k - 1, by omega⟩
    have h1 : i < a.length := by omega
    have h2 : i < (a ++ marks).length := by rw [List.length_append]; omega
    simp only [stoaref01_Intact.l0]
    rw [if_pos (by omega), if_pos (by omega), if_pos (by omega), rd_nat h1, rd_nat h2, List.getElem_append_left h1, if_pos rfl, wsucc (by omega)]
    exact ih k (i + 1) (by omega) (by omega)
theorem intact_ev (a : List Int) (hl : a.length + 64 ≤ 140737488355328) : ∃ K, ∀ k, K ≤ k → stoaref01_Intact.f k (a ++ marks) a = some true := by
  refine ⟨a.length + 67, fun k hk => ?_⟩
  simp only [stoaref01_Intact.f]
  rw [List.length_append, marks_len, w64 (by omega) (by omega), if_pos (by omega)]
  exact intact_l0 a hl a.length k 0 (by omega) (by omega)

theorem decodes_j0 (b : List Int) (hb : Bytes b) (hl : b.length ≤ 140737488351232) : ∃ K, ∀ k, K ≤ k → stoalaw09_PackedDecodes.j0 k b (b ++ marks) (decP b).1 (decP b).2 false = some true := by
  obtain ⟨K1, h1⟩ := intact_ev b (by omega)
  have hlen := decP_len (b := b)
  refine ⟨K1 + 6000, fun k hk => ?_⟩
  obtain ⟨k, rfl⟩ : ∃ m, k = m + 1 := ⟨k - 1, by omega⟩
  simp only [stoalaw09_PackedDecodes.j0]
  rw [if_neg (by decide), if_pos (by omega), if_pos (by rw [List.length_append]; omega), Int.toNat_natCast, List.take_left, range_at b hb (by omega) k (by omega), Option.bind_some, h1 k (by omega), Option.bind_some, if_pos rfl]
  unfold rangeP
  by_cases c : (decP b).2 = 0
  · rw [if_pos c, if_neg (nne c)]
    by_cases c1 : (decP b).1 = []
    · rw [if_pos c1, if_pos (by rw [c1]; rfl)]; rfl
    · have hp : 0 < (decP b).1.length := List.length_pos_iff.2 c1
      rw [if_neg c1, if_neg (by omega), if_pos rfl, rleast_at c1 (by omega) k (by omega), Option.bind_some, if_pos rfl, rgreatest_at c1 (by omega) k (by omega), Option.bind_some, if_pos rfl]
      simp
  · rw [if_neg c, if_pos c, if_pos rfl, if_pos rfl, if_pos rfl]; rfl
theorem PackedDecodes : stoalaw09_PackedDecodes.Pure := by
  intro b _ hl hb
  have hl : b.length ≤ 140737488351232 := by omega
  have hb := bytesWf hb
  obtain ⟨K1, h1⟩ := alive_ev
  obtain ⟨K2, h2⟩ := wide_ev b (by omega)
  obtain ⟨K3, h3⟩ := rdec_ev b hb (by omega)
  obtain ⟨K4, h4⟩ := decodes_j0 b hb (by omega)
  have hlen := decP_len (b := b)
  obtain ⟨k, hk⟩ : ∃ k, k = K1 + K2 + K3 + K4 + 20000 := ⟨_, rfl⟩
  obtain ⟨z, hz⟩ := apart8_at (decP b).1 (by omega) k (by omega)
  refine ⟨k, ?_⟩
  unfold stoalaw09_PackedDecodes.f
  rw [h1 _ (by omega), Option.bind_some, if_pos rfl, h2 _ (by omega), Option.bind_some, if_pos (by omega), if_pos (by rw [List.length_append]; omega), Int.toNat_natCast, List.take_left, dec_at b hb (by omega) _ (by omega), Option.bind_some, Option.bind_some, h3 _ (by omega), Option.bind_some,
    if_pos rfl, hz, Option.bind_some]
  exact h4 k (by omega)

end Go.Proofs.Ytimjmndogalcbaa.Pure
