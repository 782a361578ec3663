import Derived.Test.YtmoegiibdaomlaaFr4
set_option linter.unusedSimpArgs false
set_option linter.unusedVariables false
set_option linter.unusedSectionVars false
set_option maxRecDepth 20000
set_option maxHeartbeats 1000000
namespace Go.Proofs.Ytmoegiibdaomlaa.B
open Go Go.Ab
/-! the sum, plain mathematics -/
def R32 (s : Int) : Prop := 0 ≤ s ∧ s < 4294967296
theorem xor_r (a b : Int) : R32 (Go.bits .xor .u32 a b) := by
  have h := Go.bits_within .xor .u32 a b
  have h1 : IntKind.u32.min = 0 := rfl
  have h2 : IntKind.u32.max = 4294967295 := rfl
  rw [h1, h2] at h
  exact ⟨h.1, by omega⟩
theorem wrap32 {n : Int} (h0 : 0 ≤ n) (h1 : n < 4294967296) : IntKind.u32.wrap n = n := by
  show (if (false && decide (n % 4294967296 ≥ 2147483648)) then n % 4294967296 - 4294967296 else n % 4294967296) = n
  rw [if_neg (by simp)]
  exact Int.emod_eq_of_lt h0 h1
theorem step_eq {s : Int} (h : R32 s) : rstepZ s = stepZ s ∧ R32 (stepZ s) := by
  obtain ⟨h0, h1⟩ := h
  have e1 : s.fdiv 2 = s / 2 := by rw [Int.fdiv_eq_ediv_of_nonneg _ (by omega)]
  have e2 : s.tdiv 2 = s / 2 := Int.tdiv_eq_ediv_of_nonneg h0
  have e3 : s.tmod 2 = s % 2 := Int.tmod_eq_emod_of_nonneg h0
  have e4 : Go.bits .and .u32 s 1 = s % 2 := by
    rw [Go.u32_and s 1 h0 h1 (by omega) (by omega)]
    have : s.toNat &&& (1 : Int).toNat = s.toNat % 2 := Nat.and_one_is_mod _
    rw [this]; omega
  have e5 : IntKind.u32.wrap (s / 2) = s / 2 := wrap32 (by omega) (by omega)
  unfold rstepZ stepZ
  rw [e1, e2, e3, e4, e5]
  have : s % 2 = 0 ∨ s % 2 = 1 := by omega
  rcases this with h | h
  · rw [if_neg (by omega), if_pos h]; exact ⟨rfl, by omega, by omega⟩
  · rw [if_pos h, if_neg (by omega)]; exact ⟨rfl, xor_r _ _⟩
def itS : Nat → Int → Int | 0, z => z | n + 1, z => stepZ (itS n z)
theorem it_eq : ∀ (n : Nat) {z : Int}, R32 z → iterR n z = itS n z ∧ R32 (itS n z)
  | 0, z, h => ⟨rfl, h⟩
  | n + 1, z, h => by
    obtain ⟨a, b⟩ := it_eq n h
    obtain ⟨c, d⟩ := step_eq b
    simp only [iterR, itS, a]
    exact ⟨c, d⟩
theorem feed_it (s c : Int) : feedZ s c = itS 8 (Go.bits .xor .u32 s (IntKind.u32.wrap c)) := by simp only [feedZ, itS]
theorem feed_eq (s c : Int) : rfeedZ s c = feedZ s c ∧ R32 (feedZ s c) := by
  rw [feed_it]; unfold rfeedZ
  exact it_eq 8 (xor_r _ _)
theorem rextZ_cons (s c : Int) (l : List Int) : rextZ s (c :: l) = rextZ (rfeedZ s c) l := by simp only [rextZ, List.foldl_cons]
theorem ext_eq : ∀ (l : List Int) {s : Int}, R32 s → rextZ s l = extZ s l ∧ R32 (extZ s l)
  | [], s, h => ⟨rfl, h⟩
  | c :: l, s, h => by
    obtain ⟨a, b⟩ := feed_eq s c
    rw [rextZ_cons, a]
    simp only [extZ]
    exact ext_eq l b
theorem ext_app (a b : List Int) : ∀ s : Int, extZ s (a ++ b) = extZ (extZ s a) b := by
  induction a with
  | nil => intro s; rfl
  | cons c a ih => intro s; simp only [List.cons_append, extZ, ih]
theorem not_eq {s : Int} (h : R32 s) : notZ s = 4294967295 - s ∧ R32 (notZ s) := by
  refine ⟨?_, xor_r _ _⟩
  unfold notZ
  have h2 : IntKind.u32.max = 4294967295 := rfl
  rw [h2, Go.u32_xor _ _ (by omega) (by omega) h.1 h.2]
  have e : (4294967295 : Int).toNat = 2 ^ 32 - 1 := rfl
  have hb := BitVec.toNat_not (x := BitVec.ofNat 32 s.toNat)
  have h1 := h.1; have h3 := h.2
  rw [← BitVec.xor_allOnes, BitVec.toNat_xor, BitVec.toNat_allOnes, BitVec.toNat_ofNat, Nat.mod_eq_of_lt (by omega)] at hb
  rw [e, Nat.xor_comm, hb]
  have := h.1; have := h.2
  omega
theorem not_not {s : Int} (h : R32 s) : notZ (notZ s) = s := by
  obtain ⟨a, b⟩ := not_eq h
  rw [(not_eq b).1, a]; omega
theorem not0 : notZ 0 = 4294967295 := by rw [(not_eq ⟨by omega, by omega⟩).1]; rfl
theorem extend_app {s : Int} (h : R32 s) (a b : List Int) : extendZ (extendZ s a) b = extendZ s (a ++ b) := by
  unfold extendZ
  rw [not_not (ext_eq a (not_eq h).2).2, ext_app]
theorem extend_r (s : Int) (l : List Int) : R32 (extendZ s l) := xor_r _ _
theorem extend_nil {s : Int} (h : R32 s) : extendZ s [] = s := by unfold extendZ; simp only [extZ]; exact not_not h
theorem rsum_eq (l : List Int) : rsumZ l = extendZ 0 l := by
  unfold rsumZ extendZ
  rw [not0, (ext_eq l (s := 4294967295) ⟨by omega, by omega⟩).1]
  have hr := (ext_eq l (s := 4294967295) ⟨by omega, by omega⟩).2
  unfold notZ
  have h2 : IntKind.u32.max = 4294967295 := rfl
  rw [h2, Go.u32_xor _ _ hr.1 hr.2 (by omega) (by omega), Go.u32_xor _ _ (by omega) (by omega) hr.1 hr.2, Nat.xor_comm]
/-! the sum is linear -/
def stepN (s : Nat) : Nat := if s % 2 = 0 then s / 2 else s / 2 ^^^ 2197175160
theorem stepN_xor (a b : Nat) : stepN (a ^^^ b) = stepN a ^^^ stepN b := by
  have h1 : (a ^^^ b) / 2 = a / 2 ^^^ b / 2 := by
    apply Nat.eq_of_testBit_eq; intro i
    simp [Nat.testBit_xor, Nat.testBit_div_two]
  have h2 : (a ^^^ b) % 2 = (a % 2) ^^^ (b % 2) := by
    have := Nat.xor_mod_two_pow (a := a) (b := b) (n := 1)
    simpa using this
  unfold stepN
  rw [h1, h2]
  have ha : a % 2 = 0 ∨ a % 2 = 1 := by omega
  have hb : b % 2 = 0 ∨ b % 2 = 1 := by omega
  rcases ha with ha | ha <;> rcases hb with hb | hb <;> simp only [ha, hb] <;> simp
  · rw [Nat.xor_assoc]
  · ac_rfl
  · rw [Nat.xor_assoc (a / 2), Nat.xor_comm 2197175160, Nat.xor_assoc (b / 2), Nat.xor_self, Nat.xor_zero]
theorem step_N {s : Int} (h : R32 s) : stepZ s = (stepN s.toNat : Nat) := by
  obtain ⟨h0, h1⟩ := h
  have e1 : s.fdiv 2 = s / 2 := by rw [Int.fdiv_eq_ediv_of_nonneg _ (by omega)]
  have e4 : Go.bits .and .u32 s 1 = s % 2 := by
    rw [Go.u32_and s 1 h0 h1 (by omega) (by omega)]
    have : s.toNat &&& (1 : Int).toNat = s.toNat % 2 := Nat.and_one_is_mod _
    rw [this]; omega
  unfold stepZ stepN
  rw [e1, e4]
  by_cases h : s % 2 = 0
  · rw [if_pos h, if_pos (by omega)]; omega
  · rw [if_neg h, if_neg (by omega), Go.u32_xor _ _ (by omega) (by omega) (by omega) (by omega)]
    have : (s / 2).toNat = s.toNat / 2 := by omega
    rw [this]; rfl
def itN : Nat → Nat → Nat | 0, z => z | n + 1, z => stepN (itN n z)
theorem itN_xor : ∀ (n a b : Nat), itN n (a ^^^ b) = itN n a ^^^ itN n b
  | 0, _, _ => rfl
  | n + 1, a, b => by simp only [itN]; rw [itN_xor n, stepN_xor]
theorem itN_add : ∀ (n m a : Nat), itN (n + m) a = itN n (itN m a)
  | 0, m, a => by rw [Nat.zero_add]; rfl
  | n + 1, m, a => by rw [Nat.succ_add]; simp only [itN]; rw [itN_add n]
theorem it_N : ∀ (n : Nat) {z : Int}, R32 z → itS n z = (itN n z.toNat : Nat)
  | 0, z, h => by simp only [itS, itN]; have := h.1; omega
  | n + 1, z, h => by
    have h2 : R32 (itS n z) := (it_eq n h).2
    simp only [itS, itN]
    rw [step_N h2, it_N n h]; rfl
def feedN (s c : Nat) : Nat := itN 8 (s ^^^ c)
theorem feed_N {s c : Int} (hs : R32 s) (hc : 0 ≤ c ∧ c < 256) : feedZ s c = (feedN s.toNat c.toNat : Nat) := by
  rw [feed_it, it_N 8 (xor_r _ _), wrap32 hc.1 (by omega), Go.u32_xor _ _ hs.1 hs.2 hc.1 (by omega)]
  rfl
def extN (s : Nat) (l : List Nat) : Nat := l.foldl feedN s
def B8 (l : List Int) : Prop := ∀ c ∈ l, 0 ≤ c ∧ c < 256
theorem ext_N : ∀ (l : List Int) {s : Int}, R32 s → B8 l → extZ s l = (extN s.toNat (l.map Int.toNat) : Nat)
  | [], s, h, _ => by have := h.1; simp only [extZ, extN, List.map_nil, List.foldl_nil]; omega
  | c :: l, s, h, hc => by
    have h1 := feed_N h (hc c (by simp))
    simp only [extZ, extN, List.map_cons, List.foldl_cons]
    rw [ext_N l (feed_eq s c).2 (fun d hd => hc d (by simp [hd])), h1]; rfl
theorem B8.take {l : List Int} (h : B8 l) (n : Nat) : B8 (l.take n) := fun c hc => h c (List.mem_of_mem_take hc)
theorem B8.drop {l : List Int} (h : B8 l) (n : Nat) : B8 (l.drop n) := fun c hc => h c (List.mem_of_mem_drop hc)
theorem B8.app {l m : List Int} (h : B8 l) (k : B8 m) : B8 (l ++ m) := fun c hc => by
  rcases List.mem_append.1 hc with q | q
  · exact h c q
  · exact k c q
theorem B8.nth {l : List Int} (h : B8 l) (i : Nat) : 0 ≤ nth l i ∧ nth l i < 256 := by
  rcases Nat.lt_or_ge i l.length with q | q
  · exact h _ (nth_mem q)
  · have : Go.Ab.nth l i = 0 := by simp [Go.Ab.nth, List.getElem?_eq_none q]
    rw [this]; omega
theorem B8_tail (s : Int) : B8 (tailZ s) := by
  intro c hc
  simp only [tailZ, List.mem_cons, List.not_mem_nil, or_false] at hc
  rcases hc with rfl | rfl | rfl | rfl <;> rw [wrapU8] <;> omega
theorem xor_zero_eq {x y : Nat} (h : x ^^^ y = 0) : x = y := by
  have : x ^^^ y ^^^ y = y := by rw [h, Nat.zero_xor]
  rwa [Nat.xor_assoc, Nat.xor_self, Nat.xor_zero] at this
/-! bytes as one number -/
def num : List Nat → Nat | [] => 0 | c :: l => c ^^^ (num l <<< 8)
theorem itN_shift : ∀ (k y : Nat), itN k (y <<< k) = y
  | 0, y => by simp [itN]
  | k + 1, y => by
    rw [itN_add k 1]
    have h : stepN (y <<< (k + 1)) = y <<< k := by
      unfold stepN
      have e : y <<< (k + 1) = 2 * (y <<< k) := by rw [Nat.shiftLeft_succ]
      rw [e, if_pos (by omega)]; omega
    show itN k (stepN (y <<< (k + 1))) = y
    rw [h, itN_shift k]
theorem extN_num : ∀ (l : List Nat) (r : Nat), extN r l = itN (8 * l.length) (r ^^^ num l)
  | [], r => by simp [extN, num, itN]
  | c :: l, r => by
    have h := extN_num l (feedN r c)
    simp only [extN, List.foldl_cons] at h ⊢
    rw [h]
    simp only [num, List.length_cons]
    rw [show 8 * (l.length + 1) = 8 * l.length + 8 by omega, itN_add, ← Nat.xor_assoc, itN_xor 8, itN_shift]
    rfl
theorem stepN_lt {x : Nat} (h : x < 4294967296) : stepN x < 4294967296 := by
  unfold stepN
  split
  · omega
  · exact Nat.xor_lt_two_pow (n := 32) (by omega) (by decide)
theorem stepN_pos {x : Nat} (h : x < 4294967296) (h0 : 0 < x) : 0 < stepN x := by
  unfold stepN
  split
  · omega
  · apply Nat.pos_of_ne_zero
    intro q
    have := xor_zero_eq q
    omega
theorem itN_pos : ∀ (n : Nat) {x : Nat}, x < 4294967296 → 0 < x → 0 < itN n x ∧ itN n x < 4294967296
  | 0, x, h, h0 => ⟨h0, h⟩
  | n + 1, x, h, h0 => by
    obtain ⟨a, b⟩ := itN_pos n h h0
    exact ⟨stepN_pos b a, stepN_lt b⟩
theorem itN_inj {n x y : Nat} (hx : x < 4294967296) (hy : y < 4294967296) (h : itN n x = itN n y) : x = y := by
  rcases Nat.eq_zero_or_pos (x ^^^ y) with q | q
  · exact xor_zero_eq q
  · exfalso
    have h2 := (itN_pos n (Nat.xor_lt_two_pow (n := 32) hx hy) q).1
    rw [itN_xor, h, Nat.xor_self] at h2
    omega
theorem xor_low {c y : Nat} (h : c < 256) : (c ^^^ (y <<< 8)) % 256 = c ∧ (c ^^^ (y <<< 8)) / 256 = y := by
  constructor
  · have := Nat.xor_mod_two_pow (a := c) (b := y <<< 8) (n := 8)
    have h2 : (y <<< 8) % 2 ^ 8 = 0 := by rw [Nat.shiftLeft_eq]; exact Nat.mul_mod_left _ _
    have h3 : c % 2 ^ 8 = c := Nat.mod_eq_of_lt h
    rw [h2, h3, Nat.xor_zero] at this
    exact this
  · have e : (c ^^^ (y <<< 8)) / 256 = (c ^^^ (y <<< 8)) >>> 8 := by rw [Nat.shiftRight_eq_div_pow]
    rw [e, Nat.shiftRight_xor_distrib]
    have h2 : c >>> 8 = 0 := by rw [Nat.shiftRight_eq_div_pow]; exact Nat.div_eq_of_lt h
    rw [h2, Nat.zero_xor, Nat.shiftLeft_shiftRight]
theorem num_inj : ∀ {l m : List Nat}, l.length = m.length → (∀ c ∈ l, c < 256) → (∀ c ∈ m, c < 256) → num l = num m → l = m
  | [], [], _, _, _, _ => rfl
  | c :: l, d :: m, h, hl, hm, e => by
    simp only [num] at e
    obtain ⟨a1, a2⟩ := xor_low (c := c) (y := num l) (hl c (by simp))
    obtain ⟨b1, b2⟩ := xor_low (c := d) (y := num m) (hm d (by simp))
    rw [e] at a1 a2
    have h1 : c = d := by omega
    have h2 : num l = num m := by omega
    rw [h1, num_inj (by simpa using h) (fun x hx => hl x (by simp [hx])) (fun x hx => hm x (by simp [hx])) h2]
def nats (l : List Int) : List Nat := l.map Int.toNat
theorem nats_lt {l : List Int} (h : B8 l) : ∀ c ∈ nats l, c < 256 := by
  intro c hc
  obtain ⟨x, hx, rfl⟩ := List.mem_map.1 hc
  have := h x hx; omega
theorem nats_inj {l m : List Int} (hl : B8 l) (hm : B8 m) (h : nats l = nats m) : l = m := by
  have hlen : l.length = m.length := by have := congrArg List.length h; simpa [nats] using this
  refine ext_nth hlen fun i hi => ?_
  have h1 : nth (nats l) i = nth (nats m) i := by rw [h]
  unfold nats at h1
  rw [nth_map hi, nth_map (by omega)] at h1
  have a := hl.nth i; have b := hm.nth i
  omega
theorem numZ_inj {l m : List Int} (hl : B8 l) (hm : B8 m) (hn : l.length = m.length) (h : num (nats l) = num (nats m)) : l = m :=
  nats_inj hl hm (num_inj (by simpa [nats] using hn) (nats_lt hl) (nats_lt hm) h)
theorem num4 {a b c d : Nat} (ha : a < 256) (hb : b < 256) (hc : c < 256) (hd : d < 256) : num [a, b, c, d] = a + 256 * (b + 256 * (c + 256 * d)) := by
  have h1 := xor_low (c := d) (y := 0) hd
  have h2 := xor_low (c := c) (y := num [d]) hc
  have h3 := xor_low (c := b) (y := num [c, d]) hb
  have h4 := xor_low (c := a) (y := num [b, c, d]) ha
  simp only [num] at h1 h2 h3 h4 ⊢
  simp only [Nat.zero_shiftLeft, Nat.xor_zero] at h1 h2 h3 h4 ⊢
  omega
theorem num_tail {s : Int} (h : R32 s) : num (nats (tailZ s)) = s.toNat := by
  obtain ⟨h0, h1⟩ := h
  have e1 : s.fdiv 256 = s / 256 := by rw [Int.fdiv_eq_ediv_of_nonneg _ (by omega)]
  have e2 : s.fdiv 65536 = s / 65536 := by rw [Int.fdiv_eq_ediv_of_nonneg _ (by omega)]
  have e3 : s.fdiv 16777216 = s / 16777216 := by rw [Int.fdiv_eq_ediv_of_nonneg _ (by omega)]
  unfold tailZ nats
  rw [e1, e2, e3]
  simp only [wrapU8, List.map_cons, List.map_nil]
  rw [num4 (by omega) (by omega) (by omega) (by omega)]
  omega
theorem num_lt4 {l : List Int} (h : B8 l) (hl : l.length = 4) : num (nats l) < 4294967296 := by
  match l, hl with
  | [a, b, c, d], _ =>
    have ha := h a (by simp); have hb := h b (by simp); have hc := h c (by simp); have hd := h d (by simp)
    simp only [nats, List.map_cons, List.map_nil]
    rw [num4 (by omega) (by omega) (by omega) (by omega)]
    omega
/-- The register behind all bytes. -/
def regN (l : List Int) : Nat := extN 4294967295 (nats l)
theorem regN_num (l : List Int) : regN l = itN (8 * l.length) (4294967295 ^^^ num (nats l)) := by
  unfold regN; rw [extN_num]; simp [nats]
theorem nats_app (l m : List Int) : nats (l ++ m) = nats l ++ nats m := by simp [nats]
theorem sum1 {l : List Int} (h : B8 l) : sumZ [l] = 4294967295 - (regN l : Int) ∧ R32 (sumZ [l]) ∧ regN l < 4294967296 := by
  have e : sumZ [l] = notZ (extZ 4294967295 l) := by show notZ (extZ (notZ 0) l) = _; rw [not0]
  have hr := (ext_eq l (s := 4294967295) ⟨by omega, by omega⟩).2
  have h2 := ext_N l (s := 4294967295) ⟨by omega, by omega⟩ h
  have h3 : extZ 4294967295 l = (regN l : Int) := h2
  rw [e]
  refine ⟨by rw [(not_eq hr).1, h3], (not_eq hr).2, ?_⟩
  have := hr.2; omega
theorem xor_ones {x : Nat} (h : x < 4294967296) : 4294967295 ^^^ x = 4294967295 - x := by
  have hb := BitVec.toNat_not (x := BitVec.ofNat 32 x)
  rw [← BitVec.xor_allOnes, BitVec.toNat_xor, BitVec.toNat_allOnes, BitVec.toNat_ofNat, Nat.mod_eq_of_lt (by omega)] at hb
  rw [Nat.xor_comm]
  have e : (4294967295 : Nat) = 2 ^ 32 - 1 := rfl
  rw [e, hb]
def sealC : Nat := itN 32 4294967295
/-- Sealed just where the register is the one. -/
theorem sealed_iff {l : List Int} (h : B8 l) : sealedB l = true ↔ 4 ≤ l.length ∧ regN l = sealC := by
  unfold sealedB
  rw [decide_eq_true_eq]
  refine and_congr_right fun h4 => ?_
  obtain ⟨n, hn⟩ : ∃ n, n = l.length - 4 := ⟨_, rfl⟩
  rw [← hn]
  obtain ⟨s1, s2, s3⟩ := sum1 (h.take n)
  have ht : (l.drop n).length = 4 := by simp; omega
  have hl := num_lt4 (h.drop n) ht
  have e1 : regN l = itN 32 (regN (l.take n) ^^^ num (nats (l.drop n))) := by
    have : regN l = extN (regN (l.take n)) (nats (l.drop n)) := by
      unfold regN extN
      rw [← List.foldl_append, ← nats_app, List.take_append_drop]
    have h8 : (nats (l.drop n)).length = 4 := by unfold nats; rw [List.length_map, ht]
    rw [this, extN_num, h8]
  rw [e1]
  have hx := xor_ones s3
  constructor
  · intro q
    have h5 : num (nats (l.drop n)) = 4294967295 ^^^ regN (l.take n) := by
      rw [q, num_tail s2, s1, hx]; omega
    rw [h5, Nat.xor_comm 4294967295, ← Nat.xor_assoc, Nat.xor_self, Nat.zero_xor]; rfl
  · intro q
    have h6 : regN (l.take n) ^^^ num (nats (l.drop n)) = 4294967295 := itN_inj (Nat.xor_lt_two_pow (n := 32) s3 hl) (by omega) q
    have h7 : num (nats (l.drop n)) = 4294967295 ^^^ regN (l.take n) := by
      rw [← h6, Nat.xor_comm (regN _), Nat.xor_assoc, Nat.xor_self, Nat.xor_zero]
    refine numZ_inj (h.drop n) (B8_tail _) (by rw [ht]; rfl) ?_
    rw [num_tail s2, h7, hx, s1]; omega
theorem sealZ_B8 {l : List Int} (h : B8 l) : B8 (sealZ l) := h.app (B8_tail _)
theorem sealed_seal (l : List Int) : sealedB (sealZ l) = true := by
  unfold sealedB
  rw [sealZ_len, show l.length + 4 - 4 = l.length by omega]
  simp [sealZ]
/-- A turned run is told. -/
theorem told_run {x y : List Int} (hx : B8 x) (hy : B8 y) (hn : y.length = x.length) {p k : Nat} (hp : 0 < p) (hp2 : p < 4294967296) (hk : k ≤ 8 * x.length) (h : num (nats y) = num (nats x) ^^^ (p <<< k)) (hs : sealedB x = true) : sealedB y = false := by
  obtain ⟨h4, hr⟩ := (sealed_iff hx).1 hs
  rw [Bool.eq_false_iff]
  intro q
  obtain ⟨_, hr2⟩ := (sealed_iff hy).1 q
  rw [regN_num] at hr hr2
  rw [hn, h, ← Nat.xor_assoc, itN_xor, hr] at hr2
  have e : itN (8 * x.length) (p <<< k) = itN (8 * x.length - k) p := by
    rw [show 8 * x.length = (8 * x.length - k) + k by omega, itN_add, itN_shift]
    congr 1; omega
  have hz : itN (8 * x.length) (p <<< k) = 0 := by
    have := congrArg (fun z => sealC ^^^ z) hr2
    rwa [← Nat.xor_assoc, Nat.xor_self, Nat.zero_xor] at this
  rw [e] at hz
  have := (itN_pos (8 * x.length - k) hp2 hp).1
  omega
/-! turned bits, as numbers -/
theorem shl_xor (a b k : Nat) : (a ^^^ b) <<< k = (a <<< k) ^^^ (b <<< k) := Nat.shiftLeft_xor_distrib
theorem num_set : ∀ (l : List Nat) (i d : Nat), i < l.length → num (l.set i (nth l i ^^^ d)) = num l ^^^ (d <<< (8 * i))
  | [], i, d, h => by simp at h
  | c :: l, 0, d, h => by
    simp only [List.set_cons_zero, num, nth_cons_zero, Nat.mul_zero, Nat.shiftLeft_zero]
    rw [Nat.xor_assoc, Nat.xor_comm d, ← Nat.xor_assoc]
  | c :: l, i + 1, d, h => by
    simp only [List.set_cons_succ, num, nth_cons_succ]
    rw [num_set l i d (by simpa using h), shl_xor, ← Nat.xor_assoc, ← Nat.shiftLeft_add]
    rfl
theorem flipZ_num {l : List Int} (h : B8 l) {k : Nat} (hk : k < 8 * l.length) : num (nats (flipZ l k)) = num (nats l) ^^^ (1 <<< k) ∧ B8 (flipZ l k) := by
  have hi : k / 8 < l.length := by omega
  have hb := h.nth (k / 8)
  obtain ⟨z, hz⟩ : ∃ z : Nat, z = 2 ^ (k % 8) := ⟨_, rfl⟩
  have hp : (2 : Int) ^ (k % 8) = (z : Int) := by rw [hz]; norm_cast
  have hp2 : z < 256 := by
    have : 2 ^ (k % 8) ≤ 2 ^ 7 := Nat.pow_le_pow_right (by omega) (by omega)
    omega
  have e : Go.bits .xor .u8 (nth l (k / 8)) (2 ^ (k % 8)) = (((nth l (k / 8)).toNat ^^^ z : Nat) : Int) := by
    rw [hp, Go.u8_xor _ _ hb.1 hb.2 (by omega) (by omega)]
    simp
  have hlt : (nth l (k / 8)).toNat ^^^ z < 256 := Nat.xor_lt_two_pow (n := 8) (by omega) (by omega)
  constructor
  · have e2 : nats (flipZ l k) = (nats l).set (k / 8) (nth (nats l) (k / 8) ^^^ z) := by
      unfold flipZ nats
      rw [List.map_set, e, nth_map hi]
      simp
    rw [e2, num_set _ _ _ (by simpa [nats] using hi)]
    congr 1
    rw [hz, Nat.shiftLeft_eq, Nat.shiftLeft_eq, Nat.one_mul, ← Nat.pow_add]
    congr 1; omega
  · intro c hc
    rcases List.mem_or_eq_of_mem_set hc with q | q
    · exact h c q
    · rw [q, e]; omega
theorem flips_num {l : List Int} (h : B8 l) {k : Nat} {p : Int} (hp : 0 ≤ p) (hb : p.toNat / 2 ^ (8 * l.length - k) = 0) (hk : k ≤ 8 * l.length) : ∀ i, num (nats (flipsZ l k p i)) = num (nats l) ^^^ ((p.toNat % 2 ^ i) <<< k) ∧ B8 (flipsZ l k p i)
  | 0 => by
    refine ⟨?_, h⟩
    show num (nats l) = _
    rw [Nat.pow_zero, Nat.mod_one, Nat.zero_shiftLeft, Nat.xor_zero]
  | i + 1 => by
    obtain ⟨h1, h2⟩ := flips_num h hp hb hk i
    have hlen := flipsZ_len l k p i
    have hbit : p / 2 ^ i % 2 = ((p.toNat / 2 ^ i % 2 : Nat) : Int) := by
      obtain ⟨q, rfl⟩ := Int.eq_ofNat_of_zero_le hp
      simp
    have hm : p.toNat % 2 ^ (i + 1) = p.toNat % 2 ^ i ^^^ ((p.toNat / 2 ^ i % 2) <<< i) := by
      apply Nat.eq_of_testBit_eq
      intro j
      rw [Nat.testBit_mod_two_pow, Nat.testBit_xor, Nat.testBit_mod_two_pow, Nat.testBit_shiftLeft]
      rcases Nat.lt_trichotomy j i with hj | hj | hj
      · simp [hj, show ¬ i ≤ j by omega, show j < i + 1 by omega]
      · subst hj
        simp [Nat.testBit_div_two_pow, ← Nat.testBit_zero, Nat.testBit_mod_two_pow]
        rw [Nat.testBit_zero, Nat.mod_mod, Nat.testBit_eq_decide_div_mod_eq]
      · have h3 : ¬ j < i := by omega
        have h4 : ¬ j < i + 1 := by omega
        have h5 : i ≤ j := by omega
        simp only [h3, h4, h5, decide_false, decide_true, Bool.false_and, Bool.true_and, Bool.false_bne]
        rw [show p.toNat / 2 ^ i % 2 = p.toNat / 2 ^ i % 2 ^ 1 by simp, Nat.testBit_mod_two_pow]
        simp; omega
    show num (nats (if p / 2 ^ i % 2 = 1 then flipZ (flipsZ l k p i) (k + i) else flipsZ l k p i)) = _ ∧ B8 (if p / 2 ^ i % 2 = 1 then flipZ (flipsZ l k p i) (k + i) else flipsZ l k p i)
    rw [hbit, hm]
    by_cases hodd : p.toNat / 2 ^ i % 2 = 1
    · rw [if_pos (by omega), hodd]
      have hi : k + i < 8 * l.length := by
        rcases Nat.lt_or_ge i (8 * l.length - k) with q | q
        · omega
        · exfalso
          have : p.toNat / 2 ^ i = 0 := by
            rw [show i = (8 * l.length - k) + (i - (8 * l.length - k)) by omega, Nat.pow_add, ← Nat.div_div_eq_div_mul, hb, Nat.zero_div]
          omega
      obtain ⟨g1, g2⟩ := flipZ_num h2 (k := k + i) (by rw [hlen]; omega)
      refine ⟨?_, g2⟩
      rw [g1, h1, shl_xor, Nat.xor_assoc, ← Nat.shiftLeft_add, Nat.add_comm i k]
    · have h0 : p.toNat / 2 ^ i % 2 = 0 := by omega
      rw [if_neg (by omega), h0, Nat.zero_shiftLeft, Nat.xor_zero]
      exact ⟨h1, h2⟩
theorem turn_num {l : List Int} (h : B8 l) {k p : Int} (hp : 0 ≤ p) (hp2 : p < 4294967296) : B8 (turnZ l k p) ∧ (turnZ l k p = l ∨ 0 ≤ k ∧ k < 8 * l.length ∧ p.toNat / 2 ^ (8 * l.length - k.toNat) = 0 ∧ num (nats (turnZ l k p)) = num (nats l) ^^^ (p.toNat <<< k.toNat)) := by
  unfold turnZ
  split
  · exact ⟨h, .inl rfl⟩
  · rename_i hc
    have h1 : 0 ≤ k := by omega
    have h2 : k < 8 * (l.length : Int) := by omega
    have h3 : p.toNat / 2 ^ (8 * l.length - k.toNat) = 0 := by
      have h3 : p / 2 ^ (8 * l.length - k.toNat) = 0 := by
        apply Classical.byContradiction
        intro q; exact hc (.inr (.inr q))
      obtain ⟨m, hm⟩ : ∃ m, m = 8 * l.length - k.toNat := ⟨_, rfl⟩
      rw [← hm] at h3 ⊢
      obtain ⟨q, rfl⟩ := Int.eq_ofNat_of_zero_le hp
      have h4 : ((q / 2 ^ m : Nat) : Int) = 0 := by rw [Int.natCast_ediv, Int.natCast_pow]; exact h3
      have h5 : q / 2 ^ m = 0 := by omega
      exact h5
    obtain ⟨g1, g2⟩ := flips_num h hp h3 (by omega) 32
    refine ⟨g2, .inr ⟨h1, h2, h3, ?_⟩⟩
    rw [g1, Nat.mod_eq_of_lt (by omega)]
theorem tells {s : List Int} (h : B8 s) {k p : Int} (hp : 0 ≤ p) (hp2 : p < 4294967296) (hs : sealedB s = true) : sealedB (turnZ s k p) = decide (turnZ s k p = s) := by
  obtain ⟨g1, g2⟩ := turn_num h (k := k) hp hp2
  rcases g2 with g2 | ⟨k0, k1, k2, g2⟩
  · rw [g2, hs]; simp
  · rcases Nat.eq_zero_or_pos p.toNat with q | q
    · have : turnZ s k p = s := by
        refine numZ_inj g1 h (turnZ_len s k p) ?_
        rw [g2, q, Nat.zero_shiftLeft, Nat.xor_zero]
      rw [this, hs]; simp
    · have h1 := told_run h g1 (turnZ_len s k p) q (by omega) (by omega) g2 hs
      rw [h1]
      symm
      rw [decide_eq_false_iff_not]
      intro e
      rw [e, hs] at h1
      cases h1

end Go.Proofs.Ytmoegiibdaomlaa.B
