import Derived.Test.YtimgdniiidcjlaaCrc
set_option linter.unusedSimpArgs false
set_option linter.unusedVariables false
set_option linter.unusedSectionVars false
set_option maxRecDepth 20000
namespace Go.Proofs.Ytimgdniiidcjlaa.Crc
open Go.Ab
/-! the sum is linear -/
def stepN (s : Nat) : Nat := if s % 2 = 0 then s / 2 else s / 2 ^^^ 2197175160
theorem stepN_xor (a b : Nat) : stepN (a ^^^ b) = stepN a ^^^ stepN b := by
  have h1 : (a ^^^ b) / 2 = a / 2 ^^^ b / 2 := by
    apply Nat.eq_of_testBit_eq; intro i
    simp [Nat.testBit_xor, Nat.testBit_div_two]
  have h2 : (a ^^^ b) % 2 = (a % 2) ^^^ (b % 2) := by
    have := Nat.xor_mod_two_pow (a := a) (b := b) (n := 1)
    simpa using this
  unfold stepN
  rw [h1, h2]
  have ha : a % 2 = 0 ∨ a % 2 = 1 := by omega
  have hb : b % 2 = 0 ∨ b % 2 = 1 := by omega
  rcases ha with ha | ha <;> rcases hb with hb | hb <;> simp only [ha, hb] <;> simp
  · rw [Nat.xor_assoc]
  · ac_rfl
  · rw [Nat.xor_assoc (a / 2), Nat.xor_comm 2197175160, Nat.xor_assoc (b / 2), Nat.xor_self, Nat.xor_zero]
theorem step_N {s : Int} (h : R32 s) : stepZ s = (stepN s.toNat : Nat) := by
  obtain ⟨h0, h1⟩ := h
  have e1 : s.fdiv 2 = s / 2 := by rw [Int.fdiv_eq_ediv_of_nonneg _ (by omega)]
  have e4 : Go.bits .and .u32 s 1 = s % 2 := by
    rw [Go.u32_and s 1 h0 h1 (by omega) (by omega)]
    have : s.toNat &&& (1 : Int).toNat = s.toNat % 2 := Nat.and_one_is_mod _
    rw [this]; omega
  unfold stepZ stepN
  rw [e1, e4]
  by_cases h : s % 2 = 0
  · rw [if_pos h, if_pos (by omega)]; omega
  · rw [if_neg h, if_neg (by omega), Go.u32_xor _ _ (by omega) (by omega) (by omega) (by omega)]
    have : (s / 2).toNat = s.toNat / 2 := by omega
    rw [this]; rfl
def itN : Nat → Nat → Nat | 0, z => z | n + 1, z => itN n (stepN z)
theorem itN_xor : ∀ (n a b : Nat), itN n (a ^^^ b) = itN n a ^^^ itN n b
  | 0, _, _ => rfl
  | n + 1, a, b => by simp only [itN, stepN_xor, itN_xor n]
theorem it_N : ∀ (n : Nat) {z : Int}, R32 z → itS n z = (itN n z.toNat : Nat)
  | 0, z, h => by simp only [itS, itN]; have := h.1; omega
  | n + 1, z, h => by
    simp only [itS, itN]
    rw [it_N n (step_eq h).2, step_N h]; rfl
def feedN (s c : Nat) : Nat := itN 8 (s ^^^ c)
theorem feed_N {s c : Int} (hs : R32 s) (hc : 0 ≤ c ∧ c < 256) : feedZ s c = (feedN s.toNat c.toNat : Nat) := by
  rw [feed_it, it_N 8 (xor_r _ _), wrap32 hc.1 (by omega), Go.u32_xor _ _ hs.1 hs.2 hc.1 (by omega)]
  rfl
def extN (s : Nat) (l : List Nat) : Nat := l.foldl feedN s
theorem ext_N : ∀ (l : List Int) {s : Int}, R32 s → (∀ c ∈ l, 0 ≤ c ∧ c < 256) → extZ s l = (extN s.toNat (l.map Int.toNat) : Nat)
  | [], s, h, _ => by have := h.1; simp only [extZ, extN, List.map_nil, List.foldl_nil]; omega
  | c :: l, s, h, hc => by
    have h1 := feed_N h (hc c (by simp))
    simp only [extZ, extN, List.map_cons, List.foldl_cons]
    rw [ext_N l (feed_eq s c).2 (fun d hd => hc d (by simp [hd])), h1]; rfl
def x3 (a b c : Nat) : Nat := a ^^^ b ^^^ c
theorem feedN_x3 (s t u a b c : Nat) : feedN (x3 s t u) (x3 a b c) = x3 (feedN s a) (feedN t b) (feedN u c) := by
  unfold feedN x3
  rw [← itN_xor, ← itN_xor]
  congr 1
  ac_rfl
theorem extN_x3 : ∀ (n : Nat) (a b c : List Nat) (s t u : Nat), a.length = n → b.length = n → c.length = n →
    extN (x3 s t u) ((List.range n).map fun i => x3 (a.getD i 0) (b.getD i 0) (c.getD i 0)) = x3 (extN s a) (extN t b) (extN u c)
  | 0, a, b, c, s, t, u, ha, hb, hc => by
    rw [List.eq_nil_of_length_eq_zero ha, List.eq_nil_of_length_eq_zero hb, List.eq_nil_of_length_eq_zero hc]; rfl
  | n + 1, a :: al, b :: bl, c :: cl, s, t, u, ha, hb, hc => by
    rw [List.range_succ_eq_map, List.map_cons, List.map_map]
    have := extN_x3 n al bl cl (feedN s a) (feedN t b) (feedN u c) (by simpa using ha) (by simpa using hb) (by simpa using hc)
    simp only [extN, List.foldl_cons, List.getD_cons_zero] at this ⊢
    rw [feedN_x3]
    exact this
  | n + 1, [], _, _, _, _, _, h, _, _ => by simp at h
  | n + 1, _ :: _, [], _, _, _, _, _, h, _ => by simp at h
  | n + 1, _ :: _, _ :: _, [], _, _, _, _, _, h => by simp at h
/-- The bytes of the three texts' sum. -/
def xb (a b c : List Int) (i : Nat) : Int := Go.bits .xor .u8 (Go.bits .xor .u8 (a.getD i 0) (b.getD i 0)) (c.getD i 0)
def xs (a b c : List Int) (n : Nat) : List Int := (List.range n).map (xb a b c)
def B8 (l : List Int) : Prop := ∀ c ∈ l, 0 ≤ c ∧ c < 256
theorem getD_B8 {l : List Int} (h : B8 l) (i : Nat) : 0 ≤ l.getD i 0 ∧ l.getD i 0 < 256 := by
  rw [List.getD_eq_getElem?_getD]
  cases hi : l[i]? with
  | none => simp
  | some c => simpa using h c (List.mem_of_getElem? hi)
theorem xb_N {a b c : List Int} (ha : B8 a) (hb : B8 b) (hc : B8 c) (i : Nat) : xb a b c i = (x3 ((a.getD i 0).toNat) ((b.getD i 0).toNat) ((c.getD i 0).toNat) : Nat) ∧ 0 ≤ xb a b c i ∧ xb a b c i < 256 := by
  obtain ⟨a1, a2⟩ := getD_B8 ha i
  obtain ⟨b1, b2⟩ := getD_B8 hb i
  obtain ⟨c1, c2⟩ := getD_B8 hc i
  have hx : (a.getD i 0).toNat ^^^ (b.getD i 0).toNat < 2 ^ 8 := Nat.xor_lt_two_pow (by omega) (by omega)
  have hy : ((a.getD i 0).toNat ^^^ (b.getD i 0).toNat) ^^^ (c.getD i 0).toNat < 2 ^ 8 := Nat.xor_lt_two_pow hx (by omega)
  unfold xb x3
  rw [Go.u8_xor _ _ a1 a2 b1 b2, Go.u8_xor _ _ (by omega) (by omega) c1 c2]
  simp only [Int.toNat_natCast]
  exact ⟨trivial, by omega, by omega⟩
theorem getD_take {l : List Int} {n i : Nat} (h : i < n) : (l.take n).getD i 0 = l.getD i 0 := by
  rw [List.getD_eq_getElem?_getD, List.getD_eq_getElem?_getD, List.getElem?_take_of_lt h]
theorem ext_x3 {a b c : List Int} (ha : B8 a) (hb : B8 b) (hc : B8 c) (n : Nat) (h1 : n ≤ a.length) (h2 : n ≤ b.length) (h3 : n ≤ c.length) :
    extZ 4294967295 (xs a b c n) = (x3 (extZ 4294967295 (a.take n)).toNat (extZ 4294967295 (b.take n)).toNat (extZ 4294967295 (c.take n)).toNat : Nat) := by
  have hr : R32 4294967295 := ⟨by omega, by omega⟩
  have sub : ∀ {l : List Int}, B8 l → B8 (l.take n) := fun h x hx => h x (List.mem_of_mem_take hx)
  rw [ext_N _ hr (fun x hx => by
    unfold xs at hx
    obtain ⟨i, _, rfl⟩ := List.mem_map.1 hx
    exact (xb_N ha hb hc i).2), ext_N _ hr (sub ha), ext_N _ hr (sub hb), ext_N _ hr (sub hc)]
  simp only [Int.toNat_natCast]
  have e : (xs a b c n).map Int.toNat = (List.range n).map fun i => x3 (((a.take n).map Int.toNat).getD i 0) (((b.take n).map Int.toNat).getD i 0) (((c.take n).map Int.toNat).getD i 0) := by
    unfold xs
    rw [List.map_map]
    refine List.map_congr_left fun i hi => ?_
    rw [List.mem_range] at hi
    have q : ∀ l : List Int, ((l.take n).map Int.toNat).getD i 0 = (l.getD i 0).toNat := by
      intro l
      rw [List.getD_eq_getElem?_getD, List.getElem?_map, List.getElem?_take_of_lt hi, List.getD_eq_getElem?_getD]
      cases l[i]? <;> rfl
    rw [q, q, q]
    show (xb a b c i).toNat = _
    rw [(xb_N ha hb hc i).1]; rfl
  have := extN_x3 n ((a.take n).map Int.toNat) ((b.take n).map Int.toNat) ((c.take n).map Int.toNat) 4294967295 4294967295 4294967295 (by simp; omega) (by simp; omega) (by simp; omega)
  have hx : x3 4294967295 4294967295 4294967295 = 4294967295 := by decide
  rw [hx, ← e] at this
  exact congrArg Int.ofNat this
theorem adds_ok {a b c : List Int} (ha : B8 a) (hb : B8 b) (hc : B8 c) (n : Nat) (h1 : n ≤ a.length) (h2 : n ≤ b.length) (h3 : n ≤ c.length) :
    sumZ 0 [xs a b c n] = Go.bits .xor .u32 (Go.bits .xor .u32 (sumZ 0 [a.take n]) (sumZ 0 [b.take n])) (sumZ 0 [c.take n]) := by
  simp only [sumZ, extendZ]
  rw [not0, ext_x3 ha hb hc n h1 h2 h3]
  have hr : R32 4294967295 := ⟨by omega, by omega⟩
  obtain ⟨a1, a2⟩ := (ext_eq (a.take n) hr).2
  obtain ⟨b1, b2⟩ := (ext_eq (b.take n) hr).2
  obtain ⟨c1, c2⟩ := (ext_eq (c.take n) hr).2
  generalize extZ 4294967295 (a.take n) = x at *
  generalize extZ 4294967295 (b.take n) = y at *
  generalize extZ 4294967295 (c.take n) = z at *
  have hxy : x.toNat ^^^ y.toNat < 2 ^ 32 := Nat.xor_lt_two_pow (by omega) (by omega)
  have hxyz : x.toNat ^^^ y.toNat ^^^ z.toNat < 2 ^ 32 := Nat.xor_lt_two_pow hxy (by omega)
  have n1 : ∀ s : Int, R32 s → notZ s = ((4294967295 ^^^ s.toNat : Nat) : Int) := by
    intro s hs
    unfold notZ
    have h2 : IntKind.u32.max = 4294967295 := rfl
    rw [h2, Go.u32_xor _ _ (by omega) (by omega) hs.1 hs.2]; rfl
  have n2 : ∀ s : Int, R32 s → 4294967295 ^^^ s.toNat < 2 ^ 32 := fun s hs => Nat.xor_lt_two_pow (by omega) (by have := hs.2; omega)
  have k1 := n2 x ⟨a1, a2⟩
  have k2 := n2 y ⟨b1, b2⟩
  have k3 := n2 z ⟨c1, c2⟩
  have k4 : (4294967295 ^^^ x.toNat) ^^^ (4294967295 ^^^ y.toNat) < 2 ^ 32 := Nat.xor_lt_two_pow k1 k2
  rw [n1 _ ⟨by omega, by unfold x3; omega⟩, n1 x ⟨a1, a2⟩, n1 y ⟨b1, b2⟩, n1 z ⟨c1, c2⟩]
  have i1 := Go.u32_xor ((4294967295 ^^^ x.toNat : Nat) : Int) ((4294967295 ^^^ y.toNat : Nat) : Int) (by omega) (by omega) (by omega) (by omega)
  simp only [Int.toNat_natCast] at i1 ⊢
  rw [i1]
  have i2 := Go.u32_xor (((4294967295 ^^^ x.toNat) ^^^ (4294967295 ^^^ y.toNat) : Nat) : Int) ((4294967295 ^^^ z.toNat : Nat) : Int) (by omega) (by omega) (by omega) (by omega)
  simp only [Int.toNat_natCast] at i2
  rw [i2]
  congr 1
  unfold x3
  have : (4294967295 ^^^ x.toNat) ^^^ (4294967295 ^^^ y.toNat) ^^^ (4294967295 ^^^ z.toNat) = (4294967295 ^^^ 4294967295) ^^^ (4294967295 ^^^ (x.toNat ^^^ y.toNat ^^^ z.toNat)) := by ac_rfl
  rw [this, Nat.xor_self, Nat.zero_xor]
def A2 : Ann := { mode := fun f d => if f == 6 && d == 19 then [.tok] else [], keep := fun _ => false, mutf := fun _ => false }
theorem A2_mode (f d : Nat) : A2.mode f d = if f == 6 && d == 19 then [.tok] else [] := rfl
theorem A2_mutf (f : Nat) : A2.mutf f = false := rfl
theorem A2_keep (f : Nat) : A2.keep f = false := rfl
attribute [local simp] A2_mode A2_mutf A2_keep
attribute [local simp] runL_nil runL_cons next_some contS_norm contS_ret contS_exit contB_some norm1_some run_region run_seq fork_true fork_false run_cond run_block run_loop run_skip run_ret run_exit opR evalOp kindOf pureV readV opd ofConst ofCell St.put Ab.put upd entryEnv binV intBin unV finish resVals resVal outAll out1 packV Ab.noref readCall target bindRes bind1 tokV rowOf srcOf oneCell Ann.md Ann.modes fullCall cA cB Ex.leave minmax demL demI demB demN
attribute [local simp] u22 u36 u5 u25 u3 z5 z22 v5 v22 g5 g22 n5 n22 f5
def xk (a b c : List Int) (n : Nat) : List V := (xs a b c n).map (.int .u8)
theorem xs_len (a b c : List Int) (n : Nat) : (xs a b c n).length = n := by simp [xs]
theorem xk_len (a b c : List Int) (n : Nat) : (xk a b c n).length = n := by simp [xk, xs_len]
theorem xk_zero (a b c : List Int) : xk a b c 0 = [] := rfl
theorem getD_at {l : List Int} {i : Nat} (h : i < l.length) : l.getD i 0 = l[i]'h := by rw [List.getD_eq_getElem?_getD, List.getElem?_eq_getElem h]; rfl
theorem xk_succ {a b c : List Int} {i : Nat} (h1 : i < a.length) (h2 : i < b.length) (h3 : i < c.length) :
    xk a b c i ++ [.int .u8 (Go.bits .xor .u8 (Go.bits .xor .u8 (a[i]'h1) (b[i]'h2)) (c[i]'h3))] = xk a b c (i + 1) := by
  unfold xk xs
  rw [List.range_succ, List.map_append, List.map_append]
  congr 1
  show _ = [V.int .u8 (xb a b c i)]
  unfold xb
  rw [getD_at h1, getD_at h2, getD_at h3]
noncomputable def O6 : Code := match Try.f6.body with | some c => cA (cA (cB (cA (cB (cB (cB (cB c))))))) | none => .skip
theorem loop6 (a b c : List Int) (n : Nat) (h1 : n ≤ a.length) (h2 : n ≤ b.length) (h3 : n ≤ c.length) (hn : n < 140737488355000) {Q : Ex → St → Prop} : ∀ (k i : Nat) (s : St), i + k = n → (n = 0 ∨ (s.env 0 = bytes a ∧ s.env 1 = bytes b ∧ s.env 2 = bytes c)) → s.env 7 = .int .i64 n → s.env 9 = .int .i64 i → s.env 8 = .lst (.tok 0 1) (xk a b c i) i → s.toks = [i] → s.objs = [] → s.low = 0 →
    (∀ s', s'.env 8 = .lst (.tok 0 1) (xk a b c n) n → s'.env 7 = .int .i64 n → s'.env 0 = s.env 0 → s'.env 1 = s.env 1 → s'.env 2 = s.env 2 → s'.toks = [n] → s'.objs = [] → s'.low = 0 → Q (.exit 0) s') → To Try.prog A2 T7 6 0 (.loop O6) s Q := by
  intro k
  induction k with
  | zero =>
    intro i s hi hv h7 h9 h8 ht ho hw hQ
    have hi : i = n := by omega
    subst hi
    refine To.loop (.run 10 ?_)
    unfold O6 Try.f6
    simp [h7, h9]
    apply hQ <;> simp [h7, h8, ht, ho, hw]
  | succ k ih =>
    intro i s hi hv h7 h9 h8 ht ho hlo hQ
    have hlt : (i : Int) < n := by omega
    obtain ⟨e0, e1, e2⟩ := hv.resolve_left (by omega)
    have hw := wrap_nat (i := i) (by omega)
    have i0 := index_b (l := a.map (.int .u8)) (k := .frozen) (n := a.length) (i := (i : Int)) (by omega) (by omega)
    have i1 := index_b (l := b.map (.int .u8)) (k := .frozen) (n := b.length) (i := (i : Int)) (by omega) (by omega)
    have i2 := index_b (l := c.map (.int .u8)) (k := .frozen) (n := c.length) (i := (i : Int)) (by omega) (by omega)
    simp only [Int.toNat_natCast] at i0 i1 i2
    have g0 := get_b (l := a) (i := i) (by omega)
    have g1 := get_b (l := b) (i := i) (by omega)
    have g2 := get_b (l := c) (i := i) (by omega)
    have x1 := xk_len a b c i
    have x2 := xk_succ (a := a) (b := b) (c := c) (i := i) (by omega) (by omega) (by omega)
    have x3 : i + 1 < 140737488355328 := by omega
    refine To.loop (To.mono (Q := fun e s1 => e = .norm ∧ (s1.env 0 = s.env 0 ∧ s1.env 1 = s.env 1 ∧ s1.env 2 = s.env 2 ∧ s1.env 7 = .int .i64 n ∧ s1.env 9 = .int .i64 (i + 1 : Nat) ∧ s1.env 8 = .lst (.tok 0 1) (xk a b c (i + 1)) (i + 1) ∧ s1.toks = [i + 1] ∧ s1.objs = [] ∧ s1.low = 0)) (.run 14 ?_) ?_)
    · unfold O6 Try.f6
      simp -implicitDefEqProofs [e0, e1, e2, h7, h9, h8, hlt, bytes, i0, i1, i2, g0, g1, g2, one_lit, ht, x1, x2, x3, hw, ho, hlo]
    · rintro e s1 ⟨rfl, q1, q2, q3, q4, q5, q6, q7, q8, q9⟩
      refine ih (i + 1) s1 (by omega) (.inr ⟨q1.trans e0, q2.trans e1, q3.trans e2⟩) q4 q5 q6 q7 q8 q9 fun s2 r1 r2 r3 r4 r5 r6 r7 r8 => hQ s2 r1 r2 (r3.trans q1) (r4.trans q2) (r5.trans q3) r6 r7 r8
theorem shape {v : V} {l : List Int} (h : ofB v = some l) : (v = .lst .frozen (l.map (.int .u8)) l.length) ∨ (v = .nils ∧ l = []) := ofB_inv h
theorem cut_any {v : V} {l : List Int} {n : Nat} (h : ofB v = some l) (hn : n ≤ l.length) : ∃ w, sliceV Try.prog 22 v none (some (.int .i64 (n : Int))) none = some w ∧ ofB w = some (l.take n) ∧ demote w = w ∧ listV Try.prog 36 1 [(0, w)] = some ([w], 1) := by
  rcases ofB_inv h with rfl | ⟨rfl, rfl⟩
  · refine ⟨bytes (l.take n), ?_, by simp, rfl, lit_1 _⟩
    simp [sliceV, boundV, bytes, hn]
  · have : n = 0 := by simpa using hn
    subst this
    exact ⟨.nils, by simp [sliceV, boundV], by simp, rfl, part_lit _ rfl rfl⟩
theorem adds_in {a b c : List Int} {va vb vc : V} (ha : ofB va = some a) (hb : ofB vb = some b) (hc : ofB vc = some c) (la : a.length < 140737488355000) (lb : b.length < 140737488355000) (lc : c.length < 140737488355000) (ba : B8 a) (bb : B8 b) (bc : B8 c) :
    Go.Ab.Ends Try.prog A2 T7 6 Try.f6 [va, vb, vc] [] (.bool true, none) := by
  have e7 := T7_7
  obtain ⟨n, hn, n1, n2, n3⟩ : ∃ n : Nat, n = min (min a.length b.length) c.length ∧ n ≤ a.length ∧ n ≤ b.length ∧ n ≤ c.length := ⟨_, rfl, by omega, by omega, by omega⟩
  have n4 : n < 140737488355000 := by omega
  refine .to rfl (.seq (.run 5 ?_))
  simp
  refine .seq (.seq (.run 5 ?_))
  simp [e7]
  refine .run 5 ?_
  simp
  refine .seq (.mono (.run 10 (Q := fun e s1 => e = .norm ∧ s1.toks = [] ∧ s1.objs = [] ∧ s1.low = 0 ∧ s1.env 0 = va ∧ s1.env 1 = vb ∧ s1.env 2 = vc ∧ s1.env 7 = .int .i64 n) ?_) ?_)
  · rcases shape ha with eA | ⟨eA, rA⟩ <;> rcases shape hb with eB | ⟨eB, rB⟩ <;> rcases shape hc with eC | ⟨eC, rC⟩ <;> (simp -implicitDefEqProofs [eA, eB, eC]) <;> first | done | (have z : ([] : List Int).length = 0 := rfl; (try subst rA); (try subst rB); (try subst rC); (repeat' split) <;> omega)
  · rintro e s1 ⟨rfl, t1, t2, t3, k0, k1, k2, k7⟩
    simp only [Ex.andThen_norm]
    refine .seq (.run 5 ?_)
    simp -implicitDefEqProofs [t1, t2, t3, no_lit]
    refine .seq (.seq (.run 5 ?_))
    simp
    refine .block (loop6 a b c n n1 n2 n3 n4 n 0 _ (by omega) ?_ (by simpa using k7) rfl rfl rfl rfl rfl fun s' q8 q7 q0 q1 q2 qt qo ql => ?_)
    · simp [k0, k1, k2]
      rcases shape ha with eA | ⟨eA, rA⟩
      · rcases shape hb with eB | ⟨eB, rB⟩
        · rcases shape hc with eC | ⟨eC, rC⟩
          · exact .inr ⟨eA, eB, eC⟩
          · left; subst rC; simp at n3; exact n3
        · left; subst rB; simp at n2; exact n2
      · left; subst rA; simp at n1; exact n1
    · simp only [Ex.leave, if_true, Ex.andThen_norm]
      simp at q0 q1 q2
      rw [k0] at q0; rw [k1] at q1; rw [k2] at q2
      obtain ⟨wa, sA, oA, dA, pA⟩ := cut_any ha n1
      obtain ⟨wb, sB, oB, dB, pB⟩ := cut_any hb n2
      obtain ⟨wc, sC, oC, dC, pC⟩ := cut_any hc n3
      have yA := T7_10 [wa] [a.take n] 1 (by simp [ofP, oA]) rfl (by simp) (by simp; omega)
      have yB := T7_10 [wb] [b.take n] 1 (by simp [ofP, oB]) rfl (by simp) (by simp; omega)
      have yC := T7_10 [wc] [c.take n] 1 (by simp [ofP, oC]) rfl (by simp) (by simp; omega)
      have oX : ofB (.lst .frozen (xk a b c n) n) = some (xs a b c n) := by
        have : V.lst .frozen (xk a b c n) n = bytes (xs a b c n) := by rw [bytes, xs_len, xk]
        rw [this, ofB_bytes]
      have pX := part_lit (.lst .frozen (xk a b c n) n) rfl rfl
      have yX := T7_10 [.lst .frozen (xk a b c n) n] [xs a b c n] 1 (by simp [ofP, oX]) rfl (by simp) (by simp [xs_len]; omega)
      rw [adds_ok ba bb bc n n1 n2 n3] at yX
      refine .run 12 ?_
      rcases shape ha with eA | ⟨eA, rA⟩ <;> rcases shape hb with eB | ⟨eB, rB⟩ <;> rcases shape hc with eC | ⟨eC, rC⟩ <;> (rw [eA] at sA; rw [eB] at sB; rw [eC] at sC; simp -implicitDefEqProofs [q0, q1, q2, q7, q8, qt, qo, ql, eA, eB, eC, sA, sB, sC, dA, dB, dC, pA, pB, pC, pX, yA, yB, yC, yX, Try.f6]) <;> ((try subst rA); (try subst rB); (try subst rC); simp only [List.take_nil])
def b8 (l : List Int) : Bool := l.all fun c => decide (0 ≤ c ∧ c < 256)
theorem b8_B8 {l : List Int} (h : b8 l = true) : B8 l := by
  intro c hc
  unfold b8 at h
  rw [List.all_eq_true] at h
  simpa using h c hc
def c6 : Ab.Spec := fun args objs => match args, objs with
  | [va, vb, vc], [] => (match ofB va, ofB vb, ofB vc with
    | some a, some b, some c => if (a.length < 140737488355000 ∧ b.length < 140737488355000 ∧ c.length < 140737488355000) ∧ b8 a = true ∧ b8 b = true ∧ b8 c = true then some (.bool true, none) else none
    | _, _, _ => none)
  | _, _ => none
def T6 : CallF := withF T7 6 c6
theorem T6_ok : CallOk Try.prog T6 := con_of (A := A2) fit T7_ok (fn := Try.f6) (by kernel_rfl) (by kernel_rfl) (by
  intro args objs r h
  unfold c6 at h
  split at h
  case h_2 => cases h
  rename_i va vb vc
  split at h
  case h_2 => cases h
  rename_i a b c ha hb hc
  split at h <;> cases h
  rename_i hl
  obtain ⟨⟨l1, l2, l3⟩, b1, b2, b3⟩ := hl
  exact adds_in ha hb hc l1 l2 l3 (b8_B8 b1) (b8_B8 b2) (b8_B8 b3))
theorem bytes_in8 {W : World} {a : Option Addr} {len cap : Nat} {z : List Int} (w0 : (a = none ∧ len = 0 ∧ cap = 0 ∧ z = []) ∨ ∃ x, a = some x ∧ len ≤ cap ∧ cap ≤ Go.maxLen ∧ z.length = cap ∧ (∀ i, i < z.length → W.cell? (x.add i) = some (.int .u8 (z.getD i 0))) ∧ ∀ n ∈ z, (Lit.int .u8 n).wf = true) :
    ∃ v l, ofB v = some l ∧ l.length = len ∧ b8 l = true ∧ VR (Go.Ab.top W) W v (.slice a len cap) ∧ (∀ k cs n, v = .lst k cs n → k = .frozen) ∧ ∀ vs, v ≠ .tup vs := by
  rcases w0 with ⟨rfl, rfl, rfl, rfl⟩ | ⟨x, rfl, hl, hm, hz, hc, hw⟩
  · exact ⟨.nils, [], rfl, rfl, rfl, .nils, by simp, by simp⟩
  · have hlen : (z.take len).length = len := by rw [List.length_take]; omega
    refine ⟨bytes (z.take len), z.take len, by simp, hlen, ?_, ?_, by intro k cs n h; cases h; rfl, by intro vs h; cases h⟩
    · unfold b8
      rw [List.all_eq_true]
      intro c hc'
      have := hw c (List.mem_of_mem_take hc')
      have q : (Lit.int .u8 c).wf = (decide (IntKind.u8.min ≤ c) && decide (c ≤ IntKind.u8.max)) := by rfl
      rw [q] at this
      have e1 : IntKind.u8.min = 0 := rfl
      have e2 : IntKind.u8.max = 255 := rfl
      rw [e1, e2] at this
      simp at this ⊢
      omega
    · unfold bytes
      rw [hlen]
      refine .lst (fun j => .int .u8 (z.getD j 0)) hl (fun j hj => ?_) (fun j hj => ?_) (fun j hj => ?_)
      · rw [List.length_map, hlen] at hj
        exact cell_lt (hc j (by omega))
      · rw [List.length_map, hlen] at hj
        exact hc j (by omega)
      · have hj' : j < len := by rw [List.length_map, hlen] at hj; exact hj
        rw [List.getElem_map, List.getElem_take, List.getD_eq_getElem?_getD, List.getElem?_eq_getElem (by omega), Option.getD_some]
        exact .int
/-- What is asked of a slice of bytes that is handed in. -/
def Row8 (W : World) (a : Option Addr) (len cap : Nat) (z : List Int) : Prop := (a = none ∧ len = 0 ∧ cap = 0 ∧ z = []) ∨ ∃ x, a = some x ∧ len ≤ cap ∧ cap ≤ Go.maxLen ∧ z.length = cap ∧ (∀ i, i < z.length → W.cell? (x.add i) = some (.int .u8 (z.getD i 0))) ∧ ∀ n ∈ z, (Lit.int .u8 n).wf = true
theorem crcAdds_walk (a0 : Option Addr) (len0 cap0 : Nat) (z0 : List Int) (a1 : Option Addr) (len1 cap1 : Nat) (z1 : List Int) (a2 : Option Addr) (len2 cap2 : Nat) (z2 : List Int) (W : World) (w0 : Row8 W a0 len0 cap0 z0) (w1 : Row8 W a1 len1 cap1 z1) (w2 : Row8 W a2 len2 cap2 z2)
    (y0 : len0 * 1 ≤ 140737488351232) (y1 : len1 * 1 ≤ 140737488351232) (y2 : len2 * 1 ≤ 140737488351232) : Calls Try.prog 6 #[.slice a0 len0 cap0, .slice a1 len1 cap1, .slice a2 len2 cap2] W fun e w' => e = .returned (.bool true) ∧ Go.RowKit.Below W.heap.size W w' := by
  obtain ⟨va, la, h1, h2, h6, h3, h4, h5⟩ := bytes_in8 w0
  obtain ⟨vb, lb, i1, i2, i6, i3, i4, i5⟩ := bytes_in8 w1
  obtain ⟨vc, lc, j1, j2, j6, j3, j4, j5⟩ := bytes_in8 w2
  refine whole fit T6_ok (fn := Try.f6) (args := [va, vb, vc]) (by kernel_rfl) (by kernel_rfl) ?_ ?_
  · show c6 [va, vb, vc] [] = _
    simp only [c6, h1, i1, j1]
    rw [if_pos ⟨⟨by omega, by omega, by omega⟩, h6, i6, j6⟩]
  · exact .one h3 h4 h5 (.one i3 i4 i5 (.one j3 j4 j5 trivial))
end Go.Proofs.Ytimgdniiidcjlaa.Crc
