import Derived.Test.YtiaihiccaoibgaaDoorKyB
set_option linter.unusedSimpArgs false
set_option linter.unusedVariables false
set_option linter.unusedSectionVars false
set_option maxRecDepth 20000
set_option maxHeartbeats 1000000
namespace Go.Proofs.YtiaihiccaoibgaaDoor.B
open Go Go.Ab
/-! the order of keys' bytes -/
theorem divs_div : ∀ (n : Nat) {u : Int}, 0 ≤ u → u < 18446744073709551616 → divs n u = u / 256 ^ n
  | 0, u, _, _ => by show u = u / 1; omega
  | n + 1, u, h0, h1 => by
    have ih := divs_div n h0 h1
    have hb := divs_nn (n := n) h0 h1
    show IntKind.u64.wrap ((divs n u).tdiv 256) = _
    rw [Int.tdiv_eq_ediv_of_nonneg hb.1, wrap_u64 (by omega) (by omega), ih, Int.ediv_ediv_of_nonneg (Int.le_of_lt (Int.pow_pos (by decide))), Int.pow_succ]
theorem pow_split {u : Int} (n : Nat) : u % 256 ^ (n + 1) = (u / 256 ^ n % 256) * 256 ^ n + u % 256 ^ n := by
  have hp : (0 : Int) < 256 ^ n := Int.pow_pos (by decide)
  rw [Int.pow_succ]
  obtain ⟨p, hp'⟩ : ∃ p, p = (256 : Int) ^ n := ⟨_, rfl⟩
  rw [← hp'] at hp ⊢
  obtain ⟨q, hq⟩ : ∃ q, q = u / p := ⟨_, rfl⟩
  have h1 := Int.mul_ediv_add_emod u p
  have r0 := Int.emod_nonneg u (b := p) (by omega)
  have r1 := Int.emod_lt_of_pos u hp
  rw [← hq] at h1 ⊢
  obtain ⟨r, hr⟩ : ∃ r, r = u % p := ⟨_, rfl⟩
  rw [← hr] at h1 r0 r1 ⊢
  have h2 := Int.mul_ediv_add_emod q 256
  obtain ⟨b, hb⟩ : ∃ b, b = q % 256 := ⟨_, rfl⟩
  have b0 := Int.emod_nonneg q (b := 256) (by decide)
  have b1 := Int.emod_lt_of_pos q (b := 256) (by decide)
  rw [← hb] at h2 b0 b1 ⊢
  have e : u = (b * p + r) + p * 256 * (q / 256) := by
    rw [← h1, ← h2]
    have e1 : p * (256 * (q / 256) + b) = p * 256 * (q / 256) + p * b := by rw [Int.mul_add, Int.mul_assoc]
    rw [e1, Int.mul_comm p b]
    have : (256 * (q / 256) + b) / 256 = q / 256 := by omega
    rw [this]; omega
  have hbp : b * p ≤ 255 * p := Int.mul_le_mul_of_nonneg_right (by omega) (by omega)
  have hbp0 : 0 ≤ b * p := Int.mul_nonneg b0 (by omega)
  have e2 : u % (p * 256) = ((b * p + r) + p * 256 * (q / 256)) % (p * 256) := by rw [← e]
  rw [e2, Int.add_mul_emod_self_left, Int.emod_eq_of_lt (by omega) (by omega)]
theorem beZ_cmp : ∀ (n : Nat) {u v : Int} (_ : 0 ≤ u) (_ : u < 18446744073709551616) (_ : 0 ≤ v) (_ : v < 18446744073709551616) (s t : List Int),
    cmpZ (beZ n u ++ s) (beZ n v ++ t) = if u % 256 ^ n < v % 256 ^ n then -1 else if v % 256 ^ n < u % 256 ^ n then 1 else cmpZ s t
  | 0, u, v, _, _, _, _, s, t => by
    show cmpZ s t = _
    have h1 : u % 256 ^ 0 = 0 := Int.emod_one u
    have h2 : v % 256 ^ 0 = 0 := Int.emod_one v
    rw [h1, h2, if_neg (by omega), if_neg (by omega)]
  | n + 1, u, v, h0, h1, h2, h3, s, t => by
    have ih := beZ_cmp n h0 h1 h2 h3 s t
    have hu := divs_nn (n := n) h0 h1
    have hv := divs_nn (n := n) h2 h3
    rw [beZ_succ, beZ_succ, List.cons_append, List.cons_append, cmpZ_cons, ih, wrap_tmod hu.1, wrap_tmod hv.1, wrapU8, wrapU8, divs_div n h0 h1, divs_div n h2 h3, pow_split n, pow_split n]
    have hp : (0 : Int) < 256 ^ n := Int.pow_pos (by decide)
    obtain ⟨a, ha⟩ : ∃ a, a = u / 256 ^ n % 256 := ⟨_, rfl⟩
    obtain ⟨b, hb⟩ : ∃ b, b = v / 256 ^ n % 256 := ⟨_, rfl⟩
    obtain ⟨p, hp'⟩ : ∃ p, p = (256 : Int) ^ n := ⟨_, rfl⟩
    have c0 := Int.emod_nonneg u (b := 256 ^ n) (by omega)
    have c1 := Int.emod_lt_of_pos u hp
    have d0 := Int.emod_nonneg v (b := 256 ^ n) (by omega)
    have d1 := Int.emod_lt_of_pos v hp
    rw [← ha, ← hb]
    rw [← hp'] at c0 c1 d0 d1 hp ⊢
    obtain ⟨c, hc⟩ : ∃ c, c = u % p := ⟨_, rfl⟩
    obtain ⟨d, hd⟩ : ∃ d, d = v % p := ⟨_, rfl⟩
    rw [← hc] at c0 c1 ⊢
    rw [← hd] at d0 d1 ⊢
    have lt : ∀ {x y e f : Int}, x < y → 0 ≤ e → e < p → 0 ≤ f → x * p + e < y * p + f := fun {x y e f} h _ h2 h3 => by
      have h4 : (x + 1) * p ≤ y * p := Int.mul_le_mul_of_nonneg_right h (by omega)
      rw [Int.add_mul, Int.one_mul] at h4
      omega
    by_cases q1 : a < b
    · rw [if_pos q1, if_pos (lt q1 c0 c1 d0)]
    · by_cases q2 : b < a
      · have := lt q2 d0 d1 c0
        rw [if_neg q1, if_pos q2, if_neg (by omega), if_pos this]
      · obtain rfl : a = b := by omega
        rw [if_neg q1, if_neg q1]
        by_cases q3 : c < d
        · rw [if_pos q3, if_pos (by omega)]
        · by_cases q4 : d < c
          · rw [if_neg q3, if_pos q4, if_neg (by omega), if_pos (by omega)]
          · rw [if_neg q3, if_neg q4, if_neg (by omega), if_neg (by omega)]
def zif (r c : Int) : Int := if r = 0 then c else r
theorem cmp7 : ∀ {l m : List Int} (_ : ∀ c ∈ l, 0 < c) (_ : ∀ c ∈ m, 0 < c) (s t : List Int), cmpZ (l ++ 0 :: s) (m ++ 0 :: t) = zif (cmpZ l m) (cmpZ s t)
  | [], [], _, _, s, t => by
    show cmpZ (0 :: s) (0 :: t) = _
    rw [cmpZ_cons, if_neg (by omega), if_neg (by omega)]; rfl
  | [], y :: m, _, h2, s, t => by
    have := h2 y (by simp)
    show cmpZ (0 :: s) (y :: (m ++ 0 :: t)) = _
    rw [cmpZ_cons, if_pos this]; rfl
  | x :: l, [], h1, _, s, t => by
    have := h1 x (by simp)
    show cmpZ (x :: (l ++ 0 :: s)) (0 :: t) = _
    rw [cmpZ_cons, if_neg (by omega), if_pos this]; rfl
  | x :: l, y :: m, h1, h2, s, t => by
    have ih := cmp7 (l := l) (m := m) (fun c hc => h1 c (by simp [hc])) (fun c hc => h2 c (by simp [hc])) s t
    show cmpZ (x :: (l ++ 0 :: s)) (y :: (m ++ 0 :: t)) = _
    rw [cmpZ_cons, cmpZ_cons, ih]
    by_cases q1 : x < y
    · rw [if_pos q1, if_pos q1]; rfl
    · by_cases q2 : y < x
      · rw [if_neg q1, if_pos q2, if_neg q1, if_pos q2]; rfl
      · rw [if_neg q1, if_neg q2, if_neg q1, if_neg q2]
theorem cmp8 : ∀ {l m : List Int} (_ : ∀ c ∈ l, 0 ≤ c) (_ : ∀ c ∈ m, 0 ≤ c) (s t : List Int), cmpZ (l.flatMap esc ++ 0 :: 0 :: s) (m.flatMap esc ++ 0 :: 0 :: t) = zif (cmpZ l m) (cmpZ s t)
  | [], [], _, _, s, t => by
    show cmpZ (0 :: 0 :: s) (0 :: 0 :: t) = _
    rw [cmpZ_cons, if_neg (by omega), if_neg (by omega), cmpZ_cons, if_neg (by omega), if_neg (by omega)]; rfl
  | [], y :: m, _, h2, s, t => by
    have := h2 y (by simp)
    rw [List.flatMap_cons, List.append_assoc]
    show cmpZ (0 :: 0 :: s) _ = _
    unfold esc
    by_cases hy : y = 0
    · rw [if_pos hy]
      show cmpZ (0 :: 0 :: s) (0 :: 255 :: _) = _
      rw [cmpZ_cons, if_neg (by omega), if_neg (by omega), cmpZ_cons, if_pos (by omega)]; rfl
    · rw [if_neg hy]
      show cmpZ (0 :: 0 :: s) (y :: _) = _
      rw [cmpZ_cons, if_pos (by omega)]; rfl
  | x :: l, [], h1, _, s, t => by
    have := h1 x (by simp)
    rw [List.flatMap_cons, List.append_assoc]
    show cmpZ _ (0 :: 0 :: t) = _
    unfold esc
    by_cases hx : x = 0
    · rw [if_pos hx]
      show cmpZ (0 :: 255 :: _) (0 :: 0 :: t) = _
      rw [cmpZ_cons, if_neg (by omega), if_neg (by omega), cmpZ_cons, if_neg (by omega), if_pos (by omega)]; rfl
    · rw [if_neg hx]
      show cmpZ (x :: _) (0 :: 0 :: t) = _
      rw [cmpZ_cons, if_neg (by omega), if_pos (by omega)]; rfl
  | x :: l, y :: m, h1, h2, s, t => by
    have hx := h1 x (by simp)
    have hy := h2 y (by simp)
    have ih := cmp8 (l := l) (m := m) (fun c hc => h1 c (by simp [hc])) (fun c hc => h2 c (by simp [hc])) s t
    rw [List.flatMap_cons, List.append_assoc, List.flatMap_cons, List.append_assoc, cmpZ_cons]
    by_cases hx0 : x = 0
    · subst hx0
      by_cases hy0 : y = 0
      · subst hy0
        show cmpZ (0 :: 255 :: (l.flatMap esc ++ 0 :: 0 :: s)) (0 :: 255 :: (m.flatMap esc ++ 0 :: 0 :: t)) = _
        rw [cmpZ_cons, if_neg (by omega), if_neg (by omega), cmpZ_cons, if_neg (by omega), if_neg (by omega), ih, if_neg (by omega), if_neg (by omega)]
      · have e : esc y = [y] := if_neg hy0
        rw [e]
        show cmpZ (0 :: 255 :: _) (y :: _) = _
        rw [cmpZ_cons, if_pos (by omega), if_pos (by omega)]; rfl
    · have e : esc x = [x] := if_neg hx0
      rw [e]
      by_cases hy0 : y = 0
      · subst hy0
        show cmpZ (x :: _) (0 :: 255 :: _) = _
        rw [cmpZ_cons, if_neg (by omega), if_pos (by omega), if_neg (by omega), if_pos (by omega)]; rfl
      · have e2 : esc y = [y] := if_neg hy0
        rw [e2]
        show cmpZ (x :: (l.flatMap esc ++ 0 :: 0 :: s)) (y :: (m.flatMap esc ++ 0 :: 0 :: t)) = _
        rw [cmpZ_cons, ih]
        by_cases q1 : x < y
        · rw [if_pos q1, if_pos q1]; rfl
        · by_cases q2 : y < x
          · rw [if_neg q1, if_pos q2, if_neg q1, if_pos q2]; rfl
          · rw [if_neg q1, if_neg q2, if_neg q1, if_neg q2]
theorem textR_zero {l : List Int} (h : textR 7 l = 0) : (0 : Int) ∉ l := by
  unfold textR at h
  split at h
  · cases h
  split at h
  · cases h
  · rename_i q
    intro hm
    exact q ⟨rfl, by unfold zeroIn; rw [List.contains_iff_mem]; exact hm⟩
theorem kput_cmp {k i1 i2 : Int} {n1 n2 : Bool} {l1 l2 : List Int} (h1 : checkR k false n1 i1 l1 = 0) (h2 : checkR k false n2 i2 l2 = 0) (hi1 : i64B i1 = true) (hi2 : i64B i2 = true) (hb1 : b8 l1 = true) (hb2 : b8 l2 = true) (s t : List Int) :
    cmpZ (kput k i1 l1 ++ s) (kput k i2 l2 ++ t) = zif (rankZ n1 i1 l1 n2 i2 l2) (cmpZ s t) := by
  obtain ⟨rfl, k1, k8, a6, a7, -⟩ := chk_key h1
  obtain ⟨rfl, -, -, c6, c7, -⟩ := chk_key h2
  have hr : rankZ false i1 l1 false i2 l2 = if i1 < i2 then -1 else if i2 < i1 then 1 else cmpZ l1 l2 := rfl
  rw [hr]
  by_cases k6 : k ≤ 6
  · obtain ⟨hh1, rfl⟩ := a6 k6
    obtain ⟨hh2, rfl⟩ := c6 k6
    obtain ⟨-, -, -, -, -, u0, u1⟩ := knum_fact hi1 k1 k6 hh1
    obtain ⟨-, -, -, -, -, v0, v1⟩ := knum_fact hi2 k1 k6 hh2
    obtain ⟨n1, n8⟩ := ksize_pos ⟨k1, k6⟩
    have hle : (ksize k).toNat ≤ 8 := by omega
    have hp := Nat.pow_le_pow_right (show 0 < 256 by decide) hle
    have e : ((256 : Int) ^ (ksize k).toNat) = ((256 ^ (ksize k).toNat : Nat) : Int) := by simp
    have d1 : kuZ k i1 < kuZ k i2 ↔ i1 < i2 := by unfold kuZ; split <;> omega
    have d2 : kuZ k i2 < kuZ k i1 ↔ i2 < i1 := by unfold kuZ; split <;> omega
    unfold kput
    rw [if_pos k6, if_pos k6, beZ_cmp _ u0 (by rw [e] at u1; omega) v0 (by rw [e] at v1; omega), Int.emod_eq_of_lt u0 u1, Int.emod_eq_of_lt v0 v1]
    simp only [d1, d2]
    by_cases q1 : i1 < i2
    · rw [if_pos q1, if_pos q1]; rfl
    · by_cases q2 : i2 < i1
      · rw [if_neg q1, if_pos q2, if_neg q1, if_pos q2]; rfl
      · rw [if_neg q1, if_neg q2, if_neg q1, if_neg q2]; rfl
  · obtain ⟨rfl, t1⟩ := a7 (by omega)
    obtain ⟨rfl, t2⟩ := c7 (by omega)
    rw [if_neg (by omega), if_neg (by omega)]
    have g1 := b8_iff.1 hb1
    have g2 := b8_iff.1 hb2
    unfold kput
    rw [if_neg k6, if_neg k6]
    by_cases hk : k = 7
    · subst hk
      rw [if_pos rfl, if_pos rfl, List.append_assoc, List.append_assoc]
      have z1 := textR_zero t1
      have z2 := textR_zero t2
      exact cmp7 (fun c hc => by have := g1 c hc; rcases Int.lt_or_eq_of_le this.1 with q | q; exact q; exact absurd (q ▸ hc) z1) (fun c hc => by have := g2 c hc; rcases Int.lt_or_eq_of_le this.1 with q | q; exact q; exact absurd (q ▸ hc) z2) s t
    · rw [if_neg hk, if_neg hk, List.append_assoc, List.append_assoc]
      exact cmp8 (fun c hc => (g1 c hc).1) (fun c hc => (g2 c hc).1) s t
theorem firstE_snoc {f : Nat → Int} : ∀ (n i : Nat), firstE f (n + 1) i = zif (firstE f n i) (f (i + n))
  | 0, i => by
    show (if f i = 0 then 0 else f i) = zif 0 (f (i + 0))
    unfold zif
    split
    · rename_i h; rw [if_pos rfl]; exact h.symm
    · rw [if_pos rfl]; rfl
  | n + 1, i => by
    have ih := firstE_snoc (f := f) n (i + 1)
    show (if f i = 0 then firstE f (n + 1) (i + 1) else f i) = zif (if f i = 0 then firstE f n (i + 1) else f i) (f (i + (n + 1)))
    split
    · rw [ih, show i + 1 + n = i + (n + 1) by omega]
    · rename_i h; unfold zif; rw [if_neg h]
/-- The first cells decide; behind them what is left does. -/
theorem enc_cmp {objs : List AO} {cols : List Co} {a b : List Ce} : ∀ (m : Nat) (_ : ∀ i, i < m → chkK objs (nth cols i) (nth a i) = 0 ∧ ceOk objs (nth a i) = true) (_ : ∀ i, i < m → chkK objs (nth cols i) (nth b i) = 0 ∧ ceOk objs (nth b i) = true) (s t : List Int),
    cmpZ (catZ (encF objs cols a) m ++ s) (catZ (encF objs cols b) m ++ t) = zif (firstE (fun i => rankC objs (nth a i) (nth b i)) m 0) (cmpZ s t)
  | 0, _, _, s, t => rfl
  | m + 1, h1, h2, s, t => by
    have ih := enc_cmp m (fun i hi => h1 i (by omega)) (fun i hi => h2 i (by omega)) (encF objs cols a m ++ s) (encF objs cols b m ++ t)
    rw [catZ_succ, catZ_succ, List.append_assoc, List.append_assoc, ih, firstE_snoc]
    obtain ⟨a1, a2⟩ := h1 m (by omega)
    obtain ⟨b1, b2⟩ := h2 m (by omega)
    obtain ⟨x1, x2, x3, x4⟩ := ceOk_inv a2
    obtain ⟨y1, y2, y3, y4⟩ := ceOk_inv b2
    have hk : cmpZ (encF objs cols a m ++ s) (encF objs cols b m ++ t) = zif (rankC objs (nth a m) (nth b m)) (cmpZ s t) := kput_cmp a1 b1 x1 y1 x3 y3 s t
    rw [hk, show 0 + m = m by omega]
    unfold zif
    split
    · rfl
    · rename_i h; rfl

end Go.Proofs.YtiaihiccaoibgaaDoor.B
set_option maxRecDepth 20000
set_option maxHeartbeats 1000000
namespace Go.Proofs.YtiaihiccaoibgaaDoor.B
open Go Go.Ab
theorem rankR_old {objs O : List AO} {a b : List Ce} {n : Nat} (h1 : ∀ i, i < a.length → ceOk objs (nth a i) = true) (h2 : ∀ i, i < b.length → ceOk objs (nth b i) = true) (ho : Old objs O) : rankR O a b n = rankR objs a b n := by
  unfold rankR
  refine firstE_congr fun j _ hj => ?_
  show rankZ _ _ _ _ _ _ = rankZ _ _ _ _ _ _
  rw [(ce_old (h1 j (by omega)) ho).2, (ce_old (h2 j (by omega)) ho).2]
theorem zif_zero (r : Int) : zif r 0 = r := by unfold zif; split <;> omega
theorem enc_order {objs : List AO} {cols : List Co} {K : Int} {a b : List Ce} (ha : encE objs cols K a = 0) (hb : encE objs cols K b = 0) (h1 : ∀ i, i < a.length → ceOk objs (nth a i) = true) (h2 : ∀ i, i < b.length → ceOk objs (nth b i) = true) (hn : a.length = b.length) :
    cmpZ (encZ objs cols a) (encZ objs cols b) = rankR objs a b a.length := by
  obtain ⟨-, -, -, c1⟩ := encE_zero ha
  obtain ⟨-, -, -, c2⟩ := encE_zero hb
  have h := enc_cmp (objs := objs) (cols := cols) (a := a) (b := b) a.length (fun i hi => ⟨c1 i hi, h1 i hi⟩) (fun i hi => ⟨c2 i (by omega), h2 i (by omega)⟩) [] []
  rw [List.append_nil, List.append_nil] at h
  unfold encZ rankR
  rw [← hn, h, Nat.min_self, Nat.min_self]
  exact zif_zero _
noncomputable def k_KeysOrder : Ab.Spec := con3 some some some fun s w u objs => match objs with
  | [] => match schD [] s, rowR [] w, rowR [] u with
    | some _, some a, some b => bnd a.length 140737488355328 (bnd b.length 140737488355328 (some (.bool true, none)))
    | _, _, _ => none
  | _ => none
noncomputable def T_KeysOrder : CallF := withF T_KeysBounds 7 k_KeysOrder
theorem T_KeysOrder_ok : CallOk Tryd.prog T_KeysOrder := con_of (A := annOf [] [] [] false []) fit T_KeysBounds_ok (fn := Tryd.f7) (by kernel_rfl) (by kernel_rfl) (by
  intro args objs r h0
  have c_aliveA : ∀ a o, T_KeysBounds 10 a o = k_aliveA a o := fun _ _ => rfl
  have c_Enc : ∀ a o, T_KeysBounds 13 a o = k_Enc a o := fun _ _ => rfl
  have c_rEnc : ∀ a o, T_KeysBounds 12 a o = k_rEnc a o := fun _ _ => rfl
  have c_Order : ∀ a o, T_KeysBounds 31 a o = k_Order a o := fun _ _ => rfl
  have c_RankR : ∀ a o, T_KeysBounds 32 a o = k_RankR a o := fun _ _ => rfl
  obtain ⟨s, w, u, _, _, _, rfl, hs, hw, hu, hR⟩ := con3_inv h0
  cases hs; cases hw; cases hu
  split at hR
  case h_2 => cases hR
  split at hR
  case h_2 => cases hR
  rename_i p a b hsc hr1 hr2
  obtain ⟨cols, K⟩ := p
  obtain ⟨l1, hR⟩ := bnd_inv hR
  obtain ⟨l2, hR⟩ := bnd_inv hR
  cases hR
  obtain ⟨v, rfl, hc, hl, hsh⟩ := schD_inv hsc
  have vd := (colsV hc).dem
  obtain ⟨-, wd, wn, -, rk1⟩ := rowF hr1
  obtain ⟨-, ud, un, -, rk2⟩ := rowF hr2
  obtain ⟨E1, hE1⟩ : ∃ E, E = encE [] cols K a := ⟨_, rfl⟩
  obtain ⟨E2, hE2⟩ : ∃ E, E = encE [] cols K b := ⟨_, rfl⟩
  obtain ⟨A, hA⟩ : ∃ A, A = encZ [] cols a := ⟨_, rfl⟩
  obtain ⟨B, hB⟩ : ∃ B, B = encZ [] cols b := ⟨_, rfl⟩
  have P1 : ∀ O, k_Enc [.agg [v, .int .i64 K], w] O = some (cputV E1 (.fresh 1 true) A, none) := fun O => by
    have ho := old_nil O
    simp [k_Enc, schD_old hsc ho, rowR_old hr1 ho, encE_old rk1 ho, encZ_old rk1 ho, ← hE1, ← hA]
  have P2 : ∀ O, k_Enc [.agg [v, .int .i64 K], u] O = some (cputV E2 (.fresh 1 true) B, none) := fun O => by
    have ho := old_nil O
    simp [k_Enc, schD_old hsc ho, rowR_old hr2 ho, encE_old rk2 ho, encZ_old rk2 ho, ← hE2, ← hB]
  have P3 : ∀ O, k_rEnc [.agg [v, .int .i64 K], w] O = some (cputV E1 .frozen A, none) := fun O => by
    have ho := old_nil O
    simp [k_rEnc, schD_old hsc ho, rowR_old hr1 ho, encE_old rk1 ho, encZ_old rk1 ho, ← hE1, ← hA]
  have P4 : ∀ O, k_rEnc [.agg [v, .int .i64 K], u] O = some (cputV E2 .frozen B, none) := fun O => by
    have ho := old_nil O
    simp [k_rEnc, schD_old hsc ho, rowR_old hr2 ho, encE_old rk2 ho, encZ_old rk2 ho, ← hE2, ← hB]
  have f1 : ∀ (O : List AO) (x : List Int), ofIntsR .u8 O (.lst .frozen (ints .u8 x) x.length) = some x := fun O x => ofIntsR_of (ofInts_lst rfl)
  refine .go _ rfl rfl ?_
  by_cases e1 : E1 = 0
  case neg =>
    have e1' : (E1 == 0) = false := by simpa using e1
    have e1'' : (E1 != 0) = true := by simpa using e1
    have Q1 : ∀ o, cputV E1 o A = .tup [.nils, .int .i64 E1] := fun o => if_neg e1
    by_cases e2 : E2 = 0
    · have Q2 : ∀ o, cputV E2 o B = .tup [.lst o (ints .u8 B) B.length, .int .i64 0] := fun o => by unfold cputV; rw [if_pos e2]
      simp -implicitDefEqProofs (maxSteps := 1000000) (disch := omega) [vd, wd, ud, c_aliveA, aliveA, c_Enc, P1, P2, c_rEnc, P3, P4, Q1, Q2, e1, e1', e1'']
    · have Q2 : ∀ o, cputV E2 o B = .tup [.nils, .int .i64 E2] := fun o => if_neg e2
      simp -implicitDefEqProofs (maxSteps := 1000000) (disch := omega) [vd, wd, ud, c_aliveA, aliveA, c_Enc, P1, P2, c_rEnc, P3, P4, Q1, Q2, e1, e1', e1'']
  have Q1 : ∀ o, cputV E1 o A = .tup [.lst o (ints .u8 A) A.length, .int .i64 0] := fun o => by unfold cputV; rw [if_pos e1]
  by_cases e2 : E2 = 0
  case neg =>
    have e2'' : (E2 != 0) = true := by simpa using e2
    have Q2 : ∀ o, cputV E2 o B = .tup [.nils, .int .i64 E2] := fun o => if_neg e2
    simp -implicitDefEqProofs (maxSteps := 1000000) (disch := omega) [vd, wd, ud, c_aliveA, aliveA, c_Enc, P1, P2, c_rEnc, P3, P4, Q1, Q2, e2, e2'']
  have Q2 : ∀ o, cputV E2 o B = .tup [.lst o (ints .u8 B) B.length, .int .i64 0] := fun o => by unfold cputV; rw [if_pos e2]
  by_cases hn : a.length = b.length
  case neg =>
    have hn2 : ((a.length : Int) != b.length) = true := by simp only [bne_iff_ne, ne_eq]; omega
    simp -implicitDefEqProofs (maxSteps := 1000000) (disch := omega) [vd, wd, ud, wn, un, c_aliveA, aliveA, c_Enc, P1, P2, c_rEnc, P3, P4, Q1, Q2, hn, hn2]
  have hn2 : ((a.length : Int) != b.length) = false := by rw [hn]; simp
  have lA := (encZ_len (hE1.symm.trans e1)).2
  have lB := (encZ_len (hE2.symm.trans e2)).2
  rw [← hA] at lA
  rw [← hB] at lB
  obtain ⟨X, hX⟩ : ∃ X, X = cmpZ A B := ⟨_, rfl⟩
  have hO := enc_order (hE1.symm.trans e1) (hE2.symm.trans e2) rk1 rk2 hn
  rw [← hA, ← hB, ← hX] at hO
  have R1 : ∀ O, k_RankR [w, u, .int .i64 a.length] O = some (.int .i64 X, none) := fun O => by
    have ho := old_nil O
    simp (disch := omega) [k_RankR, rowR_old hr1 ho, rowR_old hr2 ho, rankR_old rk1 rk2 ho, hO]
  rw [hn] at R1
  simp -implicitDefEqProofs (maxSteps := 1000000) (disch := omega) [vd, wd, ud, wn, un, c_aliveA, aliveA, c_Enc, P1, P2, c_rEnc, P3, P4, Q1, Q2, hn, hn2, c_Order, k_Order, f1, ← hX, c_RankR, R1])
theorem walk_KeysOrder {D M n : Nat} {vs : List V} {args : Array Value} {W : World} (hS : ShpAll Tryd.prog (D + 64) M n [24, 25, 25] vs) (hA : AR (top W) W vs args.toList) : Calls Tryd.prog 7 args W fun e W' => e = .returned (.bool true) ∧ Go.RowKit.Below W.heap.size W W' := by
  match vs, hS with
  | [v0, v1, v2], ⟨s0, s1, s2, _⟩ =>
    obtain ⟨cols, K, c1, c2, -⟩ := in_schema s0
    obtain ⟨row, r1, r2, -⟩ := in_row s1
    obtain ⟨row2, q1, q2, -⟩ := in_row s2
    refine whole fit T_KeysOrder_ok (fn := Tryd.f7) (by kernel_rfl) (by kernel_rfl) ?_ hA
    show k_KeysOrder [v0, v1, v2] [] = _
    simp (disch := omega) [k_KeysOrder, c1, r1, q1]

end Go.Proofs.YtiaihiccaoibgaaDoor.B
