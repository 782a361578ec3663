import Derived.Test.YtiaihiccaoibgaaDoorKzD
set_option linter.unusedSimpArgs false
set_option linter.unusedVariables false
set_option linter.unusedSectionVars false
set_option maxRecDepth 20000
set_option maxHeartbeats 1000000
namespace Go.Proofs.YtiaihiccaoibgaaDoor.B
open Go Go.Ab
/-! orders -/
theorem cmpZ_self : ∀ (a : List Int), cmpZ a a = 0
  | [] => rfl
  | x :: a => by unfold cmpZ; rw [if_neg (by omega), if_neg (by omega)]; exact cmpZ_self a
theorem cmpZ_cons (x y : Int) (p q : List Int) : cmpZ (x :: p) (y :: q) = if x < y then -1 else if y < x then 1 else cmpZ p q := rfl
noncomputable def k_Order : Ab.Spec := con2 some some fun v w objs => match ofIntsR .u8 objs v, ofIntsR .u8 objs w with | some a, some b => bnd a.length 140737488355328 (bnd b.length 140737488355328 (some (.int .i64 (cmpZ a b), none))) | _, _ => none
noncomputable def T_Order : CallF := withF T_KeysEncodes 31 k_Order
theorem T_Order_ok : CallOk Tryd.prog T_Order := con_of (A := annOf [] [] [] false []) fit T_KeysEncodes_ok (fn := Tryd.f31) (by kernel_rfl) (by kernel_rfl) (by
  intro args objs r h0
  obtain ⟨v, w, _, _, rfl, hv, hw, hR⟩ := con2_inv h0
  cases hv; cases hw
  split at hR
  case h_2 => cases hR
  rename_i a b ha hb
  obtain ⟨hl, hR⟩ := bnd_inv hR
  obtain ⟨hl2, hR⟩ := bnd_inv hR
  cases hR
  obtain ⟨hv, vd, vn, vi⟩ := bytesF ha
  obtain ⟨hw, wd, wn, wi⟩ := bytesF hb
  refine .go _ rfl rfl ?_
  simp -implicitDefEqProofs (disch := omega) [vd, wd]
  obtain ⟨I, hI⟩ : ∃ I : Nat → St → Prop, I = (fun (i : Nat) (z : St) => z.env 0 = v ∧ z.env 1 = w ∧ z.env 5 = .int .i64 i ∧ z.toks = [] ∧ z.low = objs.length ∧ z.objs = objs ∧ cmpZ a b = cmpZ (a.drop i) (b.drop i)) := ⟨_, rfl⟩
  refine .up (min a.length b.length) I (by rw [hI]; exact ⟨by simp, by simp, by simp, rfl, rfl, rfl, by simp⟩) ?_
  intro i z hi hz
  rw [hI] at hz
  obtain ⟨e0, e1, e5, ht, hlo, ho, hc⟩ := hz
  rcases Nat.lt_or_ge i (min a.length b.length) with h | h
  case inr =>
    rcases Nat.lt_trichotomy a.length b.length with q | q | q
    · obtain rfl : i = a.length := by omega
      have q2 : cmpZ a b = -1 := by rw [hc, List.drop_length, drop_nth q]; rfl
      have q3 : ¬ ((a.length : Int) < a.length) := by omega
      simp -implicitDefEqProofs (disch := omega) [e0, e1, e5, ht, ho, hlo, vn, wn, q, q2, q3]
    · obtain rfl : i = a.length := by omega
      have q2 : cmpZ a b = 0 := by rw [hc, List.drop_length, q, List.drop_length]; rfl
      have q3 : ¬ ((a.length : Int) < a.length) := by omega
      have q4 : ¬ (b.length < b.length) := by omega
      simp -implicitDefEqProofs (disch := omega) [e0, e1, e5, ht, ho, hlo, vn, wn, q, q2, q3, q4]
    · obtain rfl : i = b.length := by omega
      have q2 : cmpZ a b = 1 := by rw [hc, List.drop_length, drop_nth q]; rfl
      have q3 : ¬ (a.length < b.length) := by omega
      simp -implicitDefEqProofs (disch := omega) [e0, e1, e5, ht, ho, hlo, vn, wn, q, q2, q3]
  have h1 : i < a.length := by omega
  have h2 : i < b.length := by omega
  have ix := vi i h1
  have jx := wi i h2
  have g := byte_at hv h1
  have k := byte_at hw h2
  rw [drop_nth h1, drop_nth h2] at hc
  obtain ⟨x, hx⟩ : ∃ x, x = nth a i := ⟨_, rfl⟩
  obtain ⟨y, hy⟩ : ∃ y, y = nth b i := ⟨_, rfl⟩
  rw [← hx] at g hc
  rw [← hy] at k hc
  rw [cmpZ_cons] at hc
  by_cases q1 : x < y
  · rw [if_pos q1] at hc
    have hc' : cmpZ a b = -1 := hc
    simp -implicitDefEqProofs (disch := omega) [e0, e1, e5, ht, ho, hlo, vn, wn, h1, h2, ix, jx, g, k, q1, hc']
  · by_cases q2 : y < x
    · rw [if_neg q1, if_pos q2] at hc
      have hc' : cmpZ a b = 1 := hc
      simp -implicitDefEqProofs (disch := omega) [e0, e1, e5, ht, ho, hlo, vn, wn, h1, h2, ix, jx, g, k, q1, q2, hc']
    · rw [if_neg q1, if_neg q2] at hc
      have hc' : cmpZ a b = cmpZ (a.drop (i + 1)) (b.drop (i + 1)) := hc
      simp -implicitDefEqProofs (disch := omega) [e0, e1, e5, ht, ho, hlo, vn, wn, h1, h2, ix, jx, g, k, q1, q2, wrap_small]
      rw [hI]
      exact ⟨by omega, by simp [e0], by simp [e1], by simp, rfl, rfl, rfl, hc'⟩)

def rankZ (n1 : Bool) (i1 : Int) (l1 : List Int) (n2 : Bool) (i2 : Int) (l2 : List Int) : Int :=
  if (n1 || n2) = true then (if (n1 && n2) = true then 0 else if n1 = true then -1 else 1) else if i1 < i2 then -1 else if i2 < i1 then 1 else cmpZ l1 l2
noncomputable def k_RankC : Ab.Spec := con2 some some fun v w objs => match v, w with
  | .agg [.bool n1, .int .i64 i1, a1], .agg [.bool n2, .int .i64 i2, a2] => match ofIntsR .u8 objs a1, ofIntsR .u8 objs a2 with
    | some l1, some l2 => bnd l1.length 140737488355328 (bnd l2.length 140737488355328 (some (.int .i64 (rankZ n1 i1 l1 n2 i2 l2), none)))
    | _, _ => none
  | _, _ => none
noncomputable def T_RankC : CallF := withF T_Order 50 k_RankC
theorem T_RankC_ok : CallOk Tryd.prog T_RankC := con_of (A := annOf [] [] [] false []) fit T_Order_ok (fn := Tryd.f50) (by kernel_rfl) (by kernel_rfl) (by
  intro args objs r h0
  have c_Order : ∀ a o, T_Order 31 a o = k_Order a o := fun _ _ => rfl
  obtain ⟨v, w, _, _, rfl, hv, hw, hR⟩ := con2_inv h0
  cases hv; cases hw
  split at hR
  case h_2 => cases hR
  rename_i n1 i1 a1 n2 i2 a2
  split at hR
  case h_2 => cases hR
  rename_i l1 l2 ha hb
  obtain ⟨hl, hR⟩ := bnd_inv hR
  obtain ⟨hl2, hR⟩ := bnd_inv hR
  cases hR
  obtain ⟨x1, x2, x3, x4⟩ := one_ofR ha
  obtain ⟨y1, y2, y3, y4⟩ := one_ofR hb
  obtain ⟨O, hO⟩ : ∃ O, O = objs ++ [.cells [.bool n1, .int .i64 i1, a1] 0, .cells [.bool n2, .int .i64 i2, a2] 0] := ⟨_, rfl⟩
  have haO : ofIntsR .u8 O a1 = some l1 := by rw [hO]; exact ofIntsR_app ha
  have hbO : ofIntsR .u8 O a2 = some l2 := by rw [hO]; exact ofIntsR_app hb
  have b1 : Ab.getObj O objs.length 0 = some [.bool n1, .int .i64 i1, a1] := by rw [hO]; simp
  have b2 : Ab.getObj O (objs.length + 1) 0 = some [.bool n2, .int .i64 i2, a2] := by rw [hO]; simp
  refine .go _ rfl rfl ?_
  unfold rankZ
  cases n1 with
  | true => cases n2 with
    | true => simp -implicitDefEqProofs (disch := omega) [x1, x2, x3, x4, y1, y2, y3, y4, setCells, ← hO, b1, b2]
    | false => simp -implicitDefEqProofs (disch := omega) [x1, x2, x3, x4, y1, y2, y3, y4, setCells, ← hO, b1, b2]
  | false => cases n2 with
    | true => simp -implicitDefEqProofs (disch := omega) [x1, x2, x3, x4, y1, y2, y3, y4, setCells, ← hO, b1, b2]
    | false =>
      by_cases q1 : i1 < i2
      · simp -implicitDefEqProofs (disch := omega) [x1, x2, x3, x4, y1, y2, y3, y4, setCells, ← hO, b1, b2, q1]
      · by_cases q2 : i2 < i1
        · simp -implicitDefEqProofs (disch := omega) [x1, x2, x3, x4, y1, y2, y3, y4, setCells, ← hO, b1, b2, q1, q2]
        · simp -implicitDefEqProofs (disch := omega) [x1, x2, x3, x4, y1, y2, y3, y4, setCells, ← hO, b1, b2, q1, q2, c_Order, k_Order, haO, hbO])
def rankC (objs : List AO) (x y : Ce) : Int := rankZ x.n x.i (x.b objs) y.n y.i (y.b objs)
def rankR (objs : List AO) (a b : List Ce) (n : Nat) : Int := firstE (fun i => rankC objs (nth a i) (nth b i)) (min n (min a.length b.length)) 0
noncomputable def k_RankR : Ab.Spec := con3 some some (ofInt .i64) fun v w n objs => match rowR objs v, rowR objs w with
  | some a, some b => bnd a.length 140737488355328 (some (.int .i64 (rankR objs a b n.toNat), none))
  | _, _ => none
noncomputable def T_RankR : CallF := withF T_RankC 32 k_RankR
theorem T_RankR_ok : CallOk Tryd.prog T_RankR := con_of (A := annOf [] [] [] false []) fit T_RankC_ok (fn := Tryd.f32) (by kernel_rfl) (by kernel_rfl) (by
  intro args objs r h0
  have c_RankC : ∀ a o, T_RankC 50 a o = k_RankC a o := fun _ _ => rfl
  obtain ⟨v, w, _, _, _, n, rfl, hv, hw, hn, hR⟩ := con3_inv h0
  cases hv; cases hw
  obtain rfl := ofInt_inv hn
  split at hR
  case h_2 => cases hR
  rename_i a b ha hb
  obtain ⟨hl, hR⟩ := bnd_inv hR
  cases hR
  obtain ⟨hv, vd, vn, vi, vk⟩ := rowF ha
  obtain ⟨hw, wd, wn, wi, wk⟩ := rowF hb
  refine .go _ rfl rfl ?_
  simp -implicitDefEqProofs (disch := omega) [vd, wd]
  obtain ⟨N, hN⟩ : ∃ N, N = min n.toNat (min a.length b.length) := ⟨_, rfl⟩
  obtain ⟨I, hI⟩ : ∃ I : Nat → St → Prop, I = (fun (i : Nat) (z : St) => z.env 0 = v ∧ z.env 1 = w ∧ z.env 2 = .int .i64 n ∧ z.env 7 = .int .i64 i ∧ z.toks = [] ∧ z.low = objs.length ∧ Old objs z.objs ∧ ∀ j, j < i → rankC objs (nth a j) (nth b j) = 0) := ⟨_, rfl⟩
  refine .up N I (by rw [hI]; exact ⟨by simp, by simp, by simp, by simp, rfl, rfl, Old.refl _, fun j hj => absurd hj (by omega)⟩) ?_
  intro i z hi hz
  rw [hI] at hz
  obtain ⟨e0, e1, e2, e7, ht, hlo, hold, hpre⟩ := hz
  obtain ⟨O, ho⟩ : ∃ O, O = z.objs := ⟨_, rfl⟩
  rw [← ho] at hold
  have ho := ho.symm
  have hE : rankR objs a b n.toNat = firstE (fun i => rankC objs (nth a i) (nth b i)) N 0 := by rw [hN]; rfl
  rcases Nat.lt_or_ge i N with h | h
  case inr =>
    obtain rfl : i = N := by omega
    have hR0 : rankR objs a b n.toNat = 0 := by rw [hE]; exact firstE_none fun j _ hj => hpre j (by omega)
    by_cases q1 : (i : Int) < n
    · by_cases q2 : i < a.length
      · have q3 : ¬ i < b.length := by omega
        simp -implicitDefEqProofs (disch := omega) [e0, e1, e2, e7, ht, ho, hlo, vn, wn, q1, q2, q3, hR0]
      · simp -implicitDefEqProofs (disch := omega) [e0, e1, e2, e7, ht, ho, hlo, vn, wn, q1, q2, hR0]
    · simp -implicitDefEqProofs (disch := omega) [e0, e1, e2, e7, ht, ho, hlo, vn, wn, q1, hR0]
  have h1 : i < a.length := by omega
  have h2 : i < b.length := by omega
  have h3 : (i : Int) < n := by omega
  have ix := vi i h1
  have jx := wi i h2
  obtain ⟨g1, -⟩ := row_at (hv.old hold) h1
  obtain ⟨g2, -⟩ := row_at (hw.old hold) h2
  have ck1 := vk i h1
  have ck2 := wk i h2
  have hrx : rankC objs (nth a i) (nth b i) = rankZ (nth a i).n (nth a i).i ((nth a i).b objs) (nth b i).n (nth b i).i ((nth b i).b objs) := rfl
  have hi2 := fun (q : rankC objs (nth a i) (nth b i) = 0) (j : Nat) (hj : j < i + 1) => show rankC objs (nth a j) (nth b j) = 0 from by
    rcases Nat.lt_or_ge j i with hj2 | hj2
    · exact hpre j hj2
    · obtain rfl : j = i := by omega
      exact q
  have hbad := fun (q : rankC objs (nth a i) (nth b i) ≠ 0) => show rankR objs a b n.toNat = rankC objs (nth a i) (nth b i) from by
    rw [hE]
    exact firstE_at (f := fun i => rankC objs (nth a i) (nth b i)) q (Nat.zero_le _) (by omega) fun m _ hm => hpre m hm
  obtain ⟨x, hx⟩ : ∃ x, x = nth a i := ⟨_, rfl⟩
  obtain ⟨y, hy⟩ : ∃ y, y = nth b i := ⟨_, rfl⟩
  rw [← hx] at g1 ck1 hrx hi2 hbad
  rw [← hy] at g2 ck2 hrx hi2 hbad
  obtain ⟨xn, xi, xv⟩ := x
  obtain ⟨yn, yi, yv⟩ := y
  obtain ⟨k1, k2, k3, k4⟩ := ceOk_inv (ce_old ck1 hold).1
  obtain ⟨m1, m2, m3, m4⟩ := ceOk_inv (ce_old ck2 hold).1
  rw [(ce_old ck1 hold).2] at k2 k3 k4
  rw [(ce_old ck2 hold).2] at m2 m3 m4
  obtain ⟨P, hP⟩ : ∃ P, P = (⟨xn, xi, xv⟩ : Ce).b objs := ⟨_, rfl⟩
  obtain ⟨Q, hQ⟩ : ∃ Q, Q = (⟨yn, yi, yv⟩ : Ce).b objs := ⟨_, rfl⟩
  rw [← hP] at k2 k4 hrx
  rw [← hQ] at m2 m4 hrx
  simp only at k1 k2 m1 m2 hrx
  obtain ⟨x1, x2, x3, x4⟩ := one_ofR k2
  obtain ⟨y1, y2, y3, y4⟩ := one_ofR m2
  obtain ⟨X, hX⟩ : ∃ X, X = rankZ xn xi P yn yi Q := ⟨_, rfl⟩
  rw [← hX] at hrx
  rw [hrx] at hi2 hbad
  simp only [ceV] at g1 g2
  by_cases hX0 : X = 0
  · have hi3 := hi2 hX0
    rw [hX0] at hX
    simp -implicitDefEqProofs (disch := omega) [e0, e1, e2, e7, ht, ho, hlo, vn, wn, h1, h2, h3, ix, jx, g1, g2, x1, y1, c_RankC, k_RankC, k2, m2, ← hX, wrap_small]
    rw [hI]
    exact ⟨by omega, by simp [e0], by simp [e1], by simp [e2], by simp, rfl, rfl, hold, hi3⟩
  · have hX2 : (X != 0) = true := by simpa using hX0
    have hb3 := hbad hX0
    simp -implicitDefEqProofs (disch := omega) [e0, e1, e2, e7, ht, ho, hlo, vn, wn, h1, h2, h3, ix, jx, g1, g2, x1, y1, c_RankC, k_RankC, k2, m2, ← hX, hX0, hX2, hb3])

end Go.Proofs.YtiaihiccaoibgaaDoor.B
set_option maxRecDepth 20000
set_option maxHeartbeats 1000000
namespace Go.Proofs.YtiaihiccaoibgaaDoor.B
open Go Go.Ab
/-! bounds -/
def withinZ (k lo hi : List Int) : Bool := decide (0 ≤ cmpZ k lo) && (decide (hi = []) || decide (cmpZ k hi < 0))
noncomputable def k_rWithin : Ab.Spec := con3 some some some fun v w u objs => match ofIntsR .u8 objs v, ofIntsR .u8 objs w, ofIntsR .u8 objs u with
  | some k, some lo, some hi => bnd k.length 140737488355328 (bnd lo.length 140737488355328 (bnd hi.length 140737488355328 (some (.bool (withinZ k lo hi), none))))
  | _, _, _ => none
noncomputable def T_rWithin : CallF := withF T_RankR 28 k_rWithin
theorem T_rWithin_ok : CallOk Tryd.prog T_rWithin := con_of (A := annOf [] [] [] false []) fit T_RankR_ok (fn := Tryd.f28) (by kernel_rfl) (by kernel_rfl) (by
  intro args objs r h0
  have c_Order : ∀ a o, T_RankR 31 a o = k_Order a o := fun _ _ => rfl
  obtain ⟨v, w, u, _, _, _, rfl, hv, hw, hu, hR⟩ := con3_inv h0
  cases hv; cases hw; cases hu
  split at hR
  case h_2 => cases hR
  rename_i k lo hi hk hl hh
  obtain ⟨b1, hR⟩ := bnd_inv hR
  obtain ⟨b2, hR⟩ := bnd_inv hR
  obtain ⟨b3, hR⟩ := bnd_inv hR
  cases hR
  obtain ⟨_, vd, vn, -⟩ := bsR hk
  obtain ⟨_, wd, wn, -⟩ := bsR hl
  obtain ⟨_, ud, un, -⟩ := bsR hh
  obtain ⟨C1, hC1⟩ : ∃ C1, C1 = cmpZ k lo := ⟨_, rfl⟩
  obtain ⟨C2, hC2⟩ : ∃ C2, C2 = cmpZ k hi := ⟨_, rfl⟩
  refine .go _ rfl rfl ?_
  unfold withinZ
  rw [← hC1, ← hC2]
  by_cases q1 : 0 ≤ C1
  · by_cases q2 : hi = []
    · have q3 : ((hi.length : Int) == 0) = true := by rw [q2]; rfl
      simp -implicitDefEqProofs (disch := omega) [vd, wd, ud, vn, wn, un, c_Order, k_Order, hk, hl, hh, ← hC1, ← hC2, q1, q2, q3]
    · have q3 : ((hi.length : Int) == 0) = false := by cases hi <;> simp_all <;> omega
      by_cases q4 : C2 < 0
      · simp -implicitDefEqProofs (disch := omega) [vd, wd, ud, vn, wn, un, c_Order, k_Order, hk, hl, hh, ← hC1, ← hC2, q1, q2, q3, q4]
      · simp -implicitDefEqProofs (disch := omega) [vd, wd, ud, vn, wn, un, c_Order, k_Order, hk, hl, hh, ← hC1, ← hC2, q1, q2, q3, q4]
  · simp -implicitDefEqProofs (disch := omega) [vd, wd, ud, vn, wn, un, c_Order, k_Order, hk, hl, hh, ← hC1, q1])
noncomputable def k_Within : Ab.Spec := con3 some some some fun v w u objs => match ofIntsR .u8 objs v, ofIntsR .u8 objs w, ofIntsR .u8 objs u with
  | some k, some lo, some hi => if b8 k = true ∧ b8 lo = true ∧ b8 hi = true then some (.bool (withinZ k lo hi), none) else none
  | _, _, _ => none
noncomputable def T_Within : CallF := withF T_rWithin 27 k_Within
theorem T_Within_ok : CallOk Tryd.prog T_Within := con_of (A := annOf [] [] [] false []) fit T_rWithin_ok (fn := Tryd.f27) (by kernel_rfl) (by kernel_rfl) (by
  intro args objs r h0
  have c_Compare : ∀ a o, T_rWithin 48 a o = k_Compare a o := fun _ _ => rfl
  obtain ⟨v, w, u, _, _, _, rfl, hv, hw, hu, hR⟩ := con3_inv h0
  cases hv; cases hw; cases hu
  split at hR
  case h_2 => cases hR
  rename_i k lo hi hk hl hh
  split at hR
  case isFalse => cases hR
  rename_i hc
  obtain ⟨b1, b2, b3⟩ := hc
  cases hR
  obtain ⟨_, vd, vn, -⟩ := bsR hk
  obtain ⟨_, wd, wn, -⟩ := bsR hl
  obtain ⟨_, ud, un, -⟩ := bsR hh
  have e1 := cmpB_eq (b8_iff.1 b1) (b8_iff.1 b2)
  have e2 := cmpB_eq (b8_iff.1 b1) (b8_iff.1 b3)
  obtain ⟨C1, hC1⟩ : ∃ C1, C1 = cmpZ k lo := ⟨_, rfl⟩
  obtain ⟨C2, hC2⟩ : ∃ C2, C2 = cmpZ k hi := ⟨_, rfl⟩
  rw [← hC1] at e1
  rw [← hC2] at e2
  refine .go _ rfl rfl ?_
  unfold withinZ
  rw [← hC1, ← hC2]
  by_cases q1 : 0 ≤ C1
  · by_cases q2 : hi = []
    · have q3 : ((hi.length : Int) == 0) = true := by rw [q2]; rfl
      simp -implicitDefEqProofs (disch := omega) [vd, wd, ud, vn, wn, un, c_Compare, k_Compare, hk, hl, hh, e1, e2, q1, q2, q3]
    · have q3 : ((hi.length : Int) == 0) = false := by cases hi <;> simp_all <;> omega
      by_cases q4 : C2 < 0
      · simp -implicitDefEqProofs (disch := omega) [vd, wd, ud, vn, wn, un, c_Compare, k_Compare, hk, hl, hh, e1, e2, q1, q2, q3, q4]
      · simp -implicitDefEqProofs (disch := omega) [vd, wd, ud, vn, wn, un, c_Compare, k_Compare, hk, hl, hh, e1, e2, q1, q2, q3, q4]
  · simp -implicitDefEqProofs (disch := omega) [vd, wd, ud, vn, wn, un, c_Compare, k_Compare, hk, hl, hh, e1, q1])
def bV (o : LK) (l : List Int) : V := if l = [] then .nils else .lst o (ints .u8 l) l.length
def bndE (objs : List AO) (cols : List Co) (K : Int) (low high : List Ce) : Int :=
  if chkR cols K = 0 then (if low ≠ [] ∧ encE objs cols K low ≠ 0 then encE objs cols K low else if high ≠ [] ∧ encE objs cols K high ≠ 0 then encE objs cols K high else 0) else chkR cols K
def bndV (o : LK) (e : Int) (a b : List Int) : V := if e = 0 then .tup [bV o a, bV o b, .int .i64 0] else .tup [.nils, .nils, .int .i64 e]
def bndF (e : Int) (a b : List Int) : V := if e = 0 then .tup [.lst .frozen (ints .u8 a) a.length, .lst .frozen (ints .u8 b) b.length, .int .i64 0] else .tup [.nils, .nils, .int .i64 e]
theorem encZ_nil {objs : List AO} {cols : List Co} : encZ objs cols [] = [] := rfl
theorem ce_nil {l : List Ce} : (l.length : Int) > 0 ↔ l ≠ [] := by cases l <;> simp
noncomputable def k_rBounds : Ab.Spec := con3 some some some fun s v w objs => match schD objs s, rowR objs v, rowR objs w with
  | some (cols, K), some low, some high => some (bndF (bndE objs cols K low high) (encZ objs cols low) (encZ objs cols high), none)
  | _, _, _ => none
noncomputable def T_rBounds : CallF := withF T_Within 25 k_rBounds
theorem T_rBounds_ok : CallOk Tryd.prog T_rBounds := con_of (A := annOf [] [] [] false []) fit T_Within_ok (fn := Tryd.f25) (by kernel_rfl) (by kernel_rfl) (by
  intro args objs r h0
  have c_rSchema : ∀ a o, T_Within 36 a o = k_rSchema a o := fun _ _ => rfl
  have c_rEnc : ∀ a o, T_Within 12 a o = k_rEnc a o := fun _ _ => rfl
  obtain ⟨s, v, w, _, _, _, rfl, hs, hv, hw, hR⟩ := con3_inv h0
  cases hs; cases hv; cases hw
  split at hR
  case h_2 => cases hR
  rename_i cols K low high hsc hr1 hr2
  cases hR
  obtain ⟨u, rfl, hu, ud, uo, uf, uc, un, ui, hc, hl⟩ := schF hsc
  obtain ⟨hv, vd, vn, vi, vk⟩ := rowF hr1
  obtain ⟨hw, wd, wn, wi, wk⟩ := rowF hr2
  obtain ⟨O0, hO0⟩ : ∃ O, O = objs ++ [.cells [u, .int .i64 K] 0] := ⟨_, rfl⟩
  have hold0 : Old objs O0 := by rw [hO0]; exact Old.ext _ _
  have b1 : Ab.getObj O0 objs.length 0 = some [u, .int .i64 K] := by rw [hO0]; simp
  have s1 := (k_sch (schD_old hsc hold0)).2
  obtain ⟨E1, hE1⟩ : ∃ E, E = encE objs cols K low := ⟨_, rfl⟩
  obtain ⟨E2, hE2⟩ : ∃ E, E = encE objs cols K high := ⟨_, rfl⟩
  obtain ⟨A1, hA1⟩ : ∃ A, A = encZ objs cols low := ⟨_, rfl⟩
  obtain ⟨A2, hA2⟩ : ∃ A, A = encZ objs cols high := ⟨_, rfl⟩
  have r1 : k_rEnc [.agg [u, .int .i64 K], v] O0 = some (cputV E1 .frozen A1, none) := by simp [k_rEnc, schD_old hsc hold0, rowR_old hr1 hold0, encE_old vk hold0, encZ_old vk hold0, ← hE1, ← hA1]
  have r2 : k_rEnc [.agg [u, .int .i64 K], w] O0 = some (cputV E2 .frozen A2, none) := by simp [k_rEnc, schD_old hsc hold0, rowR_old hr2 hold0, encE_old wk hold0, encZ_old wk hold0, ← hE2, ← hA2]
  refine .go _ rfl rfl ?_
  unfold bndE
  rw [← hE1, ← hE2, ← hA1, ← hA2]
  rcases chk_or cols K with hg | hg
  case inr =>
    rw [hg] at s1
    simp -implicitDefEqProofs (disch := omega) [ud, c_rSchema, ← hO0, b1, s1, hg, bndF]
  rw [hg] at s1
  have z1 : low = [] → A1 = [] := fun q => by rw [hA1, q]; rfl
  have z2 : high = [] → A2 = [] := fun q => by rw [hA2, q]; rfl
  by_cases q1 : low = []
  · have a1 := z1 q1
    have l1 : ¬ (0 < (low.length : Int)) := by rw [q1]; simp
    by_cases q2 : high = []
    · have a2 := z2 q2
      have l2 : ¬ (0 < (high.length : Int)) := by rw [q2]; simp
      simp -implicitDefEqProofs (disch := omega) [ud, vd, wd, vn, wn, c_rSchema, ← hO0, b1, s1, hg, blit0, l1, a1, l2, q1, q2, a2, bndF, ints_nil]
    · have l2 : (0 < (high.length : Int)) := ce_nil.2 q2
      by_cases e2 : E2 = 0
      · have r2' : k_rEnc [.agg [u, .int .i64 K], w] O0 = some (.tup [.lst .frozen (ints .u8 A2) A2.length, .int .i64 0], none) := by rw [r2, e2]; rfl
        simp -implicitDefEqProofs (disch := omega) [ud, vd, wd, vn, wn, c_rSchema, ← hO0, b1, s1, hg, blit0, l1, a1, l2, q1, q2, e2, c_rEnc, r2', bndF, ints_nil]
      · have e2' : (E2 != 0) = true := by simpa using e2
        have r2' : k_rEnc [.agg [u, .int .i64 K], w] O0 = some (.tup [.nils, .int .i64 E2], none) := by rw [r2]; unfold cputV; rw [if_neg e2]
        simp -implicitDefEqProofs (disch := omega) [ud, vd, wd, vn, wn, c_rSchema, ← hO0, b1, s1, hg, blit0, l1, a1, l2, q1, q2, e2, e2', c_rEnc, r2', bndF, ints_nil]
  · have l1 : (0 < (low.length : Int)) := ce_nil.2 q1
    by_cases e1 : E1 = 0
    · have r1' : k_rEnc [.agg [u, .int .i64 K], v] O0 = some (.tup [.lst .frozen (ints .u8 A1) A1.length, .int .i64 0], none) := by rw [r1, e1]; rfl
      by_cases q2 : high = []
      · have a2 := z2 q2
        have l2 : ¬ (0 < (high.length : Int)) := by rw [q2]; simp
        simp -implicitDefEqProofs (disch := omega) [ud, vd, wd, vn, wn, c_rSchema, ← hO0, b1, s1, hg, blit0, l1, e1, c_rEnc, r1', l2, q1, q2, a2, bndF, ints_nil]
      · have l2 : (0 < (high.length : Int)) := ce_nil.2 q2
        by_cases e2 : E2 = 0
        · have r2' : k_rEnc [.agg [u, .int .i64 K], w] O0 = some (.tup [.lst .frozen (ints .u8 A2) A2.length, .int .i64 0], none) := by rw [r2, e2]; rfl
          simp -implicitDefEqProofs (disch := omega) [ud, vd, wd, vn, wn, c_rSchema, ← hO0, b1, s1, hg, blit0, l1, e1, c_rEnc, r1', l2, q1, q2, e2, c_rEnc, r2', bndF, ints_nil]
        · have e2' : (E2 != 0) = true := by simpa using e2
          have r2' : k_rEnc [.agg [u, .int .i64 K], w] O0 = some (.tup [.nils, .int .i64 E2], none) := by rw [r2]; unfold cputV; rw [if_neg e2]
          simp -implicitDefEqProofs (disch := omega) [ud, vd, wd, vn, wn, c_rSchema, ← hO0, b1, s1, hg, blit0, l1, e1, c_rEnc, r1', l2, q1, q2, e2, e2', c_rEnc, r2', bndF, ints_nil]
    · have e1' : (E1 != 0) = true := by simpa using e1
      have r1' : k_rEnc [.agg [u, .int .i64 K], v] O0 = some (.tup [.nils, .int .i64 E1], none) := by rw [r1]; unfold cputV; rw [if_neg e1]
      simp -implicitDefEqProofs (disch := omega) [ud, vd, wd, vn, wn, c_rSchema, ← hO0, b1, s1, hg, blit0, l1, q1, e1, e1', c_rEnc, r1', bndF, ints_nil])
def kbV (o : Nat) (l : List Int) : V := if l = [] then .nils else .ref o 0 0 l.length 1
def kbO (l : List Int) : List AO := if l = [] then [] else [.cells (ints .u8 l) 0]
def bndK (o : Nat) (e : Int) (a b : List Int) : V := if e = 0 then .tup [kbV o a, kbV (o + (kbO a).length) b, .int .i64 0] else .tup [.nils, .nils, .int .i64 e]
def bndO (e e1 : Int) (a b : List Int) : List AO := (if e1 = 0 then kbO a else []) ++ if e = 0 then kbO b else []
noncomputable def k_Bounds : Ab.Spec := con3 some some some fun s v w objs => match s with
  | .agg [u, .int .i64 K] => match schD objs (.agg [u, .int .i64 K]), rowR objs v, rowR objs w with
    | some (cols, _), some low, some high => some (bndK (objs.length + 1) (bndE objs cols K low high) (encZ objs cols low) (encZ objs cols high), some (objs ++ [.cells [u, .int .i64 K] 0] ++ bndO (bndE objs cols K low high) (encE objs cols K low) (encZ objs cols low) (encZ objs cols high), objs.length))
    | _, _, _ => none
  | _ => none
noncomputable def T_Bounds : CallF := withF T_rBounds 24 k_Bounds
theorem T_Bounds_ok : CallOk Tryd.prog T_Bounds := con_of (A := annOf [] [] [(20, [.ref]),(32, [.ref])] true []) fit T_rBounds_ok (fn := Tryd.f24) (by kernel_rfl) (by kernel_rfl) (by
  intro args objs r h0
  have c_schCheck : ∀ a o, T_rBounds 39 a o = k_schCheck a o := fun _ _ => rfl
  have c_Enc : ∀ a o, T_rBounds 13 a o = k_Enc a o := fun _ _ => rfl
  obtain ⟨s, v, w, _, _, _, rfl, hs, hv, hw, hR⟩ := con3_inv h0
  cases hs; cases hv; cases hw
  split at hR
  case h_2 => cases hR
  rename_i u K
  split at hR
  case h_2 => cases hR
  rename_i cols _ low high hsc hr1 hr2
  cases hR
  obtain ⟨_, hue, hu, ud, uo, uf, uc, un, ui, hc, hl⟩ := schF hsc
  cases hue
  obtain ⟨hv, vd, vn, vi, vk⟩ := rowF hr1
  obtain ⟨hw, wd, wn, wi, wk⟩ := rowF hr2
  obtain ⟨O0, hO0⟩ : ∃ O, O = objs ++ [.cells [u, .int .i64 K] 0] := ⟨_, rfl⟩
  rw [← hO0]
  have hold0 : Old objs O0 := by rw [hO0]; exact Old.ext _ _
  have b1 : Ab.getObj O0 objs.length 0 = some [u, .int .i64 K] := by rw [hO0]; simp
  have s1 := (k_sch (schD_old hsc hold0)).1
  obtain ⟨E1, hE1⟩ : ∃ E, E = encE objs cols K low := ⟨_, rfl⟩
  obtain ⟨E2, hE2⟩ : ∃ E, E = encE objs cols K high := ⟨_, rfl⟩
  obtain ⟨A1, hA1⟩ : ∃ A, A = encZ objs cols low := ⟨_, rfl⟩
  obtain ⟨A2, hA2⟩ : ∃ A, A = encZ objs cols high := ⟨_, rfl⟩
  have r1 : k_Enc [.agg [u, .int .i64 K], v] O0 = some (cputV E1 (.fresh 1 true) A1, none) := by simp [k_Enc, schD_old hsc hold0, rowR_old hr1 hold0, encE_old vk hold0, encZ_old vk hold0, ← hE1, ← hA1]
  have r2 : k_Enc [.agg [u, .int .i64 K], w] O0 = some (cputV E2 (.fresh 1 true) A2, none) := by simp [k_Enc, schD_old hsc hold0, rowR_old hr2 hold0, encE_old wk hold0, encZ_old wk hold0, ← hE2, ← hA2]
  have g2 : ∀ M, k_Enc [.agg [u, .int .i64 K], w] (O0 ++ M) = some (cputV E2 (.fresh 1 true) A2, none) := fun M => by
    have hM : Old objs (O0 ++ M) := hold0.app M
    simp [k_Enc, schD_old hsc hM, rowR_old hr2 hM, encE_old wk hM, encZ_old wk hM, ← hE2, ← hA2]
  have b1' : ∀ M, Ab.getObj (O0 ++ M) objs.length 0 = some [u, .int .i64 K] := fun M => by rw [getObj_app (getObj_lt b1)]; exact b1
  have hOl2 : ¬ O0.length < objs.length := by rw [hO0]; simp
  have hOl4 : O0.length = objs.length + 1 := by rw [hO0]; simp
  have hOl3 : ¬ O0.length + 1 < objs.length := by omega
  refine .goK _ rfl rfl rfl ?_
  unfold bndE
  rw [← hE1, ← hE2, ← hA1, ← hA2]
  rcases chk_or cols K with hg | hg
  case inr =>
    rw [hg] at s1
    have hE60 : E1 = 60 := by rw [hE1]; unfold encE; rw [hg, if_neg (by decide)]
    simp -implicitDefEqProofs (disch := omega) [ud, c_schCheck, ← hO0, b1, b1', s1, hg, hE60, bndK, bndO]
  rw [hg] at s1
  have z1 : low = [] → A1 = [] := fun q => by rw [hA1, q]; rfl
  have z2 : high = [] → A2 = [] := fun q => by rw [hA2, q]; rfl
  have z3 : low ≠ [] → E1 = 0 → ¬ A1 = [] := fun q e => by
    have := encZ_len (hE1.symm.trans e)
    rw [← hA1] at this
    rintro rfl
    simp at this
  have z4 : high ≠ [] → E2 = 0 → ¬ A2 = [] := fun q e => by
    have := encZ_len (hE2.symm.trans e)
    rw [← hA2] at this
    rintro rfl
    simp at this
  by_cases q1 : low = []
  · have a1 := z1 q1
    have l1 : ¬ (0 < (low.length : Int)) := by rw [q1]; simp
    by_cases q2 : high = []
    · have a2 := z2 q2
      have l2 : ¬ (0 < (high.length : Int)) := by rw [q2]; simp
      simp -implicitDefEqProofs (disch := omega) [ud, vd, wd, vn, wn, c_schCheck, ← hO0, b1, b1', hOl2, hOl3, s1, hg, l1, a1, l2, q1, q2, a2, bndK, bndO, kbV, kbO, hOl4, ints_nil]
    · have l2 : (0 < (high.length : Int)) := ce_nil.2 q2
      by_cases e2 : E2 = 0
      · have r2' : ∀ M, k_Enc [.agg [u, .int .i64 K], w] (O0 ++ M) = some (.tup [.lst (.fresh 1 true) (ints .u8 A2) A2.length, .int .i64 0], none) := fun M => by rw [g2, e2]; rfl
        have r2e := r2' []
        rw [List.append_nil] at r2e
        have n2 := z4 q2 e2
        simp -implicitDefEqProofs (disch := omega) [ud, vd, wd, vn, wn, c_schCheck, ← hO0, b1, b1', hOl2, hOl3, s1, hg, l1, a1, l2, q1, q2, e2, c_Enc, r2', r2e, n2, bndK, bndO, kbV, kbO, hOl4, ints_nil]
      · have e2' : (E2 != 0) = true := by simpa using e2
        have r2' : ∀ M, k_Enc [.agg [u, .int .i64 K], w] (O0 ++ M) = some (.tup [.nils, .int .i64 E2], none) := fun M => by rw [g2]; unfold cputV; rw [if_neg e2]
        have r2e := r2' []
        rw [List.append_nil] at r2e
        simp -implicitDefEqProofs (disch := omega) [ud, vd, wd, vn, wn, c_schCheck, ← hO0, b1, b1', hOl2, hOl3, s1, hg, l1, a1, l2, q1, q2, e2, e2', c_Enc, r2', r2e, bndK, bndO, kbV, kbO, hOl4, ints_nil]
  · have l1 : (0 < (low.length : Int)) := ce_nil.2 q1
    by_cases e1 : E1 = 0
    · have r1' : k_Enc [.agg [u, .int .i64 K], v] O0 = some (.tup [.lst (.fresh 1 true) (ints .u8 A1) A1.length, .int .i64 0], none) := by rw [r1, e1]; rfl
      have n1 := z3 q1 e1
      by_cases q2 : high = []
      · have a2 := z2 q2
        have l2 : ¬ (0 < (high.length : Int)) := by rw [q2]; simp
        simp -implicitDefEqProofs (disch := omega) [ud, vd, wd, vn, wn, c_schCheck, ← hO0, b1, b1', hOl2, hOl3, s1, hg, l1, e1, c_Enc, r1', n1, l2, q1, q2, a2, bndK, bndO, kbV, kbO, hOl4, ints_nil]
      · have l2 : (0 < (high.length : Int)) := ce_nil.2 q2
        by_cases e2 : E2 = 0
        · have r2' : ∀ M, k_Enc [.agg [u, .int .i64 K], w] (O0 ++ M) = some (.tup [.lst (.fresh 1 true) (ints .u8 A2) A2.length, .int .i64 0], none) := fun M => by rw [g2, e2]; rfl
          have r2e := r2' []
          rw [List.append_nil] at r2e
          have n2 := z4 q2 e2
          simp -implicitDefEqProofs (disch := omega) [ud, vd, wd, vn, wn, c_schCheck, ← hO0, b1, b1', hOl2, hOl3, s1, hg, l1, e1, c_Enc, r1', n1, l2, q1, q2, e2, c_Enc, r2', r2e, n2, bndK, bndO, kbV, kbO, hOl4, ints_nil]
        · have e2' : (E2 != 0) = true := by simpa using e2
          have r2' : ∀ M, k_Enc [.agg [u, .int .i64 K], w] (O0 ++ M) = some (.tup [.nils, .int .i64 E2], none) := fun M => by rw [g2]; unfold cputV; rw [if_neg e2]
          have r2e := r2' []
          rw [List.append_nil] at r2e
          simp -implicitDefEqProofs (disch := omega) [ud, vd, wd, vn, wn, c_schCheck, ← hO0, b1, b1', hOl2, hOl3, s1, hg, l1, e1, c_Enc, r1', n1, l2, q1, q2, e2, e2', c_Enc, r2', r2e, bndK, bndO, kbV, kbO, hOl4, ints_nil]
    · have e1' : (E1 != 0) = true := by simpa using e1
      have r1' : k_Enc [.agg [u, .int .i64 K], v] O0 = some (.tup [.nils, .int .i64 E1], none) := by rw [r1]; unfold cputV; rw [if_neg e1]
      simp -implicitDefEqProofs (disch := omega) [ud, vd, wd, vn, wn, c_schCheck, ← hO0, b1, b1', hOl2, hOl3, s1, hg, l1, q1, e1, e1', c_Enc, r1', bndK, bndO, kbV, kbO, hOl4, ints_nil])

end Go.Proofs.YtiaihiccaoibgaaDoor.B
