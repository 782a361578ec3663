import Derived.Test.YtmoegiibdaomlaaFr9
set_option linter.unusedSimpArgs false
set_option linter.unusedVariables false
set_option linter.unusedSectionVars false
set_option maxRecDepth 20000
namespace Go.Proofs.Ytmoegiibdaomlaa.B
open Go Go.Ab
theorem num_split (l : List Nat) (n : Nat) (h : n ≤ l.length) (hb : ∀ c ∈ l, c < 256) : num (l.take n) = num l % 2 ^ (8 * n) ∧ num (l.drop n) = num l >>> (8 * n) := by
  induction n generalizing l with
  | zero => simp [num, Nat.mod_one]
  | succ n ih =>
    cases l with
    | nil => simp at h
    | cons c l =>
      obtain ⟨h1, h2⟩ := ih l (by simpa using h) (fun x hx => hb x (by simp [hx]))
      have hc := hb c (by simp)
      simp only [List.take_succ_cons, List.drop_succ_cons, num]
      rw [h1, h2]
      constructor
      · apply Nat.eq_of_testBit_eq
        intro i
        rw [Nat.testBit_mod_two_pow, Nat.testBit_xor, Nat.testBit_xor, Nat.testBit_shiftLeft, Nat.testBit_shiftLeft, Nat.testBit_mod_two_pow]
        by_cases q : i < 8 * (n + 1)
        · by_cases r : 8 ≤ i
          · simp [q, r, show i - 8 < 8 * n by omega]
          · simp [q, r]
        · have hcz : c.testBit i = false := Nat.testBit_lt_two_pow (Nat.lt_of_lt_of_le hc (by
            have : 2 ^ 8 ≤ 2 ^ i := Nat.pow_le_pow_right (by omega) (by omega)
            exact this))
          simp [q, hcz, show ¬ (i - 8 < 8 * n) by omega]
      · rw [show 8 * (n + 1) = 8 + 8 * n by omega, Nat.shiftRight_add]
        congr 1
        rw [Nat.shiftRight_xor_distrib, Nat.shiftLeft_shiftRight]
        have : c >>> 8 = 0 := by rw [Nat.shiftRight_eq_div_pow]; exact Nat.div_eq_of_lt hc
        rw [this, Nat.zero_xor]
theorem nats_take (l : List Int) (n : Nat) : nats (l.take n) = (nats l).take n := by simp [nats, List.map_take]
theorem nats_drop (l : List Int) (n : Nat) : nats (l.drop n) = (nats l).drop n := by simp [nats, List.map_drop]
theorem mod_xor (a b n : Nat) : (a ^^^ b) % 2 ^ n = a % 2 ^ n ^^^ b % 2 ^ n := Nat.xor_mod_two_pow
/-- The first half stands, the second is not sealed: not got. -/
theorem half {k : Int} {l : List Int} (hl : B8 l) (he : putErr k l = 0) {y : List Int} (hlen : y.length = l.length + 13) (g1 : B8 y) (hy9 : y.take 9 = (frameZ k l).take 9) (hs : sealedB (y.drop 9) = false) : ¬ (restZ y 0).err = 0 := by
  obtain ⟨k1, k2, k3⟩ := putErr_zero.1 he
  have hn : ∀ i, i < 5 → nth y i = nth (leadZ k l.length) i := by
    intro i hi
    have h1 : nth y i = nth (y.take 9) i := (nth_take (by omega)).symm
    have h2 := frame_nth (k := k) (l := l) [] hi
    rw [List.append_nil] at h2
    rw [h1, hy9, nth_take (by omega), h2]
  have hnz : nZ y = l.length := by
    rw [nZ_eq g1, hn 1 (by omega), hn 2 (by omega), hn 3 (by omega), hn 4 (by omega)]
    exact frame_n (m := []) (by omega)
  have h0 : nth y 0 = k := by
    rw [hn 0 (by omega)]
    show IntKind.u8.wrap k = k
    exact wrap_u8 (by omega) (by omega)
  have e1 : (frameZ k l).take 9 = sealZ (leadZ k l.length) := by have := frame_take9 k l []; rwa [List.append_nil] at this
  have e3 : (y.take (l.length + 13)).drop 9 = y.drop 9 := by rw [List.take_of_length_le (by omega)]
  unfold restZ
  rw [if_neg (by omega), hy9, e1, sealed_seal, if_neg (by simp), h0, if_neg (by omega), hnz, if_neg (by omega), if_neg (by omega)]
  simp only [Int.toNat_natCast]
  rw [e3, if_pos hs]
  intro h; cases h
theorem frame_tells {k : Int} {l : List Int} (hl : B8 l) (he : putErr k l = 0) {at_ p : Int} (hp : 0 ≤ p) (hp2 : p < 4294967296) : decide ((getZ (turnZ (frameZ k l) at_ p) 0).err = 0) = decide (turnZ (frameZ k l) at_ p = frameZ k l) := by
  obtain ⟨k1, k2, k3⟩ := putErr_zero.1 he
  have hF : B8 (frameZ k l) := frameZ_B8 hl
  have hFl := frameZ_len k l
  obtain ⟨F, hFe⟩ : ∃ F, F = frameZ k l := ⟨_, rfl⟩
  obtain ⟨g1, g2⟩ := turn_num hF (k := at_) hp hp2
  have gl := turnZ_len (frameZ k l) at_ p
  obtain ⟨y, hy⟩ : ∃ y, y = turnZ (frameZ k l) at_ p := ⟨_, rfl⟩
  rw [← hy] at g1 g2 gl ⊢
  have same : y = frameZ k l → (getZ y 0).err = 0 := by
    rintro rfl
    have := get_put (k := k) (l := l) (a := []) (m := []) hl (fun c hc => by cases hc) he
    rw [List.nil_append, List.append_nil] at this
    have h0 : ((([] : List Int).length : Nat) : Int) = 0 := rfl
    rw [h0] at this
    rw [this]
  rcases g2 with g2 | ⟨a0, a1, a2, g2⟩
  · rw [decide_eq_true (same g2), decide_eq_true g2]
  by_cases hne : y = frameZ k l
  · rw [decide_eq_true (same hne), decide_eq_true hne]
  rw [decide_eq_false hne, decide_eq_false_iff_not]
  have hP : p.toNat ≠ 0 := by
    intro q
    apply hne
    refine numZ_inj g1 hF gl ?_
    rw [g2, q, Nat.zero_shiftLeft, Nat.xor_zero]
  obtain ⟨at_, rfl⟩ := Int.eq_ofNat_of_zero_le a0
  rw [Int.toNat_natCast] at g2 a2
  obtain ⟨P, hPe⟩ : ∃ P, P = p.toNat := ⟨_, rfl⟩
  rw [← hPe] at g2 a2 hP
  have hP32 : P < 4294967296 := by omega
  have hlen : y.length = l.length + 13 := by rw [gl, hFl]
  obtain ⟨t1, t2⟩ := num_split (nats y) 9 (by simp [nats]; omega) (nats_lt g1)
  obtain ⟨f1, f2⟩ := num_split (nats (frameZ k l)) 9 (by simp [nats]; omega) (nats_lt hF)
  rw [← nats_take] at t1 f1
  rw [← nats_drop] at t2 f2
  have e1 : (frameZ k l).take 9 = sealZ (leadZ k l.length) := by have := frame_take9 k l []; rwa [List.append_nil] at this
  have e2 : (frameZ k l).drop 9 = sealZ l := by have := frame_drop9 k l []; rwa [List.append_nil, List.append_nil] at this
  have lower : num (nats (y.take 9)) = num (nats ((frameZ k l).take 9)) ^^^ ((P <<< at_) % 2 ^ 72) := by rw [t1, f1, g2, mod_xor]
  have upper : num (nats (y.drop 9)) = num (nats ((frameZ k l).drop 9)) ^^^ ((P <<< at_) >>> 72) := by rw [t2, f2, g2, Nat.shiftRight_xor_distrib]
  have hg : getZ y 0 = restZ y 0 := by unfold getZ; rw [if_neg (by omega)]; rfl
  rw [hg]
  have notlow : sealedB (y.take 9) = false → ¬ (restZ y 0).err = 0 := by
    intro q
    unfold restZ
    rw [if_neg (by omega), if_pos q]
    intro h; cases h
  rcases Nat.lt_or_ge at_ 72 with q | q
  · have x1 : (P <<< at_) % 2 ^ 72 = (P % 2 ^ (72 - at_)) <<< at_ := by
      apply Nat.eq_of_testBit_eq
      intro i
      rw [Nat.testBit_mod_two_pow, Nat.testBit_shiftLeft, Nat.testBit_shiftLeft, Nat.testBit_mod_two_pow]
      by_cases c1 : i < 72 <;> by_cases c2 : at_ ≤ i <;> simp [c1, c2]
      · intro _; omega
      · intro h; omega
    rcases Nat.eq_zero_or_pos (P % 2 ^ (72 - at_)) with z | z
    · -- the first half stands
      have x2 : (P <<< at_) >>> 72 = P >>> (72 - at_) := by
        rw [show 72 = at_ + (72 - at_) by omega, Nat.shiftRight_add, Nat.shiftLeft_shiftRight, Nat.add_sub_cancel_left]
      have hy9 : y.take 9 = (frameZ k l).take 9 := numZ_inj (g1.take 9) (hF.take 9) (by simp; omega) (by rw [lower, x1, z, Nat.zero_shiftLeft, Nat.xor_zero])
      have hpos : 0 < P >>> (72 - at_) := by
        rw [Nat.shiftRight_eq_div_pow]
        rcases Nat.eq_zero_or_pos (P / 2 ^ (72 - at_)) with h | h
        · have := Nat.div_add_mod P (2 ^ (72 - at_))
          rw [h, z] at this; omega
        · exact h
      have hsm : P >>> (72 - at_) < 4294967296 := Nat.lt_of_le_of_lt (by rw [Nat.shiftRight_eq_div_pow]; exact Nat.div_le_self _ _) hP32
      have hs := told_run (x := (frameZ k l).drop 9) (y := y.drop 9) (hF.drop 9) (g1.drop 9) (by simp; omega) hpos hsm (k := 0) (by omega) (by rw [upper, x2, Nat.shiftLeft_zero]) (by rw [e2]; exact sealed_seal l)
      exact half hl he hlen g1 hy9 hs
    · have hs := told_run (x := (frameZ k l).take 9) (y := y.take 9) (hF.take 9) (g1.take 9) (by simp; omega) z (Nat.lt_of_le_of_lt (Nat.mod_le _ _) hP32) (k := at_) (by simp; omega) (by rw [lower, x1]) (by rw [e1]; exact sealed_seal _)
      exact notlow hs
  · have x1 : (P <<< at_) % 2 ^ 72 = 0 := by
      rw [show at_ = (at_ - 72) + 72 by omega, Nat.shiftLeft_add, Nat.shiftLeft_eq _ 72]
      exact Nat.mul_mod_left _ _
    have x2 : (P <<< at_) >>> 72 = P <<< (at_ - 72) := by
      rw [show at_ = (at_ - 72) + 72 by omega, Nat.shiftLeft_add, Nat.shiftLeft_shiftRight]
      simp
    have hy9 : y.take 9 = (frameZ k l).take 9 := numZ_inj (g1.take 9) (hF.take 9) (by simp; omega) (by rw [lower, x1, Nat.xor_zero])
    have hs := told_run (x := (frameZ k l).drop 9) (y := y.drop 9) (hF.drop 9) (g1.drop 9) (by simp; omega) (Nat.pos_of_ne_zero hP) hP32 (k := at_ - 72) (by simp; omega) (by rw [upper, x2]) (by rw [e2]; exact sealed_seal l)
    exact half hl he hlen g1 hy9 hs
noncomputable def k_FrameTells : Ab.Spec := con4 (ofInt .i64) (ofInts .u8) (ofInt .i64) (ofInt .u32) fun k l q p objs => match objs with | [] => bnd l.length 140737488352000 (if b8 l = true ∧ 0 ≤ p ∧ p < 4294967296 then some (.bool true, none) else none) | _ => none
noncomputable def T_FrameTells : CallF := withF T_FrameBack 7 k_FrameTells
theorem T_FrameTells_ok : CallOk Try.prog T_FrameTells := con_of (A := annOf [] [] [] false []) fit T_FrameBack_ok (fn := Try.f7) (by kernel_rfl) (by kernel_rfl) (by
  intro args objs r h0
  have c_alive : ∀ a o, T_FrameBack 9 a o = k_alive a o := fun _ _ => rfl
  have c_Copy : ∀ a o, T_FrameBack 24 a o = k_Copy a o := fun _ _ => rfl
  have c_fPut : ∀ a o, T_FrameBack 12 a o = k_fPut a o := fun _ _ => rfl
  have c_Turn : ∀ a o, T_FrameBack 27 a o = k_Turn a o := fun _ _ => rfl
  have c_fGet : ∀ a o, T_FrameBack 16 a o = k_fGet a o := fun _ _ => rfl
  have c_Same : ∀ a o, T_FrameBack 18 a o = k_Same a o := fun _ _ => rfl
  obtain ⟨_, v, _, _, k, l, q, p, rfl, hk, ha, hu, hx, hR⟩ := con4_inv h0
  obtain rfl := ofInt_inv hk
  obtain rfl := ofInt_inv hu
  obtain rfl := ofInt_inv hx
  split at hR
  case h_2 => cases hR
  obtain ⟨hl, hR⟩ := bnd_inv hR
  split at hR
  case isFalse => cases hR
  rename_i hp
  obtain ⟨hl8, hp0, hp1⟩ := hp
  cases hR
  have hB : B8 l := b8_iff.1 hl8
  obtain ⟨vd, vn, -⟩ := bs ha
  have e1 : ofInts .u8 (.lst .frozen (ints .u8 l) l.length) = some l := ofInts_lst rfl
  refine .go _ rfl rfl ?_
  by_cases he : putErr k l = 0
  · have hfl := frameZ_len k l
    have htl := turnZ_len (frameZ k l) q p
    have ht := frame_tells hB he (at_ := q) hp0 hp1
    have h8 : b8 (turnZ (frameZ k l) q p) = true := b8_iff.2 (turn_num (frameZ_B8 hB) (k := q) hp0 hp1).1
    have e2 : ofInts .u8 (.lst .frozen (ints .u8 (frameZ k l)) (l.length + 13)) = some (frameZ k l) := ofInts_lst (by rw [hfl])
    have e3 : ofInts .u8 (.lst .frozen (ints .u8 (turnZ (frameZ k l) q p)) (l.length + 13)) = some (turnZ (frameZ k l) q p) := ofInts_lst (by rw [htl, hfl])
    have hb := putErr_zero.1 he
    obtain ⟨d1, d2, d3⟩ := isDef_body .frozen (getZ (turnZ (frameZ k l) q p) 0).body
    have hbeq : ((getZ (turnZ (frameZ k l) q p) 0).err == 0) = decide (turnZ (frameZ k l) q p = frameZ k l) := by rw [← ht]; rfl
    simp -implicitDefEqProofs (disch := omega) [vd, vn, ha, e1, c_alive, c_Copy, c_fPut, c_Turn, c_fGet, c_Same, k_alive, k_Copy, k_fPut, k_Turn, k_fGet, k_Same, he, hfl, htl, e2, e3, hp0, hp1, h8, frameV, setCells, Ab.getObj, d1, d2, d3, hbeq]
  · have hcnd : k < 1 ∨ k > 255 ∨ l.length > 65536 := by
      have := mt putErr_zero.2 he
      omega
    have h3 : (putErr k l != 0) = true := by simpa using he
    by_cases q1 : k < 1
    · simp -implicitDefEqProofs (disch := omega) [vd, vn, ha, e1, c_alive, c_Copy, c_fPut, k_alive, k_Copy, k_fPut, he, h3, q1]
    by_cases q2 : k > 255
    · simp -implicitDefEqProofs (disch := omega) [vd, vn, ha, e1, c_alive, c_Copy, c_fPut, k_alive, k_Copy, k_fPut, he, h3, q1, q2]
    have q3 : (65536 : Int) < l.length := by omega
    simp -implicitDefEqProofs (disch := omega) [vd, vn, ha, e1, c_alive, c_Copy, c_fPut, k_alive, k_Copy, k_fPut, he, h3, q1, q2, q3])

end Go.Proofs.Ytmoegiibdaomlaa.B
