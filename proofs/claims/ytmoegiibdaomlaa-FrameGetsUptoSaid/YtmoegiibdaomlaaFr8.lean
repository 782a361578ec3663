import Derived.Test.YtmoegiibdaomlaaFr7
set_option linter.unusedSimpArgs false
set_option linter.unusedVariables false
set_option linter.unusedSectionVars false
set_option maxRecDepth 20000
set_option maxHeartbeats 1000000
namespace Go.Proofs.Ytmoegiibdaomlaa.B
open Go Go.Ab
theorem in_bytes {D M n : Nat} {v : V} (h : ShpV Try.prog D M n 22 v) : ∃ l, ofInts .u8 v = some l ∧ b8 l = true ∧ l.length ≤ 140737488351232 ∧ (M = 0 ∨ l.length ≤ M) := by
  have hg : Ab.isAgg Try.prog 22 = false := by kernel_rfl
  have h2 : Shp Try.prog D M n 22 v := by unfold ShpV at h; rwa [if_neg (by rw [hg]; simp)] at h
  obtain ⟨l, l1, l2, l3, l4⟩ := shp_ints u22 u5 h2
  have hb : Try.prog.bytesOf 5 = 1 := by kernel_rfl
  rw [hb] at l3
  exact ⟨l, l1, wf_u8 l2, by omega, l4⟩
theorem in_int {D M n : Nat} {v : V} {t : TypeId} {k : IntKind} (hu : Try.prog.underlying t = some (.int k)) (hg : Ab.isAgg Try.prog t = false) (h : ShpV Try.prog D M n t v) : ∃ i, v = .int k i ∧ (Lit.int k i).wf = true := by
  unfold ShpV at h
  rw [if_neg (by rw [hg]; simp)] at h
  exact shp_int hu h
theorem wf_u32 {c : Int} (h : (Lit.int .u32 c).wf = true) : 0 ≤ c ∧ c < 4294967296 := by
  simp [Lit.wf, IntKind.min, IntKind.max] at h; omega
theorem wf_u64 {c : Int} (h : (Lit.int .u64 c).wf = true) : 0 ≤ c ∧ c < 18446744073709551616 := by
  simp [Lit.wf, IntKind.min, IntKind.max] at h; omega
theorem wf_i64 {c : Int} (h : (Lit.int .i64 c).wf = true) : -9223372036854775808 ≤ c ∧ c < 9223372036854775808 := by
  simp [Lit.wf, IntKind.min, IntKind.max] at h; omega
theorem flat : laidFlat Try.prog = true := by kernel_rfl

/-! frames, plain mathematics -/
theorem or_disj {a b k K : Nat} (hK : 2 ^ k = K) (ha : a < K) : a ||| (b * K) = a + b * K := by
  subst hK
  rw [Nat.or_comm, Nat.mul_comm b, ← Nat.two_pow_add_eq_or_of_lt ha]; omega
theorem nZ_eq {r : List Int} (h : B8 r) : nZ r = nth r 1 + nth r 2 * 256 + nth r 3 * 65536 + nth r 4 * 16777216 := by
  obtain ⟨a0, a1⟩ := h.nth 1
  obtain ⟨b0, b1⟩ := h.nth 2
  obtain ⟨c0, c1⟩ := h.nth 3
  obtain ⟨d0, d1⟩ := h.nth 4
  obtain ⟨a, ha⟩ := Int.eq_ofNat_of_zero_le a0
  obtain ⟨b, hb⟩ := Int.eq_ofNat_of_zero_le b0
  obtain ⟨c, hc⟩ := Int.eq_ofNat_of_zero_le c0
  obtain ⟨d, hd⟩ := Int.eq_ofNat_of_zero_le d0
  unfold nZ
  rw [ha, hb, hc, hd]
  rw [wrap_u32 (n := (a : Int)) (by omega) (by omega), wrap_u32 (n := (b : Int)) (by omega) (by omega), wrap_u32 (n := (c : Int)) (by omega) (by omega), wrap_u32 (n := (d : Int)) (by omega) (by omega),
    wrap_u32 (n := (b : Int) * 256) (by omega) (by omega), wrap_u32 (n := (c : Int) * 65536) (by omega) (by omega), wrap_u32 (n := (d : Int) * 16777216) (by omega) (by omega)]
  have e1 : Go.bits .or .u32 (a : Int) ((b : Int) * 256) = ((a + b * 256 : Nat) : Int) := by
    rw [Go.u32_or _ _ (by omega) (by omega) (by omega) (by omega)]
    have h1 : ((a : Int)).toNat = a := by omega
    have h2 : ((b : Int) * 256).toNat = b * 256 := by rw [show (256 : Int) = ((256 : Nat) : Int) from rfl, ← Int.natCast_mul, Int.toNat_natCast]
    rw [h1, h2, or_disj (k := 8) (by decide) (by omega)]
  have e2 : Go.bits .or .u32 ((a + b * 256 : Nat) : Int) ((c : Int) * 65536) = ((a + b * 256 + c * 65536 : Nat) : Int) := by
    rw [Go.u32_or _ _ (by omega) (by omega) (by omega) (by omega)]
    have h1 : ((a + b * 256 : Nat) : Int).toNat = a + b * 256 := by omega
    have h2 : ((c : Int) * 65536).toNat = c * 65536 := by rw [show (65536 : Int) = ((65536 : Nat) : Int) from rfl, ← Int.natCast_mul, Int.toNat_natCast]
    rw [h1, h2, or_disj (k := 16) (by decide) (by omega)]
  have e3 : Go.bits .or .u32 ((a + b * 256 + c * 65536 : Nat) : Int) ((d : Int) * 16777216) = ((a + b * 256 + c * 65536 + d * 16777216 : Nat) : Int) := by
    rw [Go.u32_or _ _ (by omega) (by omega) (by omega) (by omega)]
    have h1 : ((a + b * 256 + c * 65536 : Nat) : Int).toNat = a + b * 256 + c * 65536 := by omega
    have h2 : ((d : Int) * 16777216).toNat = d * 16777216 := by rw [show (16777216 : Int) = ((16777216 : Nat) : Int) from rfl, ← Int.natCast_mul, Int.toNat_natCast]
    rw [h1, h2]
    exact congrArg Int.ofNat (or_disj (a := a + b * 256 + c * 65536) (b := d) (k := 24) (K := 16777216) (by decide) (by omega))
  rw [e1, e2, e3]; omega
theorem leadZ_B8 (k n : Int) : B8 (leadZ k n) := by
  intro c hc
  simp only [leadZ, List.mem_cons, List.not_mem_nil, or_false] at hc
  rcases hc with rfl | rfl | rfl | rfl | rfl <;> rw [wrapU8] <;> omega
theorem frameZ_B8 {k : Int} {l : List Int} (h : B8 l) : B8 (frameZ k l) := (sealZ_B8 (leadZ_B8 _ _)).app (sealZ_B8 h)
theorem frame_take9 (k : Int) (l m : List Int) : (frameZ k l ++ m).take 9 = sealZ (leadZ k l.length) := by
  unfold frameZ
  rw [List.append_assoc, List.take_append_of_le_length (by rw [sealZ_len, leadZ_len]; omega), List.take_of_length_le (by rw [sealZ_len, leadZ_len]; omega)]
theorem frame_drop9 (k : Int) (l m : List Int) : (frameZ k l ++ m).drop 9 = sealZ l ++ m := by
  unfold frameZ
  rw [List.append_assoc, List.drop_append_of_le_length (by rw [sealZ_len, leadZ_len]; omega), List.drop_of_length_le (by rw [sealZ_len, leadZ_len]; omega), List.nil_append]
theorem frame_nth {k : Int} {l : List Int} (m : List Int) {i : Nat} (hi : i < 5) : nth (frameZ k l ++ m) i = nth (leadZ k l.length) i := by
  have h1 : nth (frameZ k l ++ m) i = nth ((frameZ k l ++ m).take 9) i := (nth_take (by omega)).symm
  rw [h1, frame_take9]
  unfold sealZ
  rw [nth_app_l (by rw [leadZ_len]; exact hi)]
theorem frame_n {k : Int} {l m : List Int} (h : l.length < 4294967296) : nth (leadZ k l.length) 1 + nth (leadZ k l.length) 2 * 256 + nth (leadZ k l.length) 3 * 65536 + nth (leadZ k l.length) 4 * 16777216 = l.length := by
  have e1 : ((l.length : Int)).fdiv 256 = (l.length : Int) / 256 := by rw [Int.fdiv_eq_ediv_of_nonneg _ (by omega)]
  have e2 : ((l.length : Int)).fdiv 65536 = (l.length : Int) / 65536 := by rw [Int.fdiv_eq_ediv_of_nonneg _ (by omega)]
  have e3 : ((l.length : Int)).fdiv 16777216 = (l.length : Int) / 16777216 := by rw [Int.fdiv_eq_ediv_of_nonneg _ (by omega)]
  show IntKind.u8.wrap l.length + IntKind.u8.wrap ((l.length : Int).fdiv 256) * 256 + IntKind.u8.wrap ((l.length : Int).fdiv 65536) * 65536 + IntKind.u8.wrap ((l.length : Int).fdiv 16777216) * 16777216 = l.length
  rw [e1, e2, e3, wrapU8, wrapU8, wrapU8, wrapU8]
  omega
/-- What was put is got again. -/
theorem rest_put {k : Int} {l m : List Int} (hl : B8 l) (hm : B8 m) (hk : 1 ≤ k ∧ k ≤ 255) (hn : l.length ≤ 65536) (p : Int) : restZ (frameZ k l ++ m) p = ⟨k, some l, p + ((l.length : Int) + 13), 0⟩ := by
  have hr : B8 (frameZ k l ++ m) := (frameZ_B8 hl).app hm
  have hlen : (frameZ k l ++ m).length = l.length + 13 + m.length := by rw [List.length_append, frameZ_len]
  have hnz : nZ (frameZ k l ++ m) = l.length := by
    rw [nZ_eq hr, frame_nth m (by omega), frame_nth m (by omega), frame_nth m (by omega), frame_nth m (by omega)]
    exact frame_n (m := m) (by omega)
  have h0 : nth (frameZ k l ++ m) 0 = k := by
    rw [frame_nth m (by omega)]
    show IntKind.u8.wrap k = k
    exact wrap_u8 (by omega) (by omega)
  have e1 : ((frameZ k l ++ m).take (l.length + 13)).drop 9 = sealZ l := by
    rw [List.drop_take, frame_drop9, List.take_append_of_le_length (by rw [sealZ_len]; omega), List.take_of_length_le (by rw [sealZ_len]; omega)]
  have e2 : ((frameZ k l ++ m).take (l.length + 9)).drop 9 = l := by
    rw [List.drop_take, frame_drop9, List.take_append_of_le_length (by rw [sealZ_len]; omega)]
    unfold sealZ
    rw [show l.length + 9 - 9 = l.length by omega, List.take_append_of_le_length (Nat.le_refl _), List.take_length]
  unfold restZ
  rw [if_neg (by omega), frame_take9, sealed_seal, if_neg (by simp), h0, if_neg (by omega), hnz, if_neg (by omega), if_neg (by omega)]
  simp only [Int.toNat_natCast]
  rw [e1, sealed_seal, if_neg (by simp), e2]
theorem putErr_zero {k : Int} {l : List Int} : putErr k l = 0 ↔ 1 ≤ k ∧ k ≤ 255 ∧ l.length ≤ 65536 := by
  unfold putErr
  split
  · omega
  · split <;> omega
theorem get_put {k : Int} {l a m : List Int} (hl : B8 l) (hm : B8 m) (hp : putErr k l = 0) : getZ (a ++ frameZ k l ++ m) a.length = ⟨k, some l, a.length + ((l.length : Int) + 13), 0⟩ := by
  obtain ⟨h1, h2, h3⟩ := putErr_zero.1 hp
  unfold getZ
  rw [if_neg (by simp; omega), Int.toNat_natCast, List.append_assoc, List.drop_append_of_le_length (Nat.le_refl _), List.drop_length, List.nil_append]
  exact rest_put hl hm ⟨h1, h2⟩ h3 _
/-- One byte less is too short. -/
theorem get_short {k : Int} {l : List Int} (hl : B8 l) (hp : putErr k l = 0) : getZ ((frameZ k l).take (l.length + 12)) 0 = .bad 2 := by
  obtain ⟨h1, h2, h3⟩ := putErr_zero.1 hp
  have hr : B8 ((frameZ k l).take (l.length + 12)) := (frameZ_B8 hl).take _
  have hlen : ((frameZ k l).take (l.length + 12)).length = l.length + 12 := by rw [List.length_take, frameZ_len]; omega
  have hn : ∀ i, i < 5 → nth ((frameZ k l).take (l.length + 12)) i = nth (leadZ k l.length) i := by
    intro i hi
    rw [nth_take (by omega)]
    have := frame_nth (k := k) (l := l) [] hi
    rwa [List.append_nil] at this
  have hnz : nZ ((frameZ k l).take (l.length + 12)) = l.length := by
    rw [nZ_eq hr, hn 1 (by omega), hn 2 (by omega), hn 3 (by omega), hn 4 (by omega)]
    exact frame_n (m := []) (by omega)
  have h0 : nth ((frameZ k l).take (l.length + 12)) 0 = k := by
    rw [hn 0 (by omega)]
    show IntKind.u8.wrap k = k
    exact wrap_u8 (by omega) (by omega)
  have e9 : ((frameZ k l).take (l.length + 12)).take 9 = sealZ (leadZ k l.length) := by
    rw [List.take_take, Nat.min_eq_left (by omega)]
    have := frame_take9 k l []
    rwa [List.append_nil] at this
  unfold getZ
  rw [if_neg (by simp), Int.toNat_zero, List.drop_zero]
  unfold restZ
  rw [if_neg (by omega), e9, sealed_seal, if_neg (by simp), h0, if_neg (by omega), hnz, if_neg (by omega), if_pos (by omega)]
/-- Bytes that are got are the only ones of their frame. -/
theorem rest_only {r : List Int} (h : B8 r) {p : Int} (he : (restZ r p).err = 0) : ∃ b, (restZ r p).body = some b ∧ b = (r.take ((nZ r).toNat + 9)).drop 9 ∧ putErr (restZ r p).kind b = 0 ∧ (restZ r p).next = p + ((nZ r).toNat + 13 : Nat) ∧ (nZ r).toNat + 13 ≤ r.length ∧ b.length = (nZ r).toNat ∧ frameZ (restZ r p).kind b = r.take ((nZ r).toNat + 13) := by
  unfold restZ at he ⊢
  by_cases h1 : r.length < 9
  · rw [if_pos h1] at he; cases he
  rw [if_neg h1] at he ⊢
  by_cases h2 : sealedB (r.take 9) = false
  · rw [if_pos h2] at he; cases he
  rw [if_neg h2] at he ⊢
  by_cases h3 : nth r 0 = 0
  · rw [if_pos h3] at he; cases he
  rw [if_neg h3] at he ⊢
  by_cases h4 : nZ r > 65536
  · rw [if_pos h4] at he; cases he
  rw [if_neg h4] at he ⊢
  by_cases h5 : nZ r > (r.length : Int) - 13
  · rw [if_pos h5] at he; cases he
  rw [if_neg h5] at he ⊢
  by_cases h6 : sealedB ((r.take ((nZ r).toNat + 13)).drop 9) = false
  · rw [if_pos h6] at he; cases he
  rw [if_neg h6] at he ⊢
  have h0 := (nZ_range r).1
  obtain ⟨m, hm⟩ := Int.eq_ofNat_of_zero_le h0
  rw [hm] at h4 h5 h6 ⊢
  simp only [Int.toNat_natCast] at h6 ⊢
  have hbl : ((r.take (m + 9)).drop 9).length = m := by simp; omega
  have hk := h.nth 0
  have s1 : sealedB (r.take 9) = true := by simpa using h2
  have s2 : sealedB ((r.take (m + 13)).drop 9) = true := by simpa using h6
  refine ⟨_, rfl, rfl, putErr_zero.2 ⟨by omega, by omega, by rw [hbl]; omega⟩, by omega, by omega, hbl, ?_⟩
  -- the two halves
  have a1 : leadZ (nth r 0) ((r.take (m + 9)).drop 9).length = r.take 5 := by
    rw [hbl]
    have e1 : ((m : Int)).fdiv 256 = (m : Int) / 256 := by rw [Int.fdiv_eq_ediv_of_nonneg _ (by omega)]
    have e2 : ((m : Int)).fdiv 65536 = (m : Int) / 65536 := by rw [Int.fdiv_eq_ediv_of_nonneg _ (by omega)]
    have e3 : ((m : Int)).fdiv 16777216 = (m : Int) / 16777216 := by rw [Int.fdiv_eq_ediv_of_nonneg _ (by omega)]
    have hnz := nZ_eq h
    rw [hm] at hnz
    have b1 := h.nth 1; have b2 := h.nth 2; have b3 := h.nth 3; have b4 := h.nth 4
    refine ext_nth (by rw [leadZ_len, List.length_take]; omega) fun i hi => ?_
    rw [leadZ_len] at hi
    rw [nth_take (by omega)]
    unfold leadZ
    rw [e1, e2, e3, wrapU8, wrapU8, wrapU8, wrapU8, wrapU8]
    match i, hi with
    | 0, _ => show nth r 0 % 256 = nth r 0; omega
    | 1, _ => show (m : Int) % 256 = nth r 1; omega
    | 2, _ => show (m : Int) / 256 % 256 = nth r 2; omega
    | 3, _ => show (m : Int) / 65536 % 256 = nth r 3; omega
    | 4, _ => show (m : Int) / 16777216 % 256 = nth r 4; omega
  have seal_of : ∀ {x : List Int}, sealedB x = true → x = sealZ (x.take (x.length - 4)) := by
    intro x hx
    unfold sealedB at hx
    rw [decide_eq_true_eq] at hx
    unfold sealZ
    rw [← hx.2, List.take_append_drop]
  have q1 := seal_of s1
  have q2 := seal_of s2
  have l1 : (r.take 9).length = 9 := by simp; omega
  have l2 : ((r.take (m + 13)).drop 9).length = m + 4 := by simp; omega
  rw [l1, List.take_take] at q1
  rw [l2, show m + 4 - 4 = m by omega] at q2
  have q2' : (r.take (m + 13)).drop 9 = sealZ ((r.take (m + 9)).drop 9) := by
    rw [q2]
    congr 1
    rw [List.drop_take, List.drop_take, List.take_take]
    congr 1
    omega
  unfold frameZ
  rw [a1, ← q2']
  have : r.take 9 = sealZ (r.take 5) := q1
  rw [← this]
  have e9 : r.take 9 = (r.take (m + 13)).take 9 := by rw [List.take_take, Nat.min_eq_left (by omega)]
  rw [e9, List.take_append_drop]

end Go.Proofs.Ytmoegiibdaomlaa.B
