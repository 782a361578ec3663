import Derived.Test.YtiaihiccaoibgaaDoorKeD
set_option linter.unusedSimpArgs false
set_option linter.unusedVariables false
set_option linter.unusedSectionVars false
set_option maxRecDepth 20000
set_option maxHeartbeats 1000000
namespace Go.Proofs.YtiaihiccaoibgaaDoor.B
open Go Go.Ab
def kuZ (k i : Int) : Int := if k ≤ 4 then i - leastR k else i
theorem ksize_pos {k : Int} (h : 1 ≤ k ∧ k ≤ 6) : 1 ≤ ksize k ∧ ksize k ≤ 8 := by
  obtain rfl | rfl | rfl | rfl | rfl | rfl : k = 1 ∨ k = 2 ∨ k = 3 ∨ k = 4 ∨ k = 5 ∨ k = 6 := by omega
  all_goals decide
theorem rep_set (m : Nat) (z x : V) (l : List V) : setCells (List.replicate (m + 1) z ++ l) m [x] = List.replicate m z ++ x :: l := by
  unfold setCells
  have h1 : (List.replicate (m + 1) z ++ l).take m = List.replicate m z := by rw [List.take_append_of_le_length (by simp), List.take_replicate, Nat.min_eq_left (by omega)]
  have h2 : (List.replicate (m + 1) z ++ l).drop (m + 1) = l := by rw [List.drop_append_of_le_length (by simp), List.drop_of_length_le (by simp)]; rfl
  rw [h1, show m + [x].length = m + 1 from rfl, h2]; simp
theorem zeros_one (z : V) (n : Nat) : zeros [z] n = List.replicate n z := by
  unfold zeros
  induction n with
  | zero => rfl
  | succ n ih => rw [List.replicate_succ, List.flatten_cons, ih]; rfl
theorem wrap_i64_range (x : Int) : -9223372036854775808 ≤ IntKind.i64.wrap x ∧ IntKind.i64.wrap x < 9223372036854775808 := by
  have : IntKind.i64.wrap x = Go.RowKit.wrap64 x := by simp [IntKind.wrap, Go.RowKit.wrap64]; omega
  rw [this]; unfold Go.RowKit.wrap64; omega
theorem knum_fact {k v : Int} (hv : i64B v = true) (h1 : 1 ≤ k) (h6 : k ≤ 6) (hh : holdsR k v = true) : ∃ S, IntKind.i64.wrap (v * 2 ^ (64 - 8 * ksize k).toNat) = S ∧ (k ≤ 4 → (S + 9223372036854775808).fdiv (2 ^ (64 - 8 * ksize k).toNat) = kuZ k v) ∧ (-9223372036854775808 ≤ S) ∧ (S < 9223372036854775808) ∧ 0 ≤ kuZ k v ∧ kuZ k v < 256 ^ (ksize k).toNat := by
  obtain ⟨v0, v1⟩ := i64B_iff.1 hv
  obtain ⟨w0, w1⟩ := wrap_i64_range (v * 2 ^ (64 - 8 * ksize k).toNat)
  refine ⟨_, rfl, fun k4 => ?_, w0, w1, ?_⟩
  · obtain rfl | rfl | rfl | rfl : k = 1 ∨ k = 2 ∨ k = 3 ∨ k = 4 := by omega
    all_goals
      unfold holdsR at hh
      simp [ksize] at hh
      simp [ksize, kuZ, leastR]
    · rw [wrap_small (by omega) (by omega), Int.fdiv_eq_ediv_of_nonneg _ (by decide)]; omega
    · rw [wrap_small (by omega) (by omega), Int.fdiv_eq_ediv_of_nonneg _ (by decide)]; omega
    · rw [wrap_small (by omega) (by omega), Int.fdiv_eq_ediv_of_nonneg _ (by decide)]; omega
    · rw [wrap_small (by omega) (by omega)]
  · obtain rfl | rfl | rfl | rfl | rfl | rfl : k = 1 ∨ k = 2 ∨ k = 3 ∨ k = 4 ∨ k = 5 ∨ k = 6 := by omega
    all_goals
      unfold holdsR at hh
      simp [ksize] at hh
      simp [ksize, kuZ, leastR]
      omega
theorem wrap_tmod {x : Int} (h : 0 ≤ x) : IntKind.u8.wrap (x.tmod 256) = IntKind.u8.wrap x := by rw [wrapU8, wrapU8, Int.tmod_eq_emod_of_nonneg h]; omega
noncomputable def k_KNum : Ab.Spec := con2 (ofInt .i64) (ofInt .i64) fun k v _ => if 1 ≤ k ∧ k ≤ 6 ∧ holdsR k v = true ∧ i64B v = true then some (.lst (.fresh 1 true) (ints .u8 (beZ (ksize k).toNat (kuZ k v))) (ksize k).toNat, none) else none
noncomputable def T_KNum : CallF := withF T_rksize 63 k_KNum
theorem T_KNum_ok : CallOk Tryd.prog T_KNum := con_of (A := annOf [] [28] [] false []) fit T_rksize_ok (fn := Tryd.f63) (by kernel_rfl) (by kernel_rfl) (by
  intro args objs r h0
  have c_ksize : ∀ a o, T_rksize 71 a o = k_ksize a o := fun _ _ => rfl
  have c_signed : ∀ a o, T_rksize 72 a o = k_signed a o := fun _ _ => rfl
  have c_Flip : ∀ a o, T_rksize 73 a o = k_Flip a o := fun _ _ => rfl
  obtain ⟨_, _, k, v, rfl, ha, hb, hR⟩ := con2_inv h0
  obtain rfl := ofInt_inv ha
  obtain rfl := ofInt_inv hb
  split at hR
  case isFalse => cases hR
  rename_i h
  obtain ⟨k1, k6, hh, hib⟩ := h
  cases hR
  obtain ⟨n1, n8⟩ := ksize_pos ⟨k1, k6⟩
  obtain ⟨n, hn⟩ := Int.eq_ofNat_of_zero_le (show 0 ≤ ksize k by omega)
  obtain ⟨u, hu⟩ : ∃ u, u = kuZ k v := ⟨_, rfl⟩
  refine .go _ rfl rfl ?_
  obtain ⟨W, hW⟩ : ∃ W, W = IntKind.u64.wrap v := ⟨_, rfl⟩
  have hsub : IntKind.i64.wrap (64 - 8 * (n : Int)) = 64 - 8 * (n : Int) := wrap_small (by omega) (by omega)
  have hsub2 : IntKind.u64.wrap (64 - 8 * (n : Int)) = 64 - 8 * (n : Int) := wrap_u64 (by omega) (by omega)
  have hmul : IntKind.i64.wrap (8 * (n : Int)) = 8 * (n : Int) := wrap_small (by omega) (by omega)
  have hneg : ¬ (64 - 8 * (n : Int) < 0) := by omega
  have hn8 : ((n : Int) < 140737488355328) := by omega
  obtain ⟨S, hS, hT, s0, s1, u0, u2⟩ := knum_fact hib k1 k6 hh
  rw [hn, ← hu] at hT
  rw [hn] at hS u2
  rw [← hu] at u0 u2
  have u1 : u < 18446744073709551616 := Int.lt_of_lt_of_le u2 (by
    rw [Int.toNat_natCast]
    have hle : n ≤ 8 := by omega
    have := Nat.pow_le_pow_right (show 0 < 256 by decide) hle
    have e : ((256 : Int) ^ n) = ((256 ^ n : Nat) : Int) := by simp
    rw [e]; omega)
  by_cases k4 : k ≤ 4
  · have hu2 := hT k4
    simp -implicitDefEqProofs (disch := omega) [c_ksize, k_ksize, k1, k6, hn, c_signed, k_signed, k4, convV, ← hW, hmul, hsub, hsub2, hneg, c_Flip, k_Flip, hS, s0, s1, hu2, hn8, zeros_one, wrap_small]
    obtain ⟨I, hI⟩ : ∃ I : Nat → St → Prop, I = (fun (i : Nat) (z : St) => z.env 6 = .int .u64 (divs i u) ∧ z.env 7 = .ref objs.length 0 0 n 1 ∧ z.env 8 = .int .i64 ((n : Int) - 1 - i) ∧ z.toks = [] ∧ z.low = objs.length ∧ z.objs = objs ++ [.cells (List.replicate (n - i) (.int .u8 0) ++ ints .u8 (beZ i u)) 0]) := ⟨_, rfl⟩
    refine .up n I (by rw [hI]; exact ⟨by simp [divs], by simp, by simp, by simp, by simp, by simp [beZ, lowZ, ints]⟩) ?_
    intro i z hi hz
    rw [hI] at hz
    obtain ⟨e6, e7, e8, ht, hlo, ho⟩ := hz
    rcases Nat.lt_or_ge i n with h | h
    case inr =>
      obtain rfl : i = n := by omega
      have hc : ¬ (0 ≤ (i : Int) - 1 - i) := by omega
      simp -implicitDefEqProofs (disch := omega) [e6, e7, e8, ht, ho, hlo, hc, beZ_len, ← hu]
    obtain ⟨m, hm⟩ : ∃ m, n - i = m + 1 := ⟨n - i - 1, by omega⟩
    have hm2 : m < n := by omega
    rw [show (n : Int) - 1 - i = m by omega] at e8
    have hq : (m : Int) - 1 = (n : Int) - 1 - (i + 1 : Nat) := by omega
    have hm3 : n - (i + 1) = m := by omega
    have hs := fun x => rep_set m (.int .u8 0) x (ints .u8 (beZ i u))
    have hd := divs_fd (n := i) u0 u1
    simp -implicitDefEqProofs (disch := omega) [e6, e7, e8, ht, ho, hlo, hm2, hm, hs, hd, wrap_small, convV]
    rw [hI]
    exact ⟨h, by simp, by simp [e7], by simp; omega, rfl, rfl, by rw [hm3, beZ_succ, wrap_tmod (divs_nn u0 u1).1]; rfl⟩
  · have hWu : W = u := by rw [hu]; unfold kuZ; rw [if_neg k4]; unfold kuZ at hu; rw [if_neg k4] at hu; rw [hW, wrap_u64 (by omega) (by omega)]
    simp -implicitDefEqProofs (disch := omega) [c_ksize, k_ksize, k1, k6, hn, c_signed, k_signed, k4, convV, ← hW, hWu, wrap_small, hn8, zeros_one]
    obtain ⟨I, hI⟩ : ∃ I : Nat → St → Prop, I = (fun (i : Nat) (z : St) => z.env 6 = .int .u64 (divs i u) ∧ z.env 7 = .ref objs.length 0 0 n 1 ∧ z.env 8 = .int .i64 ((n : Int) - 1 - i) ∧ z.toks = [] ∧ z.low = objs.length ∧ z.objs = objs ++ [.cells (List.replicate (n - i) (.int .u8 0) ++ ints .u8 (beZ i u)) 0]) := ⟨_, rfl⟩
    refine .up n I (by rw [hI]; exact ⟨by simp [divs], by simp, by simp, by simp, by simp, by simp [beZ, lowZ, ints]⟩) ?_
    intro i z hi hz
    rw [hI] at hz
    obtain ⟨e6, e7, e8, ht, hlo, ho⟩ := hz
    rcases Nat.lt_or_ge i n with h | h
    case inr =>
      obtain rfl : i = n := by omega
      have hc : ¬ (0 ≤ (i : Int) - 1 - i) := by omega
      simp -implicitDefEqProofs (disch := omega) [e6, e7, e8, ht, ho, hlo, hc, beZ_len, ← hu]
    obtain ⟨m, hm⟩ : ∃ m, n - i = m + 1 := ⟨n - i - 1, by omega⟩
    have hm2 : m < n := by omega
    rw [show (n : Int) - 1 - i = m by omega] at e8
    have hq : (m : Int) - 1 = (n : Int) - 1 - (i + 1 : Nat) := by omega
    have hm3 : n - (i + 1) = m := by omega
    have hs := fun x => rep_set m (.int .u8 0) x (ints .u8 (beZ i u))
    have hd := divs_fd (n := i) u0 u1
    simp -implicitDefEqProofs (disch := omega) [e6, e7, e8, ht, ho, hlo, hm2, hm, hs, hd, wrap_small, convV]
    rw [hI]
    exact ⟨h, by simp, by simp [e7], by simp; omega, rfl, rfl, by rw [hm3, beZ_succ, wrap_tmod (divs_nn u0 u1).1]; rfl⟩)

end Go.Proofs.YtiaihiccaoibgaaDoor.B
set_option maxRecDepth 20000
set_option maxHeartbeats 1000000
namespace Go.Proofs.YtiaihiccaoibgaaDoor.B
open Go Go.Ab
noncomputable def k_CatR : Ab.Spec := con2 some some fun v w objs => match ofIntsR .u8 objs v, ofIntsR .u8 objs w with | some a, some b => bnd (a.length + b.length) 140737488355300 (some (.lst (.fresh 1 false) (ints .u8 (a ++ b)) (a.length + b.length), none)) | _, _ => none
noncomputable def T_CatR : CallF := withF T_KNum 21 k_CatR
theorem T_CatR_ok : CallOk Tryd.prog T_CatR := con_of (A := annOf [8] [] [] false []) fit T_KNum_ok (fn := Tryd.f21) (by kernel_rfl) (by kernel_rfl) (by
  intro args objs r h0
  obtain ⟨v, w, _, _, rfl, hv, hw, hR⟩ := con2_inv h0
  cases hv; cases hw
  split at hR
  case h_2 => cases hR
  rename_i a b ha hb
  obtain ⟨hl, hR⟩ := bnd_inv hR
  cases hR
  obtain ⟨hv, vd, vn, vi⟩ := bytesF ha
  obtain ⟨hw, wd, wn, wi⟩ := bytesF hb
  refine .go _ rfl rfl ?_
  simp [blit0]
  refine .up a.length (fun i s => s.env 0 = v ∧ s.env 1 = w ∧ s.env 5 = .lst (.tok 0 1) (ints .u8 (a.take i)) i ∧ s.env 6 = .int .i64 i ∧ s.toks = [i] ∧ s.objs = objs ∧ s.low = objs.length) (by simp [ints_nil]) ?_
  rintro i s hi ⟨h0, h1, h5, h6, ht, ho, hlo⟩
  rcases Nat.lt_or_ge i a.length with h | h
  · have e := take_nth h
    have hm : min i a.length = i := by omega
    have ix := vi i h
    have g := byte_at hv h
    simp (disch := omega) [h0, h1, h5, h6, ht, ho, hlo, vn, ix, g, h, blit1, e, wrap_small, Nat.mod_one, hm]
  · obtain rfl : i = a.length := by omega
    simp [h0, h1, h5, h6, ht, ho, hlo, vn]
    refine .up b.length (fun i s => s.env 1 = w ∧ s.env 5 = .lst (.tok 0 1) (ints .u8 (a ++ b.take i)) (a.length + i) ∧ s.env 7 = .int .i64 i ∧ s.toks = [a.length + i] ∧ s.objs = objs ∧ s.low = objs.length) (by simp [h0, h1, h5, h6, ht, ho, hlo]) ?_
    rintro i s hi ⟨h1, h5, h7, ht, ho, hlo⟩
    rcases Nat.lt_or_ge i b.length with h | h
    · have e := take_nth h
      have hm : min i b.length = i := by omega
      have ix := wi i h
      have g := byte_at hw h
      simp (disch := omega) [h1, h5, h7, ht, ho, hlo, wn, ix, g, h, blit1, e, wrap_small, Nat.mod_one, hm, Nat.add_assoc]
    · obtain rfl : i = b.length := by omega
      simp [h1, h5, h7, ht, ho, hlo, wn])

/-! what a key's cell is written as -/
def esc (c : Int) : List Int := if c = 0 then [0, 255] else [c]
def escZ (l : List Int) : List Int := l.flatMap esc
def kput (k i : Int) (l : List Int) : List Int := if k ≤ 6 then beZ (ksize k).toNat (kuZ k i) else if k = 7 then l ++ [0] else l.flatMap esc ++ [0, 0]
theorem esc_len (c : Int) : 1 ≤ (esc c).length ∧ (esc c).length ≤ 2 := by unfold esc; split <;> simp
theorem flat_esc (l : List Int) : l.length ≤ (l.flatMap esc).length ∧ (l.flatMap esc).length ≤ 2 * l.length := by
  induction l with
  | nil => simp
  | cons c l ih => have := esc_len c; simp only [List.flatMap_cons, List.length_append, List.length_cons]; omega
theorem chk_key {k i : Int} {n : Bool} {l : List Int} (h : checkR k false n i l = 0) : n = false ∧ 1 ≤ k ∧ k ≤ 8 ∧ (k ≤ 6 → holdsR k i = true ∧ l = []) ∧ (6 < k → i = 0 ∧ textR k l = 0) ∧ l.length ≤ 200 := by
  unfold checkR at h
  split at h
  · cases h
  rename_i hk
  split at h
  · split at h
    · rename_i h2; simp at h2
    · cases h
  rename_i hn
  refine ⟨by cases n <;> simp_all, by omega, by omega, ?_⟩
  split at h
  · rename_i k6
    split at h
    · rename_i h2
      refine ⟨fun _ => ⟨?_, h2⟩, fun q => by omega, by rw [h2]; simp⟩
      split at h
      · assumption
      · cases h
    · cases h
  · rename_i k6
    split at h
    · rename_i h2
      refine ⟨fun q => by omega, fun _ => ⟨h2, h⟩, ?_⟩
      unfold textR at h; split at h
      · cases h
      · omega
    · cases h
def accK (k : Int) (l : List Int) : List Int := if k = 8 then l.flatMap esc else l
theorem accK_len (k : Int) (l : List Int) : (accK k l).length ≤ 2 * l.length := by
  unfold accK; split
  · exact (flat_esc l).2
  · omega
theorem accK_snoc (k : Int) (l : List Int) (c : Int) : accK k (l ++ [c]) = if k = 8 ∧ c = 0 then accK k l ++ [c] ++ [255] else accK k l ++ [c] := by
  unfold accK
  by_cases h : k = 8
  · by_cases hc : c = 0
    · simp [h, hc, esc]
    · simp [h, hc, esc]
  · simp [h]
theorem kput_text {k i : Int} {l : List Int} (h6 : 6 < k) (h8 : k ≤ 8) : kput k i l = if k = 8 then accK k l ++ [0] ++ [0] else accK k l ++ [0] := by
  unfold kput accK
  rw [if_neg (by omega)]
  by_cases h : k = 8
  · simp [h]
  · rw [if_pos (by omega), if_neg h, if_neg h]
theorem kput_len {k i : Int} {n : Bool} {l : List Int} (h : checkR k false n i l = 0) : 1 ≤ (kput k i l).length ∧ (kput k i l).length ≤ 402 := by
  obtain ⟨-, k1, k8, h6, -, hl⟩ := chk_key h
  by_cases k6 : k ≤ 6
  · have := ksize_pos ⟨k1, k6⟩
    unfold kput; rw [if_pos k6, beZ_len]; omega
  · rw [kput_text (by omega) k8]
    have := accK_len k l
    split <;> simp <;> omega
def kputV (o : LK) (k i : Int) (l : List Int) : V := .lst o (ints .u8 (kput k i l)) (kput k i l).length
noncomputable def k_rKput : Ab.Spec := con2 (ofInt .i64) some fun k v objs => match v with
  | .agg [.bool n, .int .i64 i, a] => match ofIntsR .u8 objs a with
    | some l => if checkR k false n i l = 0 ∧ i64B i = true ∧ b8 l = true then some (kputV (.fresh 1 false) k i l, none) else none
    | none => none
  | _ => none
noncomputable def T_rKput : CallF := withF T_CatR 38 k_rKput
theorem T_rKput_ok : CallOk Tryd.prog T_rKput := con_of (A := annOf [10,42,58,71,74,79] [] [] false []) fit T_CatR_ok (fn := Tryd.f38) (by kernel_rfl) (by kernel_rfl) (by
  intro args objs r h0
  have c_rksize : ∀ a o, T_CatR 56 a o = k_rksize a o := fun _ _ => rfl
  have c_Low : ∀ a o, T_CatR 55 a o = k_Low a o := fun _ _ => rfl
  have c_Least : ∀ a o, T_CatR 52 a o = k_Least a o := fun _ _ => rfl
  obtain ⟨_, v, k, _, rfl, hk, hv, hR⟩ := con2_inv h0
  obtain rfl := ofInt_inv hk
  cases hv
  split at hR
  case h_2 => cases hR
  rename_i n i a
  split at hR
  case h_2 => cases hR
  rename_i l ha
  split at hR
  case isFalse => cases hR
  rename_i hc
  obtain ⟨hc, hib, h8⟩ := hc
  cases hR
  obtain ⟨rfl, k1, k8, c6, c7, hl⟩ := chk_key hc
  obtain ⟨v0, v1⟩ := i64B_iff.1 hib
  obtain ⟨a1, a2, a3, a4⟩ := one_ofR ha
  have ha2 := ofIntsR_app (m := [.cells [.bool false, .int .i64 i, a] 0]) ha
  obtain ⟨hv, vd, vn, vi⟩ := bytesF ha2
  obtain ⟨O, hO⟩ : ∃ O, O = objs ++ [.cells [.bool false, .int .i64 i, a] 0] := ⟨_, rfl⟩
  have b1 : Ab.getObj O objs.length 0 = some [.bool false, .int .i64 i, a] := by rw [hO]; simp
  have hOl : ¬ O.length < objs.length := by rw [hO]; simp
  rw [← hO] at hv
  refine .go _ rfl rfl ?_
  by_cases k6 : k ≤ 6
  · obtain ⟨hh, -⟩ := c6 k6
    obtain ⟨S, -, -, -, -, u0, u1⟩ := knum_fact hib k1 k6 hh
    obtain ⟨n1, n8⟩ := ksize_pos ⟨k1, k6⟩
    obtain ⟨n, hn⟩ := Int.eq_ofNat_of_zero_le (show 0 ≤ ksize k by omega)
    obtain ⟨u, hu⟩ : ∃ u, u = kuZ k i := ⟨_, rfl⟩
    obtain ⟨W, hW⟩ : ∃ W, W = IntKind.u64.wrap i := ⟨_, rfl⟩
    obtain ⟨L, hL⟩ : ∃ L, L = lowZ n u := ⟨_, rfl⟩
    have hLl : L.length = n := by rw [hL, lowZ_len]
    have hKP : kput k i l = L.reverse := by unfold kput; rw [if_pos k6, hn, ← hu, hL]; rfl
    rw [← hu, hn, Int.toNat_natCast] at u1
    rw [← hu] at u0
    have hu64 : u < 18446744073709551616 := Int.lt_of_lt_of_le u1 (by
      have hle : n ≤ 8 := by omega
      have := Nat.pow_le_pow_right (show 0 < 256 by decide) hle
      have e : ((256 : Int) ^ n) = ((256 ^ n : Nat) : Int) := by simp
      rw [e]; omega)
    have e1 : ofIntsR .u8 O (.lst .frozen (ints .u8 L) L.length) = some L := ofIntsR_of (ofInts_lst rfl)
    by_cases k4 : k ≤ 4
    · have hw : IntKind.u64.wrap (W - IntKind.u64.wrap (leastR k)) = u := by
        rw [hu] at u0 u1 ⊢
        have u2 : kuZ k i < 18446744073709551616 := by rw [← hu]; exact hu64
        unfold kuZ at u0 u2 ⊢
        rw [if_pos k4] at u0 u2 ⊢
        rw [hW, wrapU64, wrapU64, wrapU64]; omega
      simp -implicitDefEqProofs (disch := omega) [blit0, a1, a2, a3, a4, setCells, ← hO, b1, k6, k4, convV, ← hW, c_Least, k_Least, c_rksize, k_rksize, k1, hn, c_Low, k_Low, hw, ← hL]
      obtain ⟨I, hI⟩ : ∃ I : Nat → St → Prop, I = (fun (j : Nat) (z : St) => z.env 5 = .lst (.tok 0 1) (ints .u8 (L.reverse.take j)) j ∧ z.env 7 = .lst .frozen (ints .u8 L) n ∧ z.env 8 = .int .i64 ((n : Int) - 1 - j) ∧ z.toks = [j] ∧ z.low = objs.length ∧ z.objs = O) := ⟨_, rfl⟩
      refine .up n I (by rw [hI]; exact ⟨by simp [ints_nil], by simp, by simp; rw [wrap_small (by omega) (by omega)], by simp, by simp, by simp⟩) ?_
      intro j z hi hz
      rw [hI] at hz
      obtain ⟨e5, e7, e8, ht, hlo, ho⟩ := hz
      rcases Nat.lt_or_ge j n with h | h
      case inr =>
        obtain rfl : j = n := by omega
        have hq : ¬ (0 ≤ (j : Int) - 1 - j) := by omega
        have ht2 : L.reverse.take j = L.reverse := List.take_of_length_le (by simp; omega)
        simp -implicitDefEqProofs (disch := omega) [e5, e7, e8, ht, ho, hlo, hq, ht2, kputV, hKP, hLl]
      obtain ⟨m, hm⟩ : ∃ m, n = j + m + 1 := ⟨n - j - 1, by omega⟩
      have hm2 : m < n := by omega
      rw [show (n : Int) - 1 - j = m by omega] at e8
      have ht2 : L.reverse.take (j + 1) = L.reverse.take j ++ [nth L m] := by
        rw [take_nth (by simp; omega)]
        congr 2
        rw [nth_lt (by simp; omega), nth_lt (by omega), List.getElem_reverse]
        congr 1; omega
      have ht3 : (L.reverse.take j).length = j := by simp; omega
      have g := ints_nth (k := .u8) (l := L) (i := m) (by omega)
      simp -implicitDefEqProofs (disch := omega) [e5, e7, e8, ht, ho, hlo, hm2, g, hLl, blit1, wrap_small, Nat.mod_one]
      rw [hI]
      exact ⟨h, by simp [ht2], by simp [e7], by simp; omega, by simp, rfl, rfl⟩
    · have hw : W = u := by rw [hu]; unfold kuZ; rw [if_neg k4]; rw [hu] at u0 hu64; unfold kuZ at u0 hu64; rw [if_neg k4] at u0 hu64; rw [hW, wrap_u64 u0 hu64]
      simp -implicitDefEqProofs (disch := omega) [blit0, a1, a2, a3, a4, setCells, ← hO, b1, k6, k4, convV, ← hW, c_rksize, k_rksize, k1, hn, c_Low, k_Low, hw, ← hL]
      obtain ⟨I, hI⟩ : ∃ I : Nat → St → Prop, I = (fun (j : Nat) (z : St) => z.env 5 = .lst (.tok 0 1) (ints .u8 (L.reverse.take j)) j ∧ z.env 7 = .lst .frozen (ints .u8 L) n ∧ z.env 8 = .int .i64 ((n : Int) - 1 - j) ∧ z.toks = [j] ∧ z.low = objs.length ∧ z.objs = O) := ⟨_, rfl⟩
      refine .up n I (by rw [hI]; exact ⟨by simp [ints_nil], by simp, by simp; rw [wrap_small (by omega) (by omega)], by simp, by simp, by simp⟩) ?_
      intro j z hi hz
      rw [hI] at hz
      obtain ⟨e5, e7, e8, ht, hlo, ho⟩ := hz
      rcases Nat.lt_or_ge j n with h | h
      case inr =>
        obtain rfl : j = n := by omega
        have hq : ¬ (0 ≤ (j : Int) - 1 - j) := by omega
        have ht2 : L.reverse.take j = L.reverse := List.take_of_length_le (by simp; omega)
        simp -implicitDefEqProofs (disch := omega) [e5, e7, e8, ht, ho, hlo, hq, ht2, kputV, hKP, hLl]
      obtain ⟨m, hm⟩ : ∃ m, n = j + m + 1 := ⟨n - j - 1, by omega⟩
      have hm2 : m < n := by omega
      rw [show (n : Int) - 1 - j = m by omega] at e8
      have ht2 : L.reverse.take (j + 1) = L.reverse.take j ++ [nth L m] := by
        rw [take_nth (by simp; omega)]
        congr 2
        rw [nth_lt (by simp; omega), nth_lt (by omega), List.getElem_reverse]
        congr 1; omega
      have ht3 : (L.reverse.take j).length = j := by simp; omega
      have g := ints_nth (k := .u8) (l := L) (i := m) (by omega)
      simp -implicitDefEqProofs (disch := omega) [e5, e7, e8, ht, ho, hlo, hm2, g, hLl, blit1, wrap_small, Nat.mod_one]
      rw [hI]
      exact ⟨h, by simp [ht2], by simp [e7], by simp; omega, by simp, rfl, rfl⟩
  · obtain ⟨A, hA⟩ : ∃ A : Nat → List Int, A = fun j => accK k (l.take j) := ⟨_, rfl⟩
    have hAl : ∀ j, (A j).length ≤ 2 * j := fun j => by
      have := accK_len k (l.take j)
      rw [hA]; simp only [List.length_take] at this ⊢; omega
    have hA0 : A 0 = [] := by rw [hA]; simp [accK]
    have hAn : A l.length = accK k l := by rw [hA]; simp
    have hAs : ∀ j, j < l.length → A (j + 1) = if k = 8 ∧ nth l j = 0 then A j ++ [nth l j] ++ [255] else A j ++ [nth l j] := fun j hj => by rw [hA]; simp only; rw [take_nth hj, accK_snoc]
    simp -implicitDefEqProofs (disch := omega) [blit0, a1, a2, a3, a4, setCells, ← hO, b1, k6]
    obtain ⟨I, hI⟩ : ∃ I : Nat → St → Prop, I = (fun (j : Nat) (z : St) => z.env 0 = .int .i64 k ∧ z.env 3 = .ptr objs.length 0 0 ∧ z.env 5 = .lst (.tok 0 1) (ints .u8 (A j)) (A j).length ∧ z.env 9 = .int .i64 j ∧ z.toks = [(A j).length] ∧ z.low = objs.length ∧ z.objs = O) := ⟨_, rfl⟩
    refine .up l.length I (by rw [hI]; exact ⟨by simp, by simp, by simp [hA0, ints_nil], by simp, by simp [hA0], by simp, by simp⟩) ?_
    intro j z hi hz
    rw [hI] at hz
    obtain ⟨e0, e3, e5, e9, ht, hlo, ho⟩ := hz
    have hb := hAl j
    rcases Nat.lt_or_ge j l.length with h | h
    case inr =>
      obtain rfl : j = l.length := by omega
      have hkp := kput_text (i := i) (l := l) (show 6 < k by omega) k8
      rw [← hAn] at hkp
      obtain ⟨B, hB⟩ : ∃ B, B = A l.length := ⟨_, rfl⟩
      rw [← hB] at e5 ht hb hkp
      by_cases h8 : k = 8
      · subst h8
        rw [if_pos rfl] at hkp
        simp -implicitDefEqProofs (disch := omega) [e0, e3, e5, e9, ht, ho, hlo, b1, a1, vn, blit1, Nat.mod_one, kputV, hkp]
      · rw [if_neg h8] at hkp
        simp -implicitDefEqProofs (disch := omega) [e0, e3, e5, e9, ht, ho, hlo, b1, a1, vn, h8, blit1, Nat.mod_one, kputV, hkp]
    have hs := hAs j h
    have ix := vi j h
    have g := byte_at hv h
    by_cases h8 : k = 8 ∧ nth l j = 0
    · rw [if_pos h8] at hs
      obtain ⟨q1, q2⟩ := h8
      simp -implicitDefEqProofs (disch := omega) [e0, e3, e5, e9, ht, ho, hlo, b1, a1, vn, ix, g, h, q1, q2, blit1, wrap_small, Nat.mod_one]
      rw [hI]
      exact ⟨by simp [e0], by simp [e3], by rw [hs]; simp [q2], by simp, by rw [hs]; simp, rfl, rfl⟩
    · rw [if_neg h8] at hs
      by_cases q1 : k = 8
      · have q2 : ¬ nth l j = 0 := fun q => h8 ⟨q1, q⟩
        simp -implicitDefEqProofs (disch := omega) [e0, e3, e5, e9, ht, ho, hlo, b1, a1, vn, ix, g, h, q1, q2, blit1, wrap_small, Nat.mod_one]
        rw [hI]
        exact ⟨by simp [e0], by simp [e3], by rw [hs]; simp, by simp, by rw [hs]; simp, rfl, rfl⟩
      · simp -implicitDefEqProofs (disch := omega) [e0, e3, e5, e9, ht, ho, hlo, b1, a1, vn, ix, g, h, q1, blit1, wrap_small, Nat.mod_one]
        rw [hI]
        exact ⟨by simp [e0], by simp [e3], by rw [hs]; simp, by simp, by rw [hs]; simp, rfl, rfl⟩)

end Go.Proofs.YtiaihiccaoibgaaDoor.B
set_option maxRecDepth 20000
set_option maxHeartbeats 1000000
namespace Go.Proofs.YtiaihiccaoibgaaDoor.B
open Go Go.Ab
/-! bytes.Count, Index and Replace at one byte -/
noncomputable def k_bCount : Ab.Spec := con2 some (ofInt .u8) fun v x objs => match ofIntsR .u8 objs v with | some a => some (.int .i64 (Lib.countByte (Lib.bytesOf a) x.toNat.toUInt8 : Nat), none) | _ => none
noncomputable def T_bCount : CallF := withF T_rKput 91 k_bCount
theorem T_bCount_ok : CallOk Tryd.prog T_bCount := con_ext Extern.BytealgCount.count T_rKput_ok (fn := Tryd.f91) (by kernel_rfl) (by kernel_rfl) rfl (by kernel_rfl) (by kernel_rfl) (by
  intro args objs r h0
  obtain ⟨v, _, _, x, rfl, hv, hx, hR⟩ := con2_inv h0
  cases hv
  obtain rfl := ofInt_inv hx
  split at hR
  case h_2 => cases hR
  rename_i a ha
  cases hR
  refine ⟨rfl, rfl, fun G w1 cargs hs hA => ?_⟩
  obtain ⟨x1, y, hxy⟩ : ∃ x y, cargs = #[x, y] := by
    have hl := hA.len
    match cargs, hl with
    | ⟨[x, y]⟩, _ => exact ⟨x, y, rfl⟩
  subst hxy
  obtain ⟨⟨vx, -⟩, ⟨vy, -⟩, -⟩ := hA
  have h1 := read_bytes (P := Tryd.prog) hs vx ha
  refine ⟨.int .i64 (Lib.countByte (Lib.bytesOf a) x.toNat.toUInt8 : Nat), ?_, .int⟩
  cases vy
  have hS := Lib.run_countString (P := Tryd.prog) ⟨(Lib.bytesOf a).toArray⟩ x w1
  change Sem.run Tryd.prog (do
    let b ← Extern.Bytes.bytesOf x1
    let c ← Extern.Bytes.asByte (.int .u8 x)
    pure (goInt (b.foldl (fun n x => if x == c then n + 1 else n) (0 : Nat)))) w1 = _
  change Sem.run Tryd.prog (do
    let b ← Extern.Bytes.bytesOf (.string ⟨(Lib.bytesOf a).toArray⟩)
    let c ← Extern.Bytes.asByte (.int .u8 x)
    pure (goInt (b.foldl (fun n x => if x == c then n + 1 else n) (0 : Nat)))) w1 = _ at hS
  simp only [Extern.Bytes.bytesOf, Sem.run_bind, Sem.run_pure, Result.andThen] at hS
  simp only [Sem.run_bind, Sem.run_pure, h1, Result.andThen]
  exact hS)
theorem cnt0 : ∀ {l : List Int}, (∀ c ∈ l, 0 ≤ c ∧ c < 256) → Lib.countByte (Lib.bytesOf l) (0 : Int).toNat.toUInt8 = l.count 0
  | [], _ => rfl
  | x :: l, h => by
    have hx := h x List.mem_cons_self
    have ih := cnt0 (l := l) (fun y hy => h y (List.mem_cons_of_mem _ hy))
    have hb : Lib.bytesOf (x :: l) = UInt8.ofNat x.toNat :: Lib.bytesOf l := rfl
    unfold Lib.countByte at ih ⊢
    rw [hb, List.count_cons, List.count_cons, ih]
    congr 1
    by_cases h0 : x = 0
    · subst h0; rfl
    · have hne : (UInt8.ofNat x.toNat == (0 : Int).toNat.toUInt8) = false := by
        rw [beq_eq_false_iff_ne]
        intro he
        have := congrArg UInt8.toNat he
        simp only [UInt8.toNat_ofNat', Int.toNat_zero] at this
        have h2 : x.toNat % 2 ^ 8 = x.toNat := Nat.mod_eq_of_lt (by omega)
        rw [h2] at this
        have h3 : ((0 : Nat).toUInt8).toNat = 0 := rfl
        omega
      have hne2 : (x == 0) = false := by simpa using h0
      rw [hne, hne2]
theorem idx0_zero (l : List Int) : idxB (0 :: l) 0 = 0 := by
  unfold idxB
  have hb : Lib.bytesOf ((0 : Int) :: l) = (0 : Int).toNat.toUInt8 :: Lib.bytesOf l := rfl
  rw [hb, Lib.indexByte]; simp
theorem idx0_cons {x : Int} {l : List Int} (hx : 0 ≤ x ∧ x < 256) (h0 : x ≠ 0) : idxB (x :: l) 0 = if idxB l 0 = -1 then -1 else idxB l 0 + 1 := by
  unfold idxB
  have hb : Lib.bytesOf (x :: l) = UInt8.ofNat x.toNat :: Lib.bytesOf l := rfl
  have hne : (UInt8.ofNat x.toNat == (0 : Int).toNat.toUInt8) = false := by
    rw [beq_eq_false_iff_ne]
    intro he
    have := congrArg UInt8.toNat he
    simp only [UInt8.toNat_ofNat', Int.toNat_zero] at this
    have h2 : x.toNat % 2 ^ 8 = x.toNat := Nat.mod_eq_of_lt (by omega)
    rw [h2] at this
    have h3 : ((0 : Nat).toUInt8).toNat = 0 := rfl
    omega
  rw [hb, Lib.indexByte, hne]
  simp only [Bool.false_eq_true, if_false, beq_iff_eq]
theorem idx_split : ∀ {l : List Int}, (∀ c ∈ l, 0 ≤ c ∧ c < 256) → (idxB l 0 = -1 ∧ (0 : Int) ∉ l) ∨ ∃ p s : List Int, l = p ++ 0 :: s ∧ (0 : Int) ∉ p ∧ idxB l 0 = (p.length : Int)
  | [], _ => .inl ⟨rfl, by simp⟩
  | x :: l, h => by
    have hx := h x List.mem_cons_self
    by_cases h0 : x = 0
    · subst h0
      exact .inr ⟨[], l, rfl, by simp, idx0_zero l⟩
    · rcases idx_split (l := l) (fun y hy => h y (List.mem_cons_of_mem _ hy)) with ⟨h1, h2⟩ | ⟨p, s, h1, h2, h3⟩
      · refine .inl ⟨by rw [idx0_cons hx h0, if_pos h1], ?_⟩
        rw [List.mem_cons]; rintro (q | q)
        · exact h0 q.symm
        · exact h2 q
      · refine .inr ⟨x :: p, s, by rw [h1]; rfl, ?_, ?_⟩
        · rw [List.mem_cons]; rintro (q | q)
          · exact h0 q.symm
          · exact h2 q
        · rw [idx0_cons hx h0, if_neg (by omega), h3]; simp
theorem esc_none : ∀ {p : List Int}, (0 : Int) ∉ p → p.flatMap esc = p
  | [], _ => rfl
  | x :: p, h => by
    rw [List.mem_cons, not_or] at h
    rw [List.flatMap_cons, esc_none h.2]
    unfold esc
    rw [if_neg (fun q => h.1 q.symm)]; rfl
theorem esc_count : ∀ (l : List Int), (l.flatMap esc).length = l.length + l.count 0
  | [] => rfl
  | x :: l => by
    rw [List.flatMap_cons, List.length_append, esc_count l, List.length_cons, List.count_cons]
    unfold esc
    by_cases h : x = 0
    · subst h; simp; omega
    · have h2 : (x == 0) = false := by simpa using h
      rw [if_neg h, h2]; simp; omega
theorem set_rep {A ys : List V} {M w : Nat} {z : V} (hw : A.length = w) (h : ys.length ≤ M) : setCells (A ++ List.replicate M z) w ys = A ++ ys ++ List.replicate (M - ys.length) z := by
  subst hw
  unfold setCells
  rw [List.take_left, ← List.drop_drop, List.drop_left, List.drop_replicate]
noncomputable def k_bcount : Ab.Spec := con2 some some fun v w objs => match ofIntsR .u8 objs v, ofIntsR .u8 objs w with | some a, some [x] => some (.int .i64 (Lib.countByte (Lib.bytesOf a) x.toNat.toUInt8 : Nat), none) | _, _ => none
noncomputable def T_bcount : CallF := withF T_bCount 83 k_bcount
theorem T_bcount_ok : CallOk Tryd.prog T_bcount := con_of (A := annOf [] [] [] false []) fit T_bCount_ok (fn := Tryd.f83) (by kernel_rfl) (by kernel_rfl) (by
  intro args objs r h0
  have c_bCount : ∀ a o, T_bCount 91 a o = k_bCount a o := fun _ _ => rfl
  obtain ⟨v, w, _, _, rfl, hv, hw, hR⟩ := con2_inv h0
  cases hv; cases hw
  split at hR
  case h_2 => cases hR
  rename_i a x ha hx
  cases hR
  obtain ⟨_, vd, -⟩ := bsR ha
  obtain ⟨hw, wd, wn, wi⟩ := bytesF hx
  have ix := wi 0 (by simp)
  have g := byte_at hw (i := 0) (by simp)
  have wn1 : lenV Tryd.prog 28 w = some (.int .i64 1) := wn
  have g2 : loadV Tryd.prog 5 objs (ptAt w (ints .u8 [x]) 0) = some (.int .u8 x) := g
  have ix2 : indexV Tryd.prog 28 w (.int .i64 0) = some (ptAt w (ints .u8 [x]) 0) := ix
  refine .go _ rfl rfl ?_
  simp -implicitDefEqProofs [vd, wd, wn1, ix2, g2, c_bCount, k_bCount, ha])
noncomputable def k_bindex : Ab.Spec := con2 some some fun v w objs => match ofIntsR .u8 objs v, ofIntsR .u8 objs w with | some a, some [x] => some (.int .i64 (idxB a x), none) | _, _ => none
noncomputable def T_bindex : CallF := withF T_bcount 84 k_bindex
theorem T_bindex_ok : CallOk Tryd.prog T_bindex := con_of (A := annOf [] [] [] false []) fit T_bcount_ok (fn := Tryd.f84) (by kernel_rfl) (by kernel_rfl) (by
  intro args objs r h0
  have c_IndexByte : ∀ a o, T_bcount 64 a o = k_IndexByte a o := fun _ _ => rfl
  obtain ⟨v, w, _, _, rfl, hv, hw, hR⟩ := con2_inv h0
  cases hv; cases hw
  split at hR
  case h_2 => cases hR
  rename_i a x ha hx
  cases hR
  obtain ⟨_, vd, -⟩ := bsR ha
  obtain ⟨hw, wd, wn, wi⟩ := bytesF hx
  have ix := wi 0 (by simp)
  have g := byte_at hw (i := 0) (by simp)
  have wn1 : lenV Tryd.prog 28 w = some (.int .i64 1) := wn
  have g2 : loadV Tryd.prog 5 objs (ptAt w (ints .u8 [x]) 0) = some (.int .u8 x) := g
  have ix2 : indexV Tryd.prog 28 w (.int .i64 0) = some (ptAt w (ints .u8 [x]) 0) := ix
  refine .go _ rfl rfl ?_
  simp -implicitDefEqProofs [vd, wd, wn1, ix2, g2, c_IndexByte, k_IndexByte, ha])

end Go.Proofs.YtiaihiccaoibgaaDoor.B
