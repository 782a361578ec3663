import Derived.Test.YtmoegiibdaomlaaFx2
set_option linter.unusedSimpArgs false
set_option linter.unusedVariables false
set_option linter.unusedSectionVars false
set_option maxRecDepth 20000
set_option maxHeartbeats 1000000
namespace Go.Proofs.Ytmoegiibdaomlaa.B
open Go Go.Ab
/-! the document's sum behind the bytes is the program's -/
theorem u64_small {n : Int} (h0 : 0 ≤ n) (h1 : n < 18446744073709551616) : IntKind.u64.wrap n = n := wrap_u64 h0 h1
theorem divs_le {s : Int} (h0 : 0 ≤ s) (h1 : s < 18446744073709551616) : IntKind.u64.wrap (s.tdiv 256) = s / 256 := by
  rw [Int.tdiv_eq_ediv_of_nonneg h0, u64_small (by omega) (by omega)]
theorem low4 {s : Int} (h : R32 s) : lowZ 4 (IntKind.u64.wrap s) = tailZ s := by
  obtain ⟨h0, h1⟩ := h
  rw [u64_small h0 (by omega)]
  have d1 : divs 1 s = s / 256 := by simp only [divs]; exact divs_le h0 (by omega)
  have d2 : divs 2 s = s / 256 / 256 := by
    have : divs 2 s = IntKind.u64.wrap ((divs 1 s).tdiv 256) := rfl
    rw [this, d1]; exact divs_le (by omega) (by omega)
  have d3 : divs 3 s = s / 256 / 256 / 256 := by
    have : divs 3 s = IntKind.u64.wrap ((divs 2 s).tdiv 256) := rfl
    rw [this, d2]; exact divs_le (by omega) (by omega)
  have e : lowZ 4 s = [IntKind.u8.wrap ((divs 0 s).tmod 256), IntKind.u8.wrap ((divs 1 s).tmod 256), IntKind.u8.wrap ((divs 2 s).tmod 256), IntKind.u8.wrap ((divs 3 s).tmod 256)] := rfl
  have d0 : divs 0 s = s := rfl
  rw [e, d0, d1, d2, d3]
  unfold tailZ
  simp only [wrapU8, Int.fdiv_eq_ediv_of_nonneg _ (show (0 : Int) ≤ 256 by omega), Int.fdiv_eq_ediv_of_nonneg _ (show (0 : Int) ≤ 65536 by omega), Int.fdiv_eq_ediv_of_nonneg _ (show (0 : Int) ≤ 16777216 by omega), List.cons.injEq, and_true]
  rw [Int.tmod_eq_emod_of_nonneg h0, Int.tmod_eq_emod_of_nonneg (by omega), Int.tmod_eq_emod_of_nonneg (by omega), Int.tmod_eq_emod_of_nonneg (by omega)]
  refine ⟨?_, ?_, ?_, ?_⟩ <;> omega
theorem rsum_r (l : List Int) : rsumZ l = sumZ [l] := by rw [rsum_eq]; rfl
theorem rseal_eq (l : List Int) : rsealZ l = sealZ l := by
  unfold rsealZ sealZ
  rw [rsum_r, low4]
  rw [← rsum_r, rsum_eq]; exact extend_r _ _
theorem val4 {a b c d : Int} (ha : 0 ≤ a ∧ a < 256) (hb : 0 ≤ b ∧ b < 256) (hc : 0 ≤ c ∧ c < 256) (hd : 0 ≤ d ∧ d < 256) : valZ [a, b, c, d] = a + 256 * (b + 256 * (c + 256 * d)) := by
  simp only [valZ, List.foldr_cons, List.foldr_nil, vstep]
  rw [u64_small (n := 0 * 256) (by omega) (by omega), u64_small (n := d) (by omega) (by omega), u64_small (n := 0 * 256 + d) (by omega) (by omega),
    u64_small (n := (0 * 256 + d) * 256) (by omega) (by omega), u64_small (n := c) (by omega) (by omega), u64_small (n := (0 * 256 + d) * 256 + c) (by omega) (by omega),
    u64_small (n := ((0 * 256 + d) * 256 + c) * 256) (by omega) (by omega), u64_small (n := b) (by omega) (by omega), u64_small (n := ((0 * 256 + d) * 256 + c) * 256 + b) (by omega) (by omega),
    u64_small (n := (((0 * 256 + d) * 256 + c) * 256 + b) * 256) (by omega) (by omega), u64_small (n := a) (by omega) (by omega), u64_small (n := (((0 * 256 + d) * 256 + c) * 256 + b) * 256 + a) (by omega) (by omega)]
  omega
theorem rsealed_eq {l : List Int} (h : B8 l) : rsealedB l = sealedB l := by
  unfold rsealedB sealedB
  by_cases h4 : 4 ≤ l.length
  · have hl : (l.drop (l.length - 4)).length = 4 := by simp; omega
    have hb := h.drop (l.length - 4)
    obtain ⟨q, hq⟩ : ∃ q, q = l.drop (l.length - 4) := ⟨_, rfl⟩
    rw [← hq] at hl hb ⊢
    obtain ⟨a, b, c, d, rfl⟩ : ∃ a b c d, q = [a, b, c, d] := by
      match q, hl with
      | [a, b, c, d], _ => exact ⟨a, b, c, d, rfl⟩
    have ha := hb a (by simp)
    have hb' := hb b (by simp)
    have hc := hb c (by simp)
    have hd := hb d (by simp)
    have hs : R32 (sumZ [l.take (l.length - 4)]) := by rw [← rsum_r, rsum_eq]; exact extend_r _ _
    rw [rsum_r]
    obtain ⟨s, hs'⟩ : ∃ s, s = sumZ [l.take (l.length - 4)] := ⟨_, rfl⟩
    rw [← hs'] at hs ⊢
    obtain ⟨s0, s1⟩ := hs
    rw [u64_small s0 (by omega), val4 ha hb' hc hd]
    refine decide_eq_decide.2 (and_congr_right fun _ => ?_)
    unfold tailZ
    simp only [wrapU8, Int.fdiv_eq_ediv_of_nonneg _ (show (0 : Int) ≤ 256 by omega), Int.fdiv_eq_ediv_of_nonneg _ (show (0 : Int) ≤ 65536 by omega), Int.fdiv_eq_ediv_of_nonneg _ (show (0 : Int) ≤ 16777216 by omega), List.cons.injEq, and_true]
    omega
  · rw [decide_eq_false (by omega), decide_eq_false (by omega)]

theorem low1 {k : Int} (h0 : 0 ≤ k) (h1 : k < 256) : lowZ 1 (IntKind.u64.wrap k) = [IntKind.u8.wrap k] := by
  rw [u64_small h0 (by omega)]
  have e : lowZ 1 k = [IntKind.u8.wrap ((divs 0 k).tmod 256)] := rfl
  have d0 : divs 0 k = k := rfl
  rw [e, d0, Int.tmod_eq_emod_of_nonneg h0]
  simp only [wrapU8, List.cons.injEq, and_true]; omega
theorem lead_eq {k : Int} {n : Nat} (h0 : 1 ≤ k) (h1 : k ≤ 255) (hn : n ≤ 65536) : lowZ 1 (IntKind.u64.wrap k) ++ lowZ 4 (IntKind.u64.wrap (n : Int)) = leadZ k n := by
  rw [low1 (by omega) (by omega), low4 ⟨by omega, by omega⟩]; rfl
noncomputable def k_rfPut : Ab.Spec := con2 (ofInt .i64) (ofInts .u8) fun kind l _ => bnd l.length 140737488353000 (some (if putErr kind l = 0 then .tup [.lst .frozen (ints .u8 (frameZ kind l)) (l.length + 13), .int .i64 0] else .tup [.nils, .int .i64 (putErr kind l)], none))
noncomputable def T_rfPut : CallF := withF T_Apart 11 k_rfPut
theorem T_rfPut_ok : CallOk Try.prog T_rfPut := con_of (A := annOf [] [] [] false []) fit T_Apart_ok (fn := Try.f11) (by kernel_rfl) (by kernel_rfl) (by
  intro args objs r h0
  have c_Low : ∀ a o, T_Apart 28 a o = k_Low a o := fun _ _ => rfl
  have c_Cat : ∀ a o, T_Apart 25 a o = k_Cat a o := fun _ _ => rfl
  have c_rSeal : ∀ a o, T_Apart 29 a o = k_rSeal a o := fun _ _ => rfl
  obtain ⟨_, v, kind, l, rfl, hk, ha, hR⟩ := con2_inv h0
  obtain rfl := ofInt_inv hk
  obtain ⟨hl, hR⟩ := bnd_inv hR
  cases hR
  obtain ⟨vd, vn, vi, va, -⟩ := bs ha
  refine .go _ rfl rfl ?_
  by_cases h1 : kind < 1
  · have he : putErr kind l = 1 := by simp [putErr, h1]
    simp (disch := omega) [he]
  by_cases h2 : kind > 255
  · have he : putErr kind l = 1 := by simp [putErr, h2]
    simp (disch := omega) [he]
  by_cases h3 : l.length > 65536
  · have he : putErr kind l = 4 := by simp [putErr, h3]; omega
    have h3' : (65536 : Int) < l.length := by omega
    simp (disch := omega) [he, vn]
  have he : putErr kind l = 0 := by simp [putErr]; omega
  have le := lead_eq (k := kind) (n := l.length) (by omega) (by omega) (by omega)
  have l1 : ofInts .u8 (.lst .frozen (ints .u8 (lowZ 1 (IntKind.u64.wrap kind))) 1) = some (lowZ 1 (IntKind.u64.wrap kind)) := ofInts_lst (by rw [lowZ_len])
  have l4 : ofInts .u8 (.lst .frozen (ints .u8 (lowZ 4 (IntKind.u64.wrap (l.length : Int)))) 4) = some (lowZ 4 (IntKind.u64.wrap (l.length : Int))) := ofInts_lst (by rw [lowZ_len])
  have l5 : ofInts .u8 (.lst .frozen (ints .u8 (leadZ kind l.length)) 5) = some (leadZ kind l.length) := ofInts_lst rfl
  have l9 : ofInts .u8 (.lst .frozen (ints .u8 (sealZ (leadZ kind l.length))) 9) = some (sealZ (leadZ kind l.length)) := ofInts_lst rfl
  have ls : ofInts .u8 (.lst .frozen (ints .u8 (sealZ l)) (l.length + 4)) = some (sealZ l) := ofInts_lst (by rw [sealZ_len])
  have hsl := sealZ_len l
  have hs5 : (sealZ (leadZ kind l.length)).length = 9 := by rw [sealZ_len]; rfl
  have hll := leadZ_len kind l.length
  have c1 : Int.toNat 1 = 1 := rfl
  have c4 : Int.toNat 4 = 4 := rfl
  simp -implicitDefEqProofs (disch := omega) [he, vn, vd, ha, convV, l1, l4, l5, l9, ls, le, c_Low, k_Low, c_Cat, k_Cat, c_rSeal, k_rSeal, hs5, hsl, hll, lowZ_len, rseal_eq, frameZ, c1, c4]
  omega)
noncomputable def k_fPutT : Ab.Spec := con2 (ofInt .i64) (ofInts .u8) fun kind l objs => bnd l.length 140737488353000 (some (if putErr kind l = 0 then .tup [.lst (.fresh 1 (scalarObjs objs)) (ints .u8 (frameZ kind l)) (l.length + 13), .int .i64 0] else .tup [.nils, .int .i64 (putErr kind l)], none))
noncomputable def T_fPutT : CallF := withF T_rfPut 12 k_fPutT
theorem T_fPutT_ok : CallOk Try.prog T_fPutT := con_of (A := annOf [] [] [(36, [.tok])] false [] true) fit T_rfPut_ok (fn := Try.f12) (by kernel_rfl) (by kernel_rfl) (by
  intro args objs r h0
  have c_Seal : ∀ a o, T_rfPut 30 a o = k_Seal a o := fun _ _ => rfl
  obtain ⟨_, v, kind, l, rfl, hk, ha, hR⟩ := con2_inv h0
  obtain rfl := ofInt_inv hk
  obtain ⟨hl, hR⟩ := bnd_inv hR
  cases hR
  obtain ⟨vd, vn, vi, va, -⟩ := bs ha
  refine .go _ rfl rfl ?_
  by_cases h1 : kind < 1
  · have he : putErr kind l = 1 := by simp [putErr, h1]
    simp (disch := omega) [he]
  by_cases h2 : kind > 255
  · have he : putErr kind l = 1 := by simp [putErr, h2]
    simp (disch := omega) [he]
  by_cases h3 : l.length > 65536
  · have he : putErr kind l = 4 := by simp [putErr, h3]; omega
    have h3' : (65536 : Int) < l.length := by omega
    simp (disch := omega) [he, vn]
  have he : putErr kind l = 0 := by simp [putErr]; omega
  have w : IntKind.u32.wrap (l.length : Int) = l.length := wrap_u32 (by omega) (by omega)
  have e1 : ofInts .u8 (.lst .frozen (ints .u8 (leadZ kind l.length)) 5) = some (leadZ kind l.length) := ofInts_lst rfl
  have e1' := e1
  unfold leadZ at e1'
  have e2 : ofInts .u8 (.lst .frozen (ints .u8 (sealZ l)) (l.length + 4)) = some (sealZ l) := ofInts_lst (by rw [sealZ_len])
  have hsl := sealZ_len l
  have hs5 : (sealZ (leadZ kind l.length)).length = 9 := by rw [sealZ_len]; rfl
  have hfl : leadZ kind l.length = [IntKind.u8.wrap kind, IntKind.u8.wrap l.length, IntKind.u8.wrap ((l.length : Int).fdiv 256), IntKind.u8.wrap ((l.length : Int).fdiv 65536), IntKind.u8.wrap ((l.length : Int).fdiv 16777216)] := rfl
  rw [hfl] at hs5
  simp -implicitDefEqProofs (disch := omega) [he, vn, vd, ha, w, convV, lit5, e1', c_Seal, k_Seal, hs5, hsl, Nat.mod_one, frameZ, hfl]
  omega)
noncomputable def k_FramePuts : Ab.Spec := con3 (ofInt .i64) (ofInts .u8) (ofInt .i64) fun k l n objs => match objs with | [] => bnd l.length 140737488352000 (if b8 l = true then some (.bool true, none) else none) | _ => none
noncomputable def T_FramePuts : CallF := withF T_fPutT 3 k_FramePuts
theorem T_FramePuts_ok : CallOk Try.prog T_FramePuts := con_of (A := annOf [] [] [(31, [.ref]),(40, [.ref])] false [14]) fit T_fPutT_ok (fn := Try.f3) (by kernel_rfl) (by kernel_rfl) (by
  intro args objs r h0
  have c_alive : ∀ a o, T_fPutT 9 a o = k_alive a o := fun _ _ => rfl
  have c_Wide : ∀ a o, T_fPutT 10 a o = k_Wide a o := fun _ _ => rfl
  have c_rfPut : ∀ a o, T_fPutT 11 a o = k_rfPut a o := fun _ _ => rfl
  have c_fPutT : ∀ a o, T_fPutT 12 a o = k_fPutT a o := fun _ _ => rfl
  have c_Intact : ∀ a o, T_fPutT 13 a o = k_Intact a o := fun _ _ => rfl
  have c_Apart : ∀ a o, T_fPutT 14 a o = k_Apart a o := fun _ _ => rfl
  have c_fSize : ∀ a o, T_fPutT 15 a o = k_fSize a o := fun _ _ => rfl
  obtain ⟨_, v, _, k, l, n, rfl, hk, ha, hn, hR⟩ := con3_inv h0
  obtain rfl := ofInt_inv hk
  obtain rfl := ofInt_inv hn
  split at hR
  case h_2 => cases hR
  obtain ⟨hl, hR⟩ := bnd_inv hR
  split at hR
  case isFalse => cases hR
  rename_i hl8
  cases hR
  obtain ⟨vd, vn, vi, -⟩ := bs ha
  have hwl := wide_len l
  have hwt : (wide l).take l.length = l := by simp [wide]
  have e0 : ofInts .u8 (.lst .frozen (ints .u8 (wide l)) (l.length + 64)) = some (wide l) := ofInts_lst (by rw [hwl])
  have e1 : ofInts .u8 (.lst .frozen (ints .u8 l) l.length) = some l := ofInts_lst rfl
  have e2 : ofInts .u8 (.lst .frozen (ints .u8 (frameZ k l)) (l.length + 13)) = some (frameZ k l) := ofInts_lst (by rw [frameZ_len])
  have hap := apart_two (n := l.length + 13) (frameZ_len k l).symm (by omega) (by omega) e2
  have hap0 := apart_nil (u := .nils) rfl
  have hw13 : 0 ≤ n → n ≤ 65536 → IntKind.i64.wrap (n + 13) = n + 13 := fun h0 h1 => wrap_small (by omega) (by omega)
  refine .go _ rfl rfl ?_
  by_cases he : putErr k l = 0
  · by_cases h1 : n < 0
    · simp -implicitDefEqProofs (disch := omega) [c_alive, c_Wide, c_rfPut, c_fPutT, c_Intact, c_Apart, c_fSize, k_alive, k_Wide, k_rfPut, k_fPutT, k_Intact, hap, k_fSize, vd, vn, ha, e0, e1, e2, hwl, hwt, hl8, he, frameZ_len, clean, h1]
    by_cases h2 : n > 65536
    · simp -implicitDefEqProofs (disch := omega) [c_alive, c_Wide, c_rfPut, c_fPutT, c_Intact, c_Apart, c_fSize, k_alive, k_Wide, k_rfPut, k_fPutT, k_Intact, hap, k_fSize, vd, vn, ha, e0, e1, e2, hwl, hwt, hl8, he, frameZ_len, clean, h1, h2]
    have hw := hw13 (by omega) (by omega)
    simp -implicitDefEqProofs (disch := omega) [c_alive, c_Wide, c_rfPut, c_fPutT, c_Intact, c_Apart, c_fSize, k_alive, k_Wide, k_rfPut, k_fPutT, k_Intact, hap, k_fSize, vd, vn, ha, e0, e1, e2, hwl, hwt, hl8, he, frameZ_len, clean, h1, h2, hw]
  · by_cases h1 : n < 0
    · simp -implicitDefEqProofs (disch := omega) [c_alive, c_Wide, c_rfPut, c_fPutT, c_Intact, c_Apart, c_fSize, k_alive, k_Wide, k_rfPut, k_fPutT, k_Intact, hap0, k_fSize, vd, vn, ha, e0, e1, hwl, hwt, hl8, he, clean, h1]
    by_cases h2 : n > 65536
    · simp -implicitDefEqProofs (disch := omega) [c_alive, c_Wide, c_rfPut, c_fPutT, c_Intact, c_Apart, c_fSize, k_alive, k_Wide, k_rfPut, k_fPutT, k_Intact, hap0, k_fSize, vd, vn, ha, e0, e1, hwl, hwt, hl8, he, clean, h1, h2]
    have hw := hw13 (by omega) (by omega)
    simp -implicitDefEqProofs (disch := omega) [c_alive, c_Wide, c_rfPut, c_fPutT, c_Intact, c_Apart, c_fSize, k_alive, k_Wide, k_rfPut, k_fPutT, k_Intact, hap0, k_fSize, vd, vn, ha, e0, e1, hwl, hwt, hl8, he, clean, h1, h2, hw])
theorem walk_FramePuts {D M n : Nat} {vs : List V} {args : Array Value} {W : World} (hS : ShpAll Try.prog D M n [3, 22, 3] vs) (hA : AR (top W) W vs args.toList) : Calls Try.prog 3 args W fun e W' => e = .returned (.bool true) ∧ Go.RowKit.Below W.heap.size W W' := by
  match vs, hS with
  | [v0, v1, v2], ⟨s0, s1, s2, _⟩ =>
    obtain ⟨i0, rfl, w0⟩ := in_int u3 (by kernel_rfl) s0
    obtain ⟨l1, d1, b1, n1, -⟩ := in_bytes s1
    obtain ⟨i2, rfl, w2⟩ := in_int u3 (by kernel_rfl) s2
    refine whole fit T_FramePuts_ok (fn := Try.f3) (by kernel_rfl) (by kernel_rfl) ?_ hA
    show k_FramePuts [.int .i64 i0, v1, .int .i64 i2] [] = _
    simp (disch := omega) [k_FramePuts, d1, b1]

end Go.Proofs.Ytmoegiibdaomlaa.B
