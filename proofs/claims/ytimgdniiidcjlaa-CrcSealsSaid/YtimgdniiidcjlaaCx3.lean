import Derived.Test.YtimgdniiidcjlaaCx2
set_option linter.unusedSimpArgs false
set_option linter.unusedVariables false
set_option linter.unusedSectionVars false
set_option maxRecDepth 20000
set_option maxHeartbeats 1000000
namespace Go.Proofs.Ytimgdniiidcjlaa.B
open Go Go.Ab
/-! what a law is handed -/
def b8 (l : List Int) : Bool := l.all fun c => decide (0 ≤ c) && decide (c < 256)
theorem b8_iff {l : List Int} : b8 l = true ↔ ∀ c ∈ l, 0 ≤ c ∧ c < 256 := by simp [b8]
theorem wf_u8 {l : List Int} (h : ∀ c ∈ l, (Lit.int .u8 c).wf = true) : b8 l = true := b8_iff.2 fun c hc => by
  have := h c hc
  simp [Lit.wf, IntKind.min, IntKind.max] at this
  omega

/-! the document's sum behind the bytes is the program's -/
theorem u64_small {n : Int} (h0 : 0 ≤ n) (h1 : n < 18446744073709551616) : IntKind.u64.wrap n = n := wrap_u64 h0 h1
theorem divs_le {s : Int} (h0 : 0 ≤ s) (h1 : s < 18446744073709551616) : IntKind.u64.wrap (s.tdiv 256) = s / 256 := by
  rw [Int.tdiv_eq_ediv_of_nonneg h0, u64_small (by omega) (by omega)]
theorem low4 {s : Int} (h : R32 s) : lowZ 4 (IntKind.u64.wrap s) = tailZ s := by
  obtain ⟨h0, h1⟩ := h
  rw [u64_small h0 (by omega)]
  have d1 : divs 1 s = s / 256 := by simp only [divs]; exact divs_le h0 (by omega)
  have d2 : divs 2 s = s / 256 / 256 := by
    have : divs 2 s = IntKind.u64.wrap ((divs 1 s).tdiv 256) := rfl
    rw [this, d1]; exact divs_le (by omega) (by omega)
  have d3 : divs 3 s = s / 256 / 256 / 256 := by
    have : divs 3 s = IntKind.u64.wrap ((divs 2 s).tdiv 256) := rfl
    rw [this, d2]; exact divs_le (by omega) (by omega)
  have e : lowZ 4 s = [IntKind.u8.wrap ((divs 0 s).tmod 256), IntKind.u8.wrap ((divs 1 s).tmod 256), IntKind.u8.wrap ((divs 2 s).tmod 256), IntKind.u8.wrap ((divs 3 s).tmod 256)] := rfl
  have d0 : divs 0 s = s := rfl
  rw [e, d0, d1, d2, d3]
  unfold tailZ
  simp only [wrapU8, Int.fdiv_eq_ediv_of_nonneg _ (show (0 : Int) ≤ 256 by omega), Int.fdiv_eq_ediv_of_nonneg _ (show (0 : Int) ≤ 65536 by omega), Int.fdiv_eq_ediv_of_nonneg _ (show (0 : Int) ≤ 16777216 by omega), List.cons.injEq, and_true]
  rw [Int.tmod_eq_emod_of_nonneg h0, Int.tmod_eq_emod_of_nonneg (by omega), Int.tmod_eq_emod_of_nonneg (by omega), Int.tmod_eq_emod_of_nonneg (by omega)]
  refine ⟨?_, ?_, ?_, ?_⟩ <;> omega
theorem rsum_r (l : List Int) : rsumZ l = sumZ [l] := by rw [rsum_eq]; rfl
theorem rseal_eq (l : List Int) : rsealZ l = sealZ l := by
  unfold rsealZ sealZ
  rw [rsum_r, low4]
  rw [← rsum_r, rsum_eq]; exact extend_r _ _
theorem val4 {a b c d : Int} (ha : 0 ≤ a ∧ a < 256) (hb : 0 ≤ b ∧ b < 256) (hc : 0 ≤ c ∧ c < 256) (hd : 0 ≤ d ∧ d < 256) : valZ [a, b, c, d] = a + 256 * (b + 256 * (c + 256 * d)) := by
  simp only [valZ, List.foldr_cons, List.foldr_nil, vstep]
  rw [u64_small (n := 0 * 256) (by omega) (by omega), u64_small (n := d) (by omega) (by omega), u64_small (n := 0 * 256 + d) (by omega) (by omega),
    u64_small (n := (0 * 256 + d) * 256) (by omega) (by omega), u64_small (n := c) (by omega) (by omega), u64_small (n := (0 * 256 + d) * 256 + c) (by omega) (by omega),
    u64_small (n := ((0 * 256 + d) * 256 + c) * 256) (by omega) (by omega), u64_small (n := b) (by omega) (by omega), u64_small (n := ((0 * 256 + d) * 256 + c) * 256 + b) (by omega) (by omega),
    u64_small (n := (((0 * 256 + d) * 256 + c) * 256 + b) * 256) (by omega) (by omega), u64_small (n := a) (by omega) (by omega), u64_small (n := (((0 * 256 + d) * 256 + c) * 256 + b) * 256 + a) (by omega) (by omega)]
  omega
theorem rsealed_eq {l : List Int} (h : B8 l) : rsealedB l = sealedB l := by
  unfold rsealedB sealedB
  by_cases h4 : 4 ≤ l.length
  · have hl : (l.drop (l.length - 4)).length = 4 := by simp; omega
    have hb := h.drop (l.length - 4)
    obtain ⟨q, hq⟩ : ∃ q, q = l.drop (l.length - 4) := ⟨_, rfl⟩
    rw [← hq] at hl hb ⊢
    obtain ⟨a, b, c, d, rfl⟩ : ∃ a b c d, q = [a, b, c, d] := by
      match q, hl with
      | [a, b, c, d], _ => exact ⟨a, b, c, d, rfl⟩
    have ha := hb a (by simp)
    have hb' := hb b (by simp)
    have hc := hb c (by simp)
    have hd := hb d (by simp)
    have hs : R32 (sumZ [l.take (l.length - 4)]) := by rw [← rsum_r, rsum_eq]; exact extend_r _ _
    rw [rsum_r]
    obtain ⟨s, hs'⟩ : ∃ s, s = sumZ [l.take (l.length - 4)] := ⟨_, rfl⟩
    rw [← hs'] at hs ⊢
    obtain ⟨s0, s1⟩ := hs
    rw [u64_small s0 (by omega), val4 ha hb' hc hd]
    refine decide_eq_decide.2 (and_congr_right fun _ => ?_)
    unfold tailZ
    simp only [wrapU8, Int.fdiv_eq_ediv_of_nonneg _ (show (0 : Int) ≤ 256 by omega), Int.fdiv_eq_ediv_of_nonneg _ (show (0 : Int) ≤ 65536 by omega), Int.fdiv_eq_ediv_of_nonneg _ (show (0 : Int) ≤ 16777216 by omega), List.cons.injEq, and_true]
    omega
  · rw [decide_eq_false (by omega), decide_eq_false (by omega)]

theorem in_bytes {D M n : Nat} {v : V} (h : ShpV Try.prog D M n 22 v) : ∃ l, ofInts .u8 v = some l ∧ b8 l = true ∧ l.length ≤ 140737488351232 ∧ (M = 0 ∨ l.length ≤ M) := by
  have hg : Ab.isAgg Try.prog 22 = false := by kernel_rfl
  have h2 : Shp Try.prog D M n 22 v := by unfold ShpV at h; rwa [if_neg (by rw [hg]; simp)] at h
  obtain ⟨l, l1, l2, l3, l4⟩ := shp_ints u22 u5 h2
  have hb : Try.prog.bytesOf 5 = 1 := by kernel_rfl
  rw [hb] at l3
  exact ⟨l, l1, wf_u8 l2, by omega, l4⟩
theorem in_int {D M n : Nat} {v : V} {t : TypeId} {k : IntKind} (hu : Try.prog.underlying t = some (.int k)) (hg : Ab.isAgg Try.prog t = false) (h : ShpV Try.prog D M n t v) : ∃ i, v = .int k i ∧ (Lit.int k i).wf = true := by
  unfold ShpV at h
  rw [if_neg (by rw [hg]; simp)] at h
  exact shp_int hu h
theorem wf_u32 {c : Int} (h : (Lit.int .u32 c).wf = true) : 0 ≤ c ∧ c < 4294967296 := by
  simp [Lit.wf, IntKind.min, IntKind.max] at h; omega
theorem wf_u64 {c : Int} (h : (Lit.int .u64 c).wf = true) : 0 ≤ c ∧ c < 18446744073709551616 := by
  simp [Lit.wf, IntKind.min, IntKind.max] at h; omega
theorem wf_i64 {c : Int} (h : (Lit.int .i64 c).wf = true) : -9223372036854775808 ≤ c ∧ c < 9223372036854775808 := by
  simp [Lit.wf, IntKind.min, IntKind.max] at h; omega
theorem flat : laidFlat Try.prog = true := by kernel_rfl

noncomputable def k_SealT : Ab.Spec := con1 (ofInts .u8) fun l objs => bnd l.length 140737488355000 (some (.lst (.fresh 1 (scalarObjs objs)) (ints .u8 (sealZ l)) (l.length + 4), none))
noncomputable def T_SealT : CallF := withF T_Apart 14 k_SealT
theorem T_SealT_ok : CallOk Try.prog T_SealT := con_of (A := annOf [11] [] [] false [] true) fit T_Apart_ok (fn := Try.f14) (by kernel_rfl) (by kernel_rfl) (by
  intro args objs r h0
  have c_Sum : ∀ a o, T_Apart 10 a o = k_Sum a o := fun _ _ => rfl
  have c_tail : ∀ a o, T_Apart 25 a o = k_tail a o := fun _ _ => rfl
  obtain ⟨v, l, rfl, ha, hR⟩ := con1_inv h0
  obtain ⟨hl, hR⟩ := bnd_inv hR
  cases hR
  obtain ⟨vd, vn, vi, va, -⟩ := bs ha
  obtain ⟨p1, p2⟩ := part1 ha
  have hl2 : l.length < 140737488355328 := by omega
  refine .go _ rfl rfl ?_
  simp -implicitDefEqProofs (disch := omega) [if_pos, vn, vd, va, p1, p2, c_Sum, c_tail, k_Sum, k_tail, hl2, setCells, getObj_last, wrap_small, Nat.mod_one, sealZ, tailZ_len, tailZ_take])
noncomputable def k_CrcSeals : Ab.Spec := con1 (ofInts .u8) fun l objs => match objs with | [] => bnd l.length 140737488353000 (if b8 l = true then some (.bool true, none) else none) | _ => none
noncomputable def T_CrcSeals : CallF := withF T_SealT 4 k_CrcSeals
theorem T_CrcSeals_ok : CallOk Try.prog T_CrcSeals := con_of (A := annOf [11,16] [12,17] [] false [13]) fit T_SealT_ok (fn := Try.f4) (by kernel_rfl) (by kernel_rfl) (by
  intro args objs r h0
  have c_alive : ∀ a o, T_SealT 7 a o = k_alive a o := fun _ _ => rfl
  have c_Wide : ∀ a o, T_SealT 8 a o = k_Wide a o := fun _ _ => rfl
  have c_SealT : ∀ a o, T_SealT 14 a o = k_SealT a o := fun _ _ => rfl
  have c_rSeal : ∀ a o, T_SealT 15 a o = k_rSeal a o := fun _ _ => rfl
  have c_Apart : ∀ a o, T_SealT 13 a o = k_Apart a o := fun _ _ => rfl
  have c_Intact : ∀ a o, T_SealT 12 a o = k_Intact a o := fun _ _ => rfl
  have c_Sealed : ∀ a o, T_SealT 16 a o = k_Sealed a o := fun _ _ => rfl
  have c_rSealed : ∀ a o, T_SealT 17 a o = k_rSealed a o := fun _ _ => rfl
  obtain ⟨v, l, rfl, ha, hR⟩ := con1_inv h0
  split at hR
  case h_2 => cases hR
  obtain ⟨hl, hR⟩ := bnd_inv hR
  split at hR
  case isFalse => cases hR
  rename_i hl8
  cases hR
  have hB : B8 l := b8_iff.1 hl8
  obtain ⟨vd, vn, vi, -⟩ := bs ha
  have hsl := sealZ_len l
  have hwl := wide_len l
  have hwt : (wide l).take l.length = l := by simp [wide]
  have e0 : ofInts .u8 (.lst .frozen (ints .u8 (wide l)) (l.length + 64)) = some (wide l) := ofInts_lst (by rw [hwl])
  have e1 : ofInts .u8 (.lst .frozen (ints .u8 l) l.length) = some l := ofInts_lst rfl
  have e2 : ofInts .u8 (.lst .frozen (ints .u8 (sealZ l)) (l.length + 4)) = some (sealZ l) := ofInts_lst (by rw [hsl])
  have hap := apart_two (n := l.length + 4) hsl.symm (by omega) (by omega) e2
  refine .go _ rfl rfl ?_
  simp -implicitDefEqProofs (disch := omega) [c_alive, c_Wide, c_SealT, c_rSeal, c_Apart, c_Intact, c_Sealed, c_rSealed, k_alive, k_Wide, k_SealT, k_rSeal, hap, k_Intact, k_Sealed, k_rSealed, vd, vn, ha, e0, e1, e2, hsl, clean, sealed_seal, hwl, hwt, hl8, rseal_eq, rsealed_eq hB])
theorem walk_CrcSeals {D M n : Nat} {vs : List V} {args : Array Value} {W : World} (hS : ShpAll Try.prog D M n [22] vs) (hA : AR (top W) W vs args.toList) : Calls Try.prog 4 args W fun e W' => e = .returned (.bool true) ∧ Go.RowKit.Below W.heap.size W W' := by
  match vs, hS with
  | [v0], ⟨s0, _⟩ =>
    obtain ⟨l0, d0, b0, n0, -⟩ := in_bytes s0
    refine whole fit T_CrcSeals_ok (fn := Try.f4) (by kernel_rfl) (by kernel_rfl) ?_ hA
    show k_CrcSeals [v0] [] = _
    simp (disch := omega) [k_CrcSeals, d0, b0]

end Go.Proofs.Ytimgdniiidcjlaa.B
