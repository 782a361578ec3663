import Derived.Test.YtmoegiibdaomlaaFg3
set_option linter.unusedSimpArgs false
set_option linter.unusedVariables false
set_option linter.unusedSectionVars false
set_option maxRecDepth 20000
set_option maxHeartbeats 1000000
namespace Go.Proofs.Ytmoegiibdaomlaa.B
open Go Go.Ab
/-! the document's sum behind the bytes is the program's -/
theorem u64_small {n : Int} (h0 : 0 ≤ n) (h1 : n < 18446744073709551616) : IntKind.u64.wrap n = n := wrap_u64 h0 h1
theorem divs_le {s : Int} (h0 : 0 ≤ s) (h1 : s < 18446744073709551616) : IntKind.u64.wrap (s.tdiv 256) = s / 256 := by
  rw [Int.tdiv_eq_ediv_of_nonneg h0, u64_small (by omega) (by omega)]
theorem low4 {s : Int} (h : R32 s) : lowZ 4 (IntKind.u64.wrap s) = tailZ s := by
  obtain ⟨h0, h1⟩ := h
  rw [u64_small h0 (by omega)]
  have d1 : divs 1 s = s / 256 := by simp only [divs]; exact divs_le h0 (by omega)
  have d2 : divs 2 s = s / 256 / 256 := by
    have : divs 2 s = IntKind.u64.wrap ((divs 1 s).tdiv 256) := rfl
    rw [this, d1]; exact divs_le (by omega) (by omega)
  have d3 : divs 3 s = s / 256 / 256 / 256 := by
    have : divs 3 s = IntKind.u64.wrap ((divs 2 s).tdiv 256) := rfl
    rw [this, d2]; exact divs_le (by omega) (by omega)
  have e : lowZ 4 s = [IntKind.u8.wrap ((divs 0 s).tmod 256), IntKind.u8.wrap ((divs 1 s).tmod 256), IntKind.u8.wrap ((divs 2 s).tmod 256), IntKind.u8.wrap ((divs 3 s).tmod 256)] := rfl
  have d0 : divs 0 s = s := rfl
  rw [e, d0, d1, d2, d3]
  unfold tailZ
  simp only [wrapU8, Int.fdiv_eq_ediv_of_nonneg _ (show (0 : Int) ≤ 256 by omega), Int.fdiv_eq_ediv_of_nonneg _ (show (0 : Int) ≤ 65536 by omega), Int.fdiv_eq_ediv_of_nonneg _ (show (0 : Int) ≤ 16777216 by omega), List.cons.injEq, and_true]
  rw [Int.tmod_eq_emod_of_nonneg h0, Int.tmod_eq_emod_of_nonneg (by omega), Int.tmod_eq_emod_of_nonneg (by omega), Int.tmod_eq_emod_of_nonneg (by omega)]
  refine ⟨?_, ?_, ?_, ?_⟩ <;> omega
theorem rsum_r (l : List Int) : rsumZ l = sumZ [l] := by rw [rsum_eq]; rfl
theorem rseal_eq (l : List Int) : rsealZ l = sealZ l := by
  unfold rsealZ sealZ
  rw [rsum_r, low4]
  rw [← rsum_r, rsum_eq]; exact extend_r _ _
theorem val4 {a b c d : Int} (ha : 0 ≤ a ∧ a < 256) (hb : 0 ≤ b ∧ b < 256) (hc : 0 ≤ c ∧ c < 256) (hd : 0 ≤ d ∧ d < 256) : valZ [a, b, c, d] = a + 256 * (b + 256 * (c + 256 * d)) := by
  simp only [valZ, List.foldr_cons, List.foldr_nil, vstep]
  rw [u64_small (n := 0 * 256) (by omega) (by omega), u64_small (n := d) (by omega) (by omega), u64_small (n := 0 * 256 + d) (by omega) (by omega),
    u64_small (n := (0 * 256 + d) * 256) (by omega) (by omega), u64_small (n := c) (by omega) (by omega), u64_small (n := (0 * 256 + d) * 256 + c) (by omega) (by omega),
    u64_small (n := ((0 * 256 + d) * 256 + c) * 256) (by omega) (by omega), u64_small (n := b) (by omega) (by omega), u64_small (n := ((0 * 256 + d) * 256 + c) * 256 + b) (by omega) (by omega),
    u64_small (n := (((0 * 256 + d) * 256 + c) * 256 + b) * 256) (by omega) (by omega), u64_small (n := a) (by omega) (by omega), u64_small (n := (((0 * 256 + d) * 256 + c) * 256 + b) * 256 + a) (by omega) (by omega)]
  omega
theorem rsealed_eq {l : List Int} (h : B8 l) : rsealedB l = sealedB l := by
  unfold rsealedB sealedB
  by_cases h4 : 4 ≤ l.length
  · have hl : (l.drop (l.length - 4)).length = 4 := by simp; omega
    have hb := h.drop (l.length - 4)
    obtain ⟨q, hq⟩ : ∃ q, q = l.drop (l.length - 4) := ⟨_, rfl⟩
    rw [← hq] at hl hb ⊢
    obtain ⟨a, b, c, d, rfl⟩ : ∃ a b c d, q = [a, b, c, d] := by
      match q, hl with
      | [a, b, c, d], _ => exact ⟨a, b, c, d, rfl⟩
    have ha := hb a (by simp)
    have hb' := hb b (by simp)
    have hc := hb c (by simp)
    have hd := hb d (by simp)
    have hs : R32 (sumZ [l.take (l.length - 4)]) := by rw [← rsum_r, rsum_eq]; exact extend_r _ _
    rw [rsum_r]
    obtain ⟨s, hs'⟩ : ∃ s, s = sumZ [l.take (l.length - 4)] := ⟨_, rfl⟩
    rw [← hs'] at hs ⊢
    obtain ⟨s0, s1⟩ := hs
    rw [u64_small s0 (by omega), val4 ha hb' hc hd]
    refine decide_eq_decide.2 (and_congr_right fun _ => ?_)
    unfold tailZ
    simp only [wrapU8, Int.fdiv_eq_ediv_of_nonneg _ (show (0 : Int) ≤ 256 by omega), Int.fdiv_eq_ediv_of_nonneg _ (show (0 : Int) ≤ 65536 by omega), Int.fdiv_eq_ediv_of_nonneg _ (show (0 : Int) ≤ 16777216 by omega), List.cons.injEq, and_true]
    omega
  · rw [decide_eq_false (by omega), decide_eq_false (by omega)]

theorem piece_eq (l : List Int) (q n m : Nat) (h : m = q + n) : pieceZ l (q : Int) ((m : Nat) : Int) = (l.drop q).take n := by
  subst h
  unfold pieceZ
  rw [Int.toNat_natCast, Int.toNat_natCast, List.drop_take]
  congr 1; omega
theorem four {l : List Int} (hl : l.length = 4) : l = [nth l 0, nth l 1, nth l 2, nth l 3] := by
  match l, hl with
  | [a, b, c, d], _ => rfl
theorem val_nZ {r : List Int} (h : B8 r) (hl : 9 ≤ r.length) : valZ ((r.drop 1).take 4) = nZ r := by
  have h4 : ((r.drop 1).take 4).length = 4 := by simp; omega
  have e : ∀ j, j < 4 → nth ((r.drop 1).take 4) j = nth r (j + 1) := fun j hj => by
    unfold nth
    rw [List.getD_eq_getElem?_getD, List.getD_eq_getElem?_getD, List.getElem?_take_of_lt hj, List.getElem?_drop, Nat.add_comm 1 j]
  rw [four h4, e 0 (by omega), e 1 (by omega), e 2 (by omega), e 3 (by omega), val4 (h.nth 1) (h.nth 2) (h.nth 3) (h.nth 4), nZ_eq h]
  omega
noncomputable def k_rfGet : Ab.Spec := con2 (ofInts .u8) (ofInt .i64) fun l p _ => bnd l.length 140737488353000 (if b8 l = true then some (.tup [frameV (getZ l p), .int .i64 (getZ l p).next, .int .i64 (getZ l p).err], none) else none)
noncomputable def T_rfGet : CallF := withF T_ScanK 17 k_rfGet
theorem T_rfGet_ok : CallOk Try.prog T_rfGet := con_of (A := annOf [] [] [] false []) fit T_ScanK_ok (fn := Try.f17) (by kernel_rfl) (by kernel_rfl) (by
  intro args objs r h0
  have c_Piece : ∀ a o, T_ScanK 26 a o = k_Piece a o := fun _ _ => rfl
  have c_rSealed : ∀ a o, T_ScanK 35 a o = k_rSealed a o := fun _ _ => rfl
  have c_Value : ∀ a o, T_ScanK 36 a o = k_Value a o := fun _ _ => rfl
  obtain ⟨v, _, l, p, rfl, ha, hp, hR⟩ := con2_inv h0
  obtain rfl := ofInt_inv hp
  obtain ⟨hl, hR⟩ := bnd_inv hR
  split at hR
  case isFalse => cases hR
  rename_i h8
  cases hR
  have hB : B8 l := b8_iff.1 h8
  obtain ⟨vd, vn, vi, -⟩ := bs ha
  have hl2 : l.length < 140737488355300 := by omega
  refine .go _ rfl rfl ?_
  by_cases h1 : p < 0
  · have hg : getZ l p = .bad 1 := by simp [getZ, h1]
    simp (disch := omega) [hg, Got.bad, frameV, bodyV, fit35', setCells, getObj_last]
  by_cases h2 : p > l.length
  · have hg : getZ l p = .bad 1 := by simp [getZ, h2]
    simp (disch := omega) [vn, hg, Got.bad, frameV, bodyV, fit35', setCells, getObj_last]
  obtain ⟨q, rfl⟩ := Int.eq_ofNat_of_zero_le (show 0 ≤ p by omega)
  have hql : q ≤ l.length := by omega
  have hg : getZ l (q : Int) = restZ (l.drop q) q := by simp [getZ]; omega
  have hq9 : (q : Int) < 9223372036854775807 := by omega
  have w0 : IntKind.i64.wrap ((l.length : Int) - q) = (l.length : Int) - q := wrap_small (by omega) (by omega)
  obtain ⟨r, hr⟩ : ∃ r, r = l.drop q := ⟨_, rfl⟩
  have hrl : r.length = l.length - q := by rw [hr]; simp
  have hBr : B8 r := by rw [hr]; exact hB.drop q
  rw [← hr] at hg
  by_cases h3 : r.length < 9
  · have hg2 : getZ l (q : Int) = .bad 2 := by rw [hg]; unfold restZ; rw [if_pos h3]
    have h3' : (l.length : Int) - q < 9 := by omega
    simp (disch := omega) [vn, hg2, Got.bad, frameV, bodyV, fit35', setCells, getObj_last, w0, h3']
  have w9 : IntKind.i64.wrap ((q : Int) + 9) = (q : Int) + 9 := wrap_small (by omega) (by omega)
  have p9 : pieceZ l (q : Int) ((q : Int) + 9) = r.take 9 := by rw [hr, show (q : Int) + 9 = ((q + 9 : Nat) : Int) by omega]; exact piece_eq l q 9 _ rfl
  have ln9 : (r.take 9).length = 9 := by simp; omega
  have d9 : ofInts .u8 (.lst .frozen (ints .u8 (r.take 9)) 9) = some (r.take 9) := ofInts_lst ln9.symm
  have h3' : ¬ (l.length : Int) - q < 9 := by omega
  unfold restZ at hg
  rw [if_neg h3] at hg
  have rs9 := rsealed_eq (hBr.take 9)
  have l9 : (r.take 9).length < 140737488355000 := by omega
  by_cases s1 : sealedB (r.take 9) = false
  · rw [if_pos s1] at hg
    simp -implicitDefEqProofs (disch := omega) [vn, vd, ha, hg, Got.bad, frameV, bodyV, fit35', setCells, getObj_last, w0, h3', c_Piece, k_Piece, hl2, hq9, w9, p9, ln9, d9, c_rSealed, k_rSealed, rs9, s1]
  rw [if_neg s1] at hg
  have s1 : sealedB (r.take 9) = true := by simpa using s1
  have hn0 : nth l q = nth r 0 := by rw [hr, nth_drop]; rfl
  have hqi : q < l.length := by omega
  have hi0 := ints_nth (k := .u8) (l := l) (i := q) hqi
  rw [hn0] at hi0
  have hi0' := of_get hi0
  by_cases z : nth r 0 = 0
  · rw [if_pos z] at hg
    rw [z] at hi0 hi0'
    simp -implicitDefEqProofs (disch := omega) [vn, vd, vi, ha, hg, Got.bad, frameV, bodyV, fit35', setCells, getObj_last, w0, h3', c_Piece, k_Piece, hl2, hq9, w9, p9, ln9, d9, c_rSealed, k_rSealed, rs9, s1, hi0, hi0', hqi]
  rw [if_neg z] at hg
  have w1 : IntKind.i64.wrap ((q : Int) + 1) = (q : Int) + 1 := wrap_small (by omega) (by omega)
  have cv : canV l ((q : Int) + 1) 4 = true := by simp [canV]; omega
  have vz : valZ ((l.drop (q + 1)).take 4) = nZ r := by rw [← val_nZ hBr (by omega), hr, List.drop_drop]
  obtain ⟨m, hm⟩ := Int.eq_ofNat_of_zero_le (nZ_range r).1
  have hm4 : m < 4294967296 := by have := (nZ_range r).2; omega
  rw [hm] at vz hg
  have t4 : Int.toNat 4 = 4 := rfl
  by_cases b1 : (m : Int) > 65536
  · rw [if_pos b1] at hg
    simp -implicitDefEqProofs (disch := omega) [vn, vd, vi, ha, hg, Got.bad, frameV, bodyV, fit35', setCells, getObj_last, w0, h3', c_Piece, k_Piece, hl2, hq9, w9, p9, ln9, d9, c_rSealed, k_rSealed, rs9, s1, hi0, hi0', hqi, z, w1, c_Value, k_Value, cv, vz, t4, b1]
  rw [if_neg b1] at hg
  have w13 : IntKind.i64.wrap ((q : Int) + 13) = (q : Int) + 13 := wrap_small (by omega) (by omega)
  have wm : IntKind.i64.wrap (m : Int) = m := wrap_small (by omega) (by omega)
  have wE : IntKind.i64.wrap ((q : Int) + 13 + m) = (q : Int) + ((m : Int) + 13) := by rw [wrap_small (by omega) (by omega)]; omega
  by_cases b2 : (m : Int) > (r.length : Int) - 13
  · rw [if_pos b2] at hg
    have b2' : (l.length : Int) < (q : Int) + ((m : Int) + 13) := by omega
    simp -implicitDefEqProofs (disch := omega) [vn, vd, vi, ha, hg, Got.bad, frameV, bodyV, fit35', setCells, getObj_last, w0, h3', c_Piece, k_Piece, hl2, hq9, w9, p9, ln9, d9, c_rSealed, k_rSealed, rs9, s1, hi0, hi0', hqi, z, w1, c_Value, k_Value, cv, vz, t4, b1, convV, w13, wm, wE, b2']
  rw [if_neg b2] at hg
  have b2' : ¬ (l.length : Int) < (q : Int) + ((m : Int) + 13) := by omega
  have pE : pieceZ l ((q : Int) + 9) ((q : Int) + ((m : Int) + 13)) = (r.take (m + 13)).drop 9 := by
    rw [show (q : Int) + 9 = ((q + 9 : Nat) : Int) by omega, show (q : Int) + ((m : Int) + 13) = ((q + (m + 13) : Nat) : Int) by omega, piece_eq l (q + 9) (m + 4) _ (by omega), hr, List.drop_take, List.drop_drop]
    congr 1
  have lnE : ((r.take (m + 13)).drop 9).length = m + 4 := by simp; omega
  have dE : ofInts .u8 (.lst .frozen (ints .u8 ((r.take (m + 13)).drop 9)) (m + 4)) = some ((r.take (m + 13)).drop 9) := ofInts_lst lnE.symm
  have rsE := rsealed_eq ((hBr.take (m + 13)).drop 9)
  have q99 : (q : Int) + 9 < 9223372036854775807 := by omega
  by_cases s2 : sealedB ((r.take (m + 13)).drop 9) = false
  · rw [if_pos (by rw [Int.toNat_natCast]; exact s2)] at hg
    simp -implicitDefEqProofs (disch := omega) [vn, vd, vi, ha, hg, Got.bad, frameV, bodyV, fit35', setCells, getObj_last, w0, h3', c_Piece, k_Piece, hl2, hq9, w9, p9, ln9, d9, c_rSealed, k_rSealed, rs9, s1, hi0, hi0', hqi, z, w1, c_Value, k_Value, cv, vz, t4, b1, convV, w13, wm, wE, b2', pE, lnE, dE, rsE, q99, s2]
  rw [if_neg (by rw [Int.toNat_natCast]; exact s2)] at hg
  have s2 : sealedB ((r.take (m + 13)).drop 9) = true := by simpa using s2
  have wE4 : IntKind.i64.wrap ((q : Int) + ((m : Int) + 13) - 4) = (q : Int) + ((m : Int) + 9) := by rw [wrap_small (by omega) (by omega)]; omega
  have pB : pieceZ l ((q : Int) + 9) ((q : Int) + ((m : Int) + 9)) = (r.take (m + 9)).drop 9 := by
    rw [show (q : Int) + 9 = ((q + 9 : Nat) : Int) by omega, show (q : Int) + ((m : Int) + 9) = ((q + (m + 9) : Nat) : Int) by omega, piece_eq l (q + 9) m _ (by omega), hr, List.drop_take, List.drop_drop]
    congr 1
  have lnB : ((r.take (m + 9)).drop 9).length = m := by simp; omega
  have hb0 := hBr.nth 0
  have wk : IntKind.i64.wrap (nth r 0) = nth r 0 := wrap_small (by omega) (by omega)
  rw [Int.toNat_natCast] at hg
  obtain ⟨body, hbody⟩ : ∃ body, body = (r.take (m + 9)).drop 9 := ⟨_, rfl⟩
  rw [← hbody] at pB lnB hg
  have fb := fit35 (.int .i64 (nth r 0)) (.lst .frozen (ints .u8 body) m) rfl rfl rfl rfl
  simp -implicitDefEqProofs (disch := omega) [vn, vd, vi, ha, hg, Got.bad, frameV, bodyV, fit35', setCells, getObj_last, w0, h3', c_Piece, k_Piece, hl2, hq9, w9, p9, ln9, d9, c_rSealed, k_rSealed, rs9, s1, hi0, hi0', hqi, z, w1, c_Value, k_Value, cv, vz, t4, b1, convV, w13, wm, wE, b2', pE, lnE, dE, rsE, q99, s2, wE4, pB, lnB, wk, fb])

end Go.Proofs.Ytmoegiibdaomlaa.B
