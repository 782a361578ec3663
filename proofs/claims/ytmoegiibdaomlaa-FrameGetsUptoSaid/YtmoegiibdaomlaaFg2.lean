import Derived.Test.YtmoegiibdaomlaaFg1
set_option linter.unusedSimpArgs false
set_option linter.unusedVariables false
set_option linter.unusedSectionVars false
set_option maxRecDepth 20000
set_option maxHeartbeats 1000000
namespace Go.Proofs.Ytmoegiibdaomlaa.B
open Go Go.Ab
/-! frames whose bodies may be written to -/
def bodyK (o : Nat) : Option (List Int) → V | none => .nils | some l => .ref (o + 1) 0 0 l.length 1
def frameK (o : Nat) (g : Got) : V := .agg [.int .i64 g.kind, bodyK o g.body]
def frameO (o : Nat) (g : Got) : List AO := .cells [.int .i64 g.kind, bodyK o g.body] 0 :: (match g.body with | none => [] | some l => [.cells (ints .u8 l) 0])
theorem getObj_one' {objs : List AO} {a : AO} {cs : List V} {v : Nat} : Ab.getObj (objs ++ [.cells cs v, a]) objs.length v = some cs := by simp [Ab.getObj]
theorem set_one {objs : List AO} {a b c : AO} : (objs ++ [a, b]).set objs.length c = objs ++ [c, b] := by simp
noncomputable def k_GetK : Ab.Spec := con2 (ofInts .u8) (ofInt .i64) fun l p objs => bnd l.length 140737488353000 (if b8 l = true then some (.tup [frameK objs.length (getZ l p), .int .i64 (getZ l p).next, .int .i64 (getZ l p).err], some (objs ++ frameO objs.length (getZ l p), objs.length)) else none)
noncomputable def T_GetK : CallF := withF T_ApartAll 16 k_GetK
theorem T_GetK_ok : CallOk Try.prog T_GetK := con_of (A := annOf [83,88] [] [(89, [.ref])] true []) fit T_ApartAll_ok (fn := Try.f16) (by kernel_rfl) (by kernel_rfl) (by
  intro args objs r h0
  have c_Sealed : ∀ a o, T_ApartAll 33 a o = k_Sealed a o := fun _ _ => rfl
  have c_Clone : ∀ a o, T_ApartAll 34 a o = k_Clone a o := fun _ _ => rfl
  obtain ⟨v, _, l, p, rfl, ha, hp, hR⟩ := con2_inv h0
  obtain rfl := ofInt_inv hp
  obtain ⟨hl, hR⟩ := bnd_inv hR
  split at hR
  case isFalse => cases hR
  rename_i h8
  cases hR
  obtain ⟨vd, vn, vi, -⟩ := bs ha
  refine .goK _ rfl rfl rfl ?_
  by_cases h1 : p < 0
  · have hg : getZ l p = .bad 1 := by simp [getZ, h1]
    simp (disch := omega) [hg, Got.bad, frameK, frameO, bodyK, fit35', setCells, getObj_last]
  by_cases h2 : p > l.length
  · have hg : getZ l p = .bad 1 := by simp [getZ, h2]
    simp (disch := omega) [vn, hg, Got.bad, frameK, frameO, bodyK, fit35', setCells, getObj_last]
  obtain ⟨q, rfl⟩ := Int.eq_ofNat_of_zero_le (show 0 ≤ p by omega)
  have hql : q ≤ l.length := by omega
  have hg : getZ l (q : Int) = restZ (l.drop q) q := by simp [getZ]; omega
  obtain ⟨w, cw, dw⟩ := bcut ha (objs ++ [.cells [.int .i64 0, .nils] 0]) (some (.int .i64 (q : Int))) none q l.length (by simp [boundV]) (by simp [boundV]) hql (Nat.le_refl _)
  rw [List.take_length] at dw
  have hrl : (l.drop q).length = l.length - q := by simp
  obtain ⟨r, hr⟩ : ∃ r, r = l.drop q := ⟨_, rfl⟩
  rw [← hr] at dw hg hrl
  obtain ⟨wd, wn, wi, -⟩ := bs dw
  rw [hg]
  by_cases h3 : r.length < 9
  · have hg : restZ r q = .bad 2 := by simp [restZ, h3]
    simp (disch := omega) [vn, cw, wn, hg, Got.bad, frameK, frameO, bodyK, fit35', setCells, getObj_last]
  have i0 := fun k => wi k 0 (by omega) (by omega)
  have i1 := fun k => wi k 1 (by omega) (by omega)
  have i2 := fun k => wi k 2 (by omega) (by omega)
  have i3 := fun k => wi k 3 (by omega) (by omega)
  have i4 := fun k => wi k 4 (by omega) (by omega)
  have hnz : Go.bits .or .u32 (Go.bits .or .u32 (Go.bits .or .u32 (IntKind.u32.wrap (nth r 1)) (IntKind.u32.wrap (IntKind.u32.wrap (nth r 2) * 256))) (IntKind.u32.wrap (IntKind.u32.wrap (nth r 3) * 65536))) (IntKind.u32.wrap (IntKind.u32.wrap (nth r 4) * 16777216)) = nZ r := rfl
  obtain ⟨m, hm⟩ := Int.eq_ofNat_of_zero_le (nZ_range r).1
  have hm2 := (nZ_range r).2
  rw [hm] at hnz hm2
  have wz : IntKind.i64.wrap (m : Int) = m := wrap_small (by omega) (by omega)
  obtain ⟨w9, c9, d9⟩ := bcut dw (objs ++ [.cells [.int .i64 0, .nils] 0]) none (some (.int .i64 9)) 0 9 rfl (by simp [boundV]) (by omega) (by omega)
  rw [List.drop_zero] at d9
  obtain ⟨x9, -⟩ := bs d9
  have hl9 : (r.take 9).length < 140737488355000 := by simp; omega
  have base : restZ r q = if sealedB (r.take 9) = false then .bad 40
    else if nth r 0 = 0 then .bad 5
    else if m > 65536 then .bad 4
    else if (m : Int) > (r.length : Int) - 13 then .bad 2
    else if sealedB ((r.take (m + 13)).drop 9) = false then .bad 40
    else ⟨nth r 0, some ((r.take (m + 9)).drop 9), q + ((m : Int) + 13), 0⟩ := by
    unfold restZ
    rw [if_neg h3, hm]
    simp only [Int.toNat_natCast]
    have : ((m : Int) > 65536) ↔ m > 65536 := by omega
    simp only [this]
  by_cases s1 : sealedB (r.take 9) = false
  · rw [if_pos s1] at base
    simp -implicitDefEqProofs (disch := omega) [vn, cw, wn, i0, i1, i2, i3, i4, ints_nth, hnz, convV, c9, x9, d9, hl9, c_Sealed, k_Sealed, s1, base, Got.bad, frameK, frameO, bodyK, fit35', setCells, getObj_last]
  rw [if_neg s1] at base
  have s1 : sealedB (r.take 9) = true := by simpa using s1
  by_cases z : nth r 0 = 0
  · rw [if_pos z] at base
    simp -implicitDefEqProofs (disch := omega) [vn, cw, wn, i0, i1, i2, i3, i4, ints_nth, hnz, convV, c9, x9, d9, hl9, c_Sealed, k_Sealed, s1, z, base, Got.bad, frameK, frameO, bodyK, fit35', setCells, getObj_last]
  rw [if_neg z] at base
  by_cases b1 : m > 65536
  · rw [if_pos b1] at base
    simp -implicitDefEqProofs (disch := omega) [vn, cw, wn, i0, i1, i2, i3, i4, ints_nth, hnz, convV, c9, x9, d9, hl9, c_Sealed, k_Sealed, s1, z, base, Got.bad, frameK, frameO, bodyK, fit35', setCells, getObj_last]
  rw [if_neg b1] at base
  have w13 : IntKind.i64.wrap ((r.length : Int) - 13) = (r.length : Int) - 13 := wrap_small (by omega) (by omega)
  by_cases b2 : (m : Int) > (r.length : Int) - 13
  · rw [if_pos b2] at base
    simp -implicitDefEqProofs (disch := omega) [vn, cw, wn, i0, i1, i2, i3, i4, ints_nth, hnz, convV, c9, x9, d9, hl9, c_Sealed, k_Sealed, s1, z, wz, w13, base, Got.bad, frameK, frameO, bodyK, fit35', setCells, getObj_last]
  rw [if_neg b2] at base
  have we : IntKind.i64.wrap ((m : Int) + 13) = (m : Int) + 13 := wrap_small (by omega) (by omega)
  obtain ⟨wb, cb, db⟩ := bcut dw (objs ++ [.cells [.int .i64 0, .nils] 0]) (some (.int .i64 9)) (some (.int .i64 ((m : Int) + 13))) 9 (m + 13) (by simp [boundV]) (by simp [boundV]; omega) (by omega) (by omega)
  obtain ⟨xb, -⟩ := bs db
  have hlb : ((r.take (m + 13)).drop 9).length < 140737488355000 := by simp; omega
  by_cases s2 : sealedB ((r.take (m + 13)).drop 9) = false
  · rw [if_pos s2] at base
    simp -implicitDefEqProofs (disch := omega) [vn, cw, wn, i0, i1, i2, i3, i4, ints_nth, hnz, convV, c9, x9, d9, hl9, c_Sealed, k_Sealed, s1, z, wz, w13, we, cb, xb, db, hlb, s2, base, Got.bad, frameK, frameO, bodyK, fit35', setCells, getObj_last]
  rw [if_neg s2] at base
  have s2 : sealedB ((r.take (m + 13)).drop 9) = true := by simpa using s2
  have w4 : IntKind.i64.wrap ((m : Int) + 13 - 4) = (m : Int) + 9 := by rw [wrap_small (by omega) (by omega)]; omega
  have wq : IntKind.i64.wrap ((q : Int) + ((m : Int) + 13)) = (q : Int) + ((m : Int) + 13) := wrap_small (by omega) (by omega)
  have hb0 : 0 ≤ nth r 0 ∧ nth r 0 < 256 := by
    have h := b8_iff.1 h8
    rw [hr, nth_drop]
    exact h _ (nth_mem (by omega))
  have w0 : IntKind.i64.wrap (nth r 0) = nth r 0 := wrap_small (by omega) (by omega)
  have cc : cutV Try.prog 22 [] w (some (.int .i64 9)) (some (.int .i64 ((m : Int) + 9))) none = some (.lst .frozen (ints .u8 ((r.take (m + 9)).drop 9)) ((r.take (m + 9)).drop 9).length) := by
    rcases ofInts_inv dw with rfl | ⟨-, -, hn⟩
    · have h1 : (0 : Int) ≤ (m : Int) + 9 := by omega
      have h2 : ((m : Int) + 9).toNat = m + 9 := by omega
      have h4 : m + 9 ≤ r.length := by omega
      have h5 : m + 9 - 9 = min (m + 9) r.length - 9 := by omega
      simp [cutV, sliceV, boundV, h1, h2, h4, h5]
    · omega
  obtain ⟨body, hbody⟩ : ∃ body, body = (r.take (m + 9)).drop 9 := ⟨_, rfl⟩
  rw [← hbody] at cc base
  have hbl : body.length < 140737488355300 := by rw [hbody]; simp; omega
  have fb := fit35 (.int .i64 (nth r 0)) (.ref (objs.length + 1) 0 0 body.length 1) rfl rfl rfl rfl
  have ob := ofBN_lst (l := body) rfl
  simp -implicitDefEqProofs (disch := omega) [vn, cw, wn, i0, i1, i2, i3, i4, ints_nth, hnz, convV, c9, x9, d9, hl9, c_Sealed, k_Sealed, s1, z, wz, w13, we, cb, xb, db, hlb, s2, w4, wq, w0, cc, c_Clone, k_Clone, ob, hbl, fb, base, frameK, frameO, bodyK, setCells, getObj_last])

end Go.Proofs.Ytmoegiibdaomlaa.B
