import Derived.Test.YtmoegiibdaomlaaFr8
set_option linter.unusedSimpArgs false
set_option linter.unusedVariables false
set_option linter.unusedSectionVars false
set_option maxRecDepth 20000
set_option maxHeartbeats 1000000
namespace Go.Proofs.Ytmoegiibdaomlaa.B
open Go Go.Ab
theorem get_bad' (l : List Int) (p : Int) (h : (getZ l p).err ≠ 0) : getZ l p = .bad (getZ l p).err := by
  unfold getZ restZ at *
  by_cases c0 : p < 0 ∨ p > l.length
  · simp only [if_pos c0]; rfl
  simp only [if_neg c0] at h ⊢
  by_cases c1 : (l.drop p.toNat).length < 9
  · simp only [if_pos c1]; rfl
  simp only [if_neg c1] at h ⊢
  by_cases c2 : sealedB ((l.drop p.toNat).take 9) = false
  · simp only [if_pos c2]; rfl
  simp only [if_neg c2] at h ⊢
  by_cases c3 : nth (l.drop p.toNat) 0 = 0
  · simp only [if_pos c3]; rfl
  simp only [if_neg c3] at h ⊢
  by_cases c4 : nZ (l.drop p.toNat) > 65536
  · simp only [if_pos c4]; rfl
  simp only [if_neg c4] at h ⊢
  by_cases c5 : nZ (l.drop p.toNat) > ((l.drop p.toNat).length : Int) - 13
  · simp only [if_pos c5]; rfl
  simp only [if_neg c5] at h ⊢
  by_cases c6 : sealedB (((l.drop p.toNat).take ((nZ (l.drop p.toNat)).toNat + 13)).drop 9) = false
  · simp only [if_pos c6]; rfl
  simp only [if_neg c6] at h
  exact absurd rfl h
theorem get_bad {l : List Int} {p : Int} (h : (getZ l p).err ≠ 0) : ∃ e, getZ l p = .bad e ∧ e ≠ 0 := ⟨_, get_bad' l p h, h⟩
theorem frameV_bad (e : Int) : frameV (.bad e) = .agg [.int .i64 0, .nils] := rfl
theorem bad_next (e : Int) : (Got.bad e).next = 0 := rfl
theorem bad_err (e : Int) : (Got.bad e).err = e := rfl
theorem isDef_body (k : LK) (b : Option (List Int)) : isDef (bodyV k b) = true ∧ cellsOf (bodyV k b) = [bodyV k b] ∧ oneCell (bodyV k b) = true := by cases b <;> exact ⟨rfl, rfl, rfl⟩
noncomputable def k_FrameOnly : Ab.Spec := con2 (ofInts .u8) (ofInt .i64) fun l p objs => match objs with | [] => bnd l.length 140737488352000 (if b8 l = true then some (.bool true, none) else none) | _ => none
noncomputable def T_FrameOnly : CallF := withF T_alive 6 k_FrameOnly
theorem T_FrameOnly_ok : CallOk Try.prog T_FrameOnly := con_of (A := annOf [] [] [] false []) fit T_alive_ok (fn := Try.f6) (by kernel_rfl) (by kernel_rfl) (by
  intro args objs r h0
  have c_alive : ∀ a o, T_alive 9 a o = k_alive a o := fun _ _ => rfl
  have c_Copy : ∀ a o, T_alive 24 a o = k_Copy a o := fun _ _ => rfl
  have c_fGet : ∀ a o, T_alive 16 a o = k_fGet a o := fun _ _ => rfl
  have c_fPut : ∀ a o, T_alive 12 a o = k_fPut a o := fun _ _ => rfl
  have c_Piece : ∀ a o, T_alive 26 a o = k_Piece a o := fun _ _ => rfl
  have c_Same : ∀ a o, T_alive 18 a o = k_Same a o := fun _ _ => rfl
  obtain ⟨v, _, l, p, rfl, ha, hb, hR⟩ := con2_inv h0
  obtain rfl := ofInt_inv hb
  split at hR
  case h_2 => cases hR
  obtain ⟨hl, hR⟩ := bnd_inv hR
  split at hR
  case isFalse => cases hR
  rename_i hl8
  cases hR
  have hB : B8 l := b8_iff.1 hl8
  obtain ⟨vd, vn, vi, -⟩ := bs ha
  have e1 : ofInts .u8 (.lst .frozen (ints .u8 l) l.length) = some l := ofInts_lst rfl
  refine .go _ rfl rfl ?_
  by_cases he : (getZ l p).err = 0
  · have hp0 : 0 ≤ p ∧ p ≤ l.length := by
      apply Classical.byContradiction
      intro q
      unfold getZ at he
      rw [if_pos (by omega)] at he
      cases he
    obtain ⟨q, rfl⟩ := Int.eq_ofNat_of_zero_le hp0.1
    have hp9 : (q : Int) < 9223372036854775807 := by omega
    have hg : getZ l (q : Int) = restZ (l.drop q) q := by unfold getZ; rw [if_neg (by omega)]; rfl
    rw [hg] at he
    obtain ⟨b, b1, b2, b3, b4, b5, b6, b7⟩ := rest_only (hB.drop q) he
    obtain ⟨m, hm⟩ : ∃ m, m = (nZ (l.drop q)).toNat := ⟨_, rfl⟩
    rw [← hm] at b2 b4 b5 b6 b7
    rw [List.length_drop] at b5
    obtain ⟨K, hK⟩ : ∃ K, K = (restZ (l.drop q) q).kind := ⟨_, rfl⟩
    rw [← hK] at b3 b7
    have hV : frameV (getZ l (q : Int)) = .agg [.int .i64 K, .lst .frozen (ints .u8 b) b.length] := by rw [hg]; unfold frameV; rw [b1, ← hK]; rfl
    have hN : (getZ l (q : Int)).next = ((q + (m + 13) : Nat) : Int) := by rw [hg, b4]; omega
    have hE : (getZ l (q : Int)).err = 0 := by rw [hg]; exact he
    have e2 : ofInts .u8 (.lst .frozen (ints .u8 b) b.length) = some b := ofInts_lst rfl
    have hfl := frameZ_len K b
    have e3 : ofInts .u8 (.lst .frozen (ints .u8 (frameZ K b)) (b.length + 13)) = some (frameZ K b) := ofInts_lst (by rw [hfl])
    have hpz : pieceZ l (q : Int) ((q + (m + 13) : Nat) : Int) = frameZ K b := by
      unfold pieceZ
      rw [Int.toNat_natCast, Int.toNat_natCast, b7, List.drop_take]
      congr 1; omega
    have hN2 : ((q + (m + 13) : Nat) : Int) = (q : Int) + ((m : Int) + 13) := by omega
    rw [hN2] at hN hpz
    simp -implicitDefEqProofs (disch := omega) [vd, vn, ha, e1, c_alive, c_Copy, c_fGet, c_fPut, c_Piece, c_Same, k_alive, k_Copy, k_fGet, k_fPut, k_Piece, k_Same, hl8, hV, hN, hE, setCells, Ab.getObj, e2, e3, b3, hfl, hpz, hp9]
  · obtain ⟨e, h1, h2⟩ := get_bad he
    have h3 : (e != 0) = true := by simpa using h2
    simp -implicitDefEqProofs (disch := omega) [vd, vn, ha, e1, c_alive, c_Copy, c_fGet, k_alive, k_Copy, k_fGet, hl8, h1, h3, Got.bad, frameV, bodyV, setCells, Ab.getObj])
noncomputable def k_FrameBack : Ab.Spec := con4 (ofInt .i64) (ofInts .u8) (ofInts .u8) (ofInts .u8) fun k l a m objs => match objs with | [] => bnd (l.length + a.length + m.length) 140737488340000 (if b8 l = true ∧ b8 a = true ∧ b8 m = true then some (.bool true, none) else none) | _ => none
noncomputable def T_FrameBack : CallF := withF T_FrameOnly 5 k_FrameBack
theorem T_FrameBack_ok : CallOk Try.prog T_FrameBack := con_of (A := annOf [] [] [] false []) fit T_FrameOnly_ok (fn := Try.f5) (by kernel_rfl) (by kernel_rfl) (by
  intro args objs r h0
  have c_alive : ∀ a o, T_FrameOnly 9 a o = k_alive a o := fun _ _ => rfl
  have c_Copy : ∀ a o, T_FrameOnly 24 a o = k_Copy a o := fun _ _ => rfl
  have c_fPut : ∀ a o, T_FrameOnly 12 a o = k_fPut a o := fun _ _ => rfl
  have c_Cat : ∀ a o, T_FrameOnly 25 a o = k_Cat a o := fun _ _ => rfl
  have c_fGet : ∀ a o, T_FrameOnly 16 a o = k_fGet a o := fun _ _ => rfl
  have c_Piece : ∀ a o, T_FrameOnly 26 a o = k_Piece a o := fun _ _ => rfl
  have c_Same : ∀ a o, T_FrameOnly 18 a o = k_Same a o := fun _ _ => rfl
  have c_fSize : ∀ a o, T_FrameOnly 15 a o = k_fSize a o := fun _ _ => rfl
  obtain ⟨_, v, u, x, k, l, a, m, rfl, hk, ha, hu, hx, hR⟩ := con4_inv h0
  obtain rfl := ofInt_inv hk
  split at hR
  case h_2 => cases hR
  obtain ⟨hl, hR⟩ := bnd_inv hR
  split at hR
  case isFalse => cases hR
  rename_i hp
  obtain ⟨hl8, ha8, hm8⟩ := hp
  cases hR
  have hB : B8 l := b8_iff.1 hl8
  have hA : B8 a := b8_iff.1 ha8
  have hM : B8 m := b8_iff.1 hm8
  obtain ⟨vd, vn, -⟩ := bs ha
  obtain ⟨ud, un, -⟩ := bs hu
  obtain ⟨xd, xn, -⟩ := bs hx
  have e1 : ofInts .u8 (.lst .frozen (ints .u8 l) l.length) = some l := ofInts_lst rfl
  refine .go _ rfl rfl ?_
  by_cases he : putErr k l = 0
  · have hfl := frameZ_len k l
    have hb := putErr_zero.1 he
    obtain ⟨F, hF⟩ : ∃ F, F = frameZ k l := ⟨_, rfl⟩
    have g1 := get_put (a := a) hB hM he
    have g2 := get_short hB he
    rw [← hF] at hfl g1 g2
    have e2 : ofInts .u8 (.lst .frozen (ints .u8 F) (l.length + 13)) = some F := ofInts_lst (by rw [hfl])
    have e3 : ofInts .u8 (.lst .frozen (ints .u8 (a ++ F)) (a.length + F.length)) = some (a ++ F) := ofInts_lst (by simp)
    have e4 : ofInts .u8 (.lst .frozen (ints .u8 (a ++ F ++ m)) ((a ++ F).length + m.length)) = some (a ++ F ++ m) := ofInts_lst (by simp; omega)
    have h8 : b8 (a ++ F ++ m) = true := b8_iff.2 ((hA.app (by rw [hF]; exact frameZ_B8 hB)).app hM)
    have hpz : pieceZ F 0 ((l.length : Int) + 12) = F.take (l.length + 12) := by
      unfold pieceZ
      rw [show ((l.length : Int) + 12).toNat = l.length + 12 by omega]; simp
    have hlt : (F.take (l.length + 12)).length = l.length + 12 := by rw [List.length_take]; omega
    have e5 : ofInts .u8 (.lst .frozen (ints .u8 (F.take (l.length + 12))) (l.length + 12)) = some (F.take (l.length + 12)) := ofInts_lst hlt.symm
    have h9 : b8 (F.take (l.length + 12)) = true := b8_iff.2 ((show B8 F by rw [hF]; exact frameZ_B8 hB).take _)
    have w1 : IntKind.i64.wrap ((l.length : Int) + 13 - 1) = (l.length : Int) + 12 := by rw [wrap_small (by omega) (by omega)]; omega
    have w2 : IntKind.i64.wrap ((a.length : Int) + ((l.length : Int) + 13)) = (a.length : Int) + ((l.length : Int) + 13) := wrap_small (by omega) (by omega)
    have hsz : ¬ ((l.length : Int) < 0 ∨ (l.length : Int) > 65536) := by omega
    have hV : frameV (getZ (a ++ F ++ m) (a.length : Int)) = .agg [.int .i64 k, .lst .frozen (ints .u8 l) l.length] := by rw [g1]; rfl
    have hN : (getZ (a ++ F ++ m) (a.length : Int)).next = (a.length : Int) + ((l.length : Int) + 13) := by rw [g1]
    have hE : (getZ (a ++ F ++ m) (a.length : Int)).err = 0 := by rw [g1]
    rw [hfl] at e3
    have hal : (a ++ F).length = a.length + (l.length + 13) := by simp [hfl]
    rw [hal] at e4
    have haml : (a ++ F ++ m).length = a.length + (l.length + 13) + m.length := by rw [List.length_append, hal]
    simp -implicitDefEqProofs (disch := omega) [-List.append_assoc, vd, vn, ud, un, xd, xn, ha, hu, hx, e1, c_alive, c_Copy, c_fGet, c_fPut, c_Piece, c_Same, c_Cat, c_fSize, k_alive, k_Copy, k_fGet, k_fPut, k_Piece, k_Same, k_Cat, k_fSize, he, ← hF, hfl, e2, e3, e4, hal, haml, h8, hV, hN, hE, setCells, Ab.getObj, w1, w2, hpz, hlt, e5, h9, g2, frameV_bad, bad_next, bad_err, hsz]
  · have hcnd : k < 1 ∨ k > 255 ∨ l.length > 65536 := by
      have := mt putErr_zero.2 he
      omega
    have h3 : (putErr k l != 0) = true := by simpa using he
    by_cases q1 : k < 1
    · simp -implicitDefEqProofs (disch := omega) [vd, vn, ha, e1, c_alive, c_Copy, c_fPut, k_alive, k_Copy, k_fPut, he, h3, q1]
    by_cases q2 : k > 255
    · simp -implicitDefEqProofs (disch := omega) [vd, vn, ha, e1, c_alive, c_Copy, c_fPut, k_alive, k_Copy, k_fPut, he, h3, q1, q2]
    have q3 : (65536 : Int) < l.length := by omega
    simp -implicitDefEqProofs (disch := omega) [vd, vn, ha, e1, c_alive, c_Copy, c_fPut, k_alive, k_Copy, k_fPut, he, h3, q1, q2, q3])

end Go.Proofs.Ytmoegiibdaomlaa.B
