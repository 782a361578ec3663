import Derived.Test.YtiaihiccaoibgaaDoorKzA
set_option linter.unusedSimpArgs false
set_option linter.unusedVariables false
set_option linter.unusedSectionVars false
set_option maxRecDepth 20000
set_option maxHeartbeats 1000000
namespace Go.Proofs.YtiaihiccaoibgaaDoor.B
open Go Go.Ab
/-! bytes.Replace of 0 by 0 255 -/
noncomputable def k_bReplace : Ab.Spec := con4 some some some (ofInt .i64) fun v w u m objs => match ofIntsR .u8 objs v, ofIntsR .u8 objs w, ofIntsR .u8 objs u with
  | some a, some [0], some [0, 255] => if m = -1 ∧ b8 a = true ∧ a.length < 1000 then some (if a = [] then .nils else .lst (.fresh 1 true) (ints .u8 (escZ a)) (escZ a).length, none) else none
  | _, _, _ => none
noncomputable def T_bReplace : CallF := withF T_bindex 70 k_bReplace
theorem T_bReplace_ok : CallOk Tryd.prog T_bReplace := con_of (A := annOf [] [25,44] [] false []) fit T_bindex_ok (fn := Tryd.f70) (by kernel_rfl) (by kernel_rfl) (by
  intro args objs r h0
  have c_bcount : ∀ a o, T_bindex 83 a o = k_bcount a o := fun _ _ => rfl
  have c_bindex : ∀ a o, T_bindex 84 a o = k_bindex a o := fun _ _ => rfl
  obtain ⟨v, w, u, _, _, _, _, m, rfl, hv, hw, hu, hm, hR⟩ := con4_inv h0
  cases hv; cases hw; cases hu
  obtain rfl := ofInt_inv hm
  split at hR
  case h_2 => cases hR
  rename_i l ha hx hy
  split at hR
  case isFalse => cases hR
  rename_i hc
  obtain ⟨rfl, h8, hl⟩ := hc
  cases hR
  have hB := b8_iff.1 h8
  obtain ⟨_, vd, vn, -⟩ := bsR ha
  obtain ⟨_, wd, wn, -⟩ := bsR hx
  obtain ⟨_, ud, un, -⟩ := bsR hy
  have hcnt : Lib.countByte (Lib.bytesOf l) 0 = l.count 0 := cnt0 hB
  obtain ⟨C, hC⟩ : ∃ C, C = l.count 0 := ⟨_, rfl⟩
  have hC2 : C ≤ l.length := by rw [hC]; exact List.count_le_length
  rw [← hC] at hcnt
  have wn1 : lenV Tryd.prog 28 w = some (.int .i64 1) := wn
  have un1 : lenV Tryd.prog 28 u = some (.int .i64 2) := un
  have S := fun (O : List AO) (v : V) (l : List Int) (h : ofIntsR .u8 O v = some l) => srcR h
  have hel : (escZ l).length = l.length + l.count 0 := esc_count l
  rw [← hC] at hel
  obtain ⟨F, hF⟩ : ∃ F, F = escZ l := ⟨_, rfl⟩
  rw [← hF] at hel ⊢
  refine .go _ rfl rfl ?_
  by_cases hz : C = 0
  · have h0 : (0 : Int) ∉ l := by rw [← List.count_eq_zero]; omega
    have he : F = l := by rw [hF]; exact esc_none h0
    have s1 := S objs v l ha
    by_cases hl0 : l = []
    · subst hl0
      have s0 : ∀ e, srcOf (.slice e) objs 1 v = some [] := fun e => s1 e
      have hcn : Lib.countByte (Lib.bytesOf []) 0 = 0 := rfl
      simp -implicitDefEqProofs (disch := omega) [vd, wd, ud, vn, c_bcount, k_bcount, ha, hx, hcn, hz, s0, Nat.mod_one]
    · have hl1 : ints .u8 l ≠ [] := by simpa [ints] using hl0
      simp -implicitDefEqProofs (disch := omega) [vd, wd, ud, vn, c_bcount, k_bcount, ha, hx, hcnt, hz, s1, hl1, Nat.mod_one, he, hl0]
  have hl0 : l ≠ [] := by rintro rfl; simp at hC2; omega
  obtain ⟨N, hN⟩ : ∃ N, N = l.length + C := ⟨_, rfl⟩
  have hNi : (l.length : Int) + (C : Int) = (N : Int) := by omega
  have hNb : (N : Int) < 140737488355328 := by omega
  have hCz : ¬ ((C : Int) = 0) := by omega
  simp -implicitDefEqProofs (disch := omega) [vd, wd, ud, vn, c_bcount, k_bcount, ha, hx, hcnt, hz, hCz, wn1, un1, hNi, hNb, wrap_small, zeros_one]
  obtain ⟨I, hI⟩ : ∃ I : Nat → St → Prop, I = (fun (j : Nat) (z : St) => ∃ p s : List Int, l = p ++ s ∧ s.count 0 = C - j ∧ z.env 0 = v ∧ z.env 1 = w ∧ z.env 2 = u ∧ z.env 3 = .int .i64 C ∧ z.env 10 = .ref objs.length 0 0 N 1 ∧ z.env 11 = .int .i64 (p.flatMap esc).length ∧ z.env 12 = .int .i64 p.length ∧ z.env 48 = .int .i64 C ∧ z.env 49 = .int .i64 j ∧ z.toks = [] ∧ z.low = objs.length ∧ z.objs = objs ++ [.cells (ints .u8 (p.flatMap esc) ++ List.replicate (N - (p.flatMap esc).length) (.int .u8 0)) 0]) := ⟨_, rfl⟩
  refine .up C I (by rw [hI]; exact ⟨[], l, rfl, hC.symm, by simp, by simp, by simp, by simp, by simp, by simp, by simp, by simp, by simp, by simp, by simp, by simp [ints_nil]⟩) ?_
  intro j z hi hz
  rw [hI] at hz
  obtain ⟨p, s, hps, hsc, e0, e1, e2, e3, e10, e11, e12, e48, e49, ht, hlo, ho⟩ := hz
  obtain ⟨E, hE⟩ : ∃ E, E = p.flatMap esc := ⟨_, rfl⟩
  rw [← hE] at e11 ho
  have hEl : E.length = p.length + p.count 0 := by rw [hE]; exact esc_count p
  have hpc : p.count 0 + s.count 0 = C := by rw [hC, hps, List.count_append]
  have hsl : s.count 0 ≤ s.length := List.count_le_length
  have hll : l.length = p.length + s.length := by rw [hps, List.length_append]
  obtain ⟨O, hO⟩ : ∃ O, O = objs ++ [.cells (ints .u8 E ++ List.replicate (N - E.length) (.int .u8 0)) 0] := ⟨_, rfl⟩
  have b1 : Ab.getObj O objs.length 0 = some (ints .u8 E ++ List.replicate (N - E.length) (.int .u8 0)) := by rw [hO]; simp
  have haO : ofIntsR .u8 O v = some l := by rw [hO]; exact ofIntsR_app ha
  have hxO : ofIntsR .u8 O w = some [0] := by rw [hO]; exact ofIntsR_app hx
  have hyO : ofIntsR .u8 O u = some [0, 255] := by rw [hO]; exact ofIntsR_app hy
  have hc0 : (ints .u8 E ++ List.replicate (N - E.length) (V.int .u8 0)).length = N := by simp; omega
  rw [← hO] at ho
  obtain ⟨c1, cv1, co1, -, cd1, ct1⟩ := cutR haO (some (.int .i64 p.length)) none none p.length l.length (by simp [boundV]) (by simp [boundV]) (by omega) (Nat.le_refl _) (.inl rfl)
  rw [List.take_length, hps, List.drop_left] at co1
  have hOs : ∀ X, O.set objs.length X = objs ++ [X] := fun X => by rw [hO]; simp
  rcases Nat.lt_or_ge j C with h | h
  case inr =>
    obtain rfl : j = C := by omega
    have hs0 : (0 : Int) ∉ s := by rw [← List.count_eq_zero]; omega
    have hfin : F = E ++ s := by rw [hF]; show l.flatMap esc = _; rw [hps, List.flatMap_append, ← hE, esc_none hs0]
    have hNE : N - E.length = s.length := by omega
    have s2 := S O c1 s co1
    have hEN : E.length ≤ N := by omega
    have hNi2 : (E.length : Int) + (s.length : Int) = (N : Int) := by omega
    have hesl : (E ++ s).length = N := by simp; omega
    have hNs : E.length + s.length = N := by omega
    have hst := set_rep (A := ints .u8 E) (ys := ints .u8 s) (M := s.length) (z := .int .u8 0) (w := E.length) (by simp) (by simp)
    have hst2 : ints .u8 E ++ ints .u8 s = ints .u8 (E ++ s) := by simp [ints]
    simp -implicitDefEqProofs (disch := omega) [e0, e1, e2, e3, e10, e11, e12, e48, e49, ht, ho, hlo, cv1, cd1, s2, b1, hc0, hEN, hNE, hNs, hst, hst2, hfin, hl0, hNi2, hOs, hesl, wrap_small, Nat.mod_one, Nat.div_one]
  obtain ⟨q, r, hs, hq, hix⟩ : ∃ q r : List Int, s = q ++ 0 :: r ∧ (0 : Int) ∉ q ∧ idxB s 0 = (q.length : Int) := by
    rcases idx_split (l := s) (fun c hc => hB c (by rw [hps]; exact List.mem_append_right _ hc)) with ⟨-, h0⟩ | h0
    · rw [← List.count_eq_zero] at h0; omega
    · exact h0
  have hsl2 : s.length = q.length + r.length + 1 := by rw [hs]; simp; omega
  have hq0 : q.count 0 = 0 := List.count_eq_zero.2 hq
  have hrc : r.count 0 + 1 = s.count 0 := by rw [hs, List.count_append, List.count_cons, hq0]; simp
  obtain ⟨c2, cv2, co2, -, cd2, ct2⟩ := cutR haO (some (.int .i64 p.length)) (some (.int .i64 (p.length + q.length : Nat))) none p.length (p.length + q.length) (by simp [boundV]) (by simp [boundV]; omega) (by omega) (by omega) (.inl rfl)
  have hcut : (l.take (p.length + q.length)).drop p.length = q := by
    rw [hps, hs, ← List.append_assoc, ← List.length_append, List.take_left, List.drop_left]
  rw [hcut] at co2
  have s2 := S O c2 q co2
  have s3 : ∀ (M : List AO) (e : TypeId), srcOf (.slice e) (objs ++ M) 1 u = some [.int .u8 0, .int .u8 255] := fun M e => S (objs ++ M) u _ (ofIntsR_app hy) e
  have hpq : ((p.length + q.length : Nat) : Int) = (p.length : Int) + (q.length : Int) := by omega
  rw [hpq] at cv2
  have hEN : E.length ≤ N := by omega
  obtain ⟨W1, hW1⟩ : ∃ W1, W1 = E.length + q.length := ⟨_, rfl⟩
  have hW2 : (E.length : Int) + (q.length : Int) = (W1 : Int) := by omega
  have hEN2 : W1 ≤ N := by omega
  have hqN : q.length ≤ N - E.length := by omega
  have hq2 : 2 ≤ N - W1 := by omega
  have hX1 : E.length + (N - E.length) = N := by omega
  have hX2 : W1 + (N - W1) = N := by omega
  have hX3 : E.length + q.length + (N - E.length - q.length) = N := by omega
  have hst := set_rep (A := ints .u8 E) (ys := ints .u8 q) (M := N - E.length) (z := .int .u8 0) (w := E.length) (by simp) (by simpa using hqN)
  have hst2 : ints .u8 E ++ (ints .u8 q ++ List.replicate (N - E.length - q.length) (V.int .u8 0)) = ints .u8 (E ++ q) ++ List.replicate (N - E.length - q.length) (V.int .u8 0) := by simp [ints]
  have hst3 := set_rep (A := ints .u8 (E ++ q)) (ys := [.int .u8 0, .int .u8 255]) (M := N - E.length - q.length) (z := .int .u8 0) (w := W1) (by simp [hW1]) (by simp; omega)
  simp -implicitDefEqProofs (disch := omega) [e0, e1, e2, e3, e10, e11, e12, e48, e49, ht, ho, hlo, h, cv1, cd1, wd, c_bindex, k_bindex, co1, hxO, hix, wn1, un1, hpq, hW2, cv2, cd2, s2, b1, hc0, hEN, hEN2, hqN, hq2, hX1, hX2, hX3, ud, un1, s3, hst, hst2, hst3, hOs, wrap_small, Nat.mod_one, Nat.div_one]
  rw [hI]
  have hE2 : (p ++ q ++ [0]).flatMap esc = E ++ q ++ [0, 255] := by rw [List.flatMap_append, List.flatMap_append, ← hE, esc_none hq]; rfl
  have hE3 : (E ++ q ++ [0, 255]).length = W1 + 2 := by simp; omega
  refine ⟨p ++ q ++ [0], r, by rw [hps, hs]; simp, by omega, by simp [e0], by simp [e1], by simp [e2], by simp [e3], by simp [e10], ?_, ?_, by simp [e48], by simp, rfl, rfl, ?_⟩
  · rw [hE2, hE3]; simp
  · simp; omega
  · rw [hE2, hE3]
    have h1 : N - E.length - q.length - 2 = N - (W1 + 2) := by omega
    simp [ints, h1])

end Go.Proofs.YtiaihiccaoibgaaDoor.B
set_option maxRecDepth 20000
set_option maxHeartbeats 1000000
namespace Go.Proofs.YtiaihiccaoibgaaDoor.B
open Go Go.Ab
noncomputable def k_bReplAll : Ab.Spec := con3 some some some fun v w u objs => match ofIntsR .u8 objs v, ofIntsR .u8 objs w, ofIntsR .u8 objs u with
  | some a, some [0], some [0, 255] => if b8 a = true ∧ a.length < 1000 then some (if a = [] then .nils else .lst (.fresh 1 true) (ints .u8 (escZ a)) (escZ a).length, none) else none
  | _, _, _ => none
noncomputable def T_bReplAll : CallF := withF T_bReplace 62 k_bReplAll
theorem T_bReplAll_ok : CallOk Tryd.prog T_bReplAll := con_of (A := annOf [] [10] [] false []) fit T_bReplace_ok (fn := Tryd.f62) (by kernel_rfl) (by kernel_rfl) (by
  intro args objs r h0
  have c_bReplace : ∀ a o, T_bReplace 70 a o = k_bReplace a o := fun _ _ => rfl
  obtain ⟨v, w, u, _, _, _, rfl, hv, hw, hu, hR⟩ := con3_inv h0
  cases hv; cases hw; cases hu
  split at hR
  case h_2 => cases hR
  rename_i l ha hx hy
  split at hR
  case isFalse => cases hR
  rename_i hc
  obtain ⟨h8, hl⟩ := hc
  cases hR
  obtain ⟨_, vd, vn, -⟩ := bsR ha
  obtain ⟨_, wd, wn, -⟩ := bsR hx
  obtain ⟨_, ud, un, -⟩ := bsR hy
  obtain ⟨F, hF⟩ : ∃ F, F = escZ l := ⟨_, rfl⟩
  rw [← hF]
  have hFl : (escZ l).length ≤ 2 * l.length := (flat_esc l).2
  rw [← hF] at hFl
  refine .go _ rfl rfl ?_
  by_cases hl0 : l = []
  · subst hl0
    have hl2 : ([] : List Int).length < 1000 := hl
    simp -implicitDefEqProofs (disch := omega) [vd, wd, ud, c_bReplace, k_bReplace, ha, hx, hy, h8]
  · simp -implicitDefEqProofs (disch := omega) [vd, wd, ud, c_bReplace, k_bReplace, ha, hx, hy, h8, hl, hl0, ← hF])
theorem blit2 (a b : Int) : listV Tryd.prog 28 2 [(0, .int .u8 a), (1, .int .u8 b)] = some ([.int .u8 a, .int .u8 b], 1) := by simp [listV, fillV, zeros, setCells]
noncomputable def k_Kput : Ab.Spec := con2 (ofInt .i64) some fun k v objs => match v with
  | .agg [.bool n, .int .i64 i, a] => match ofIntsR .u8 objs a with
    | some l => if checkR k false n i l = 0 ∧ i64B i = true ∧ b8 l = true then some (kputV (.fresh 1 true) k i l, none) else none
    | none => none
  | _ => none
noncomputable def T_Kput : CallF := withF T_bReplAll 41 k_Kput
theorem T_Kput_ok : CallOk Tryd.prog T_Kput := con_of (A := annOf [] [11,13,20,23,27] [] false []) fit T_bReplAll_ok (fn := Tryd.f41) (by kernel_rfl) (by kernel_rfl) (by
  intro args objs r h0
  have c_KNum : ∀ a o, T_bReplAll 63 a o = k_KNum a o := fun _ _ => rfl
  have c_CloneR : ∀ a o, T_bReplAll 47 a o = k_CloneR a o := fun _ _ => rfl
  have c_bReplAll : ∀ a o, T_bReplAll 62 a o = k_bReplAll a o := fun _ _ => rfl
  obtain ⟨_, v, k, _, rfl, hk, hv, hR⟩ := con2_inv h0
  obtain rfl := ofInt_inv hk
  cases hv
  split at hR
  case h_2 => cases hR
  rename_i n i a
  split at hR
  case h_2 => cases hR
  rename_i l ha
  split at hR
  case isFalse => cases hR
  rename_i hc
  obtain ⟨hc, hib, h8⟩ := hc
  cases hR
  obtain ⟨rfl, k1, k8, c6, c7, hl⟩ := chk_key hc
  obtain ⟨a1, a2, a3, a4⟩ := one_ofR ha
  obtain ⟨O, hO⟩ : ∃ O, O = objs ++ [.cells [.bool false, .int .i64 i, a] 0] := ⟨_, rfl⟩
  have haO : ofIntsR .u8 O a = some l := by rw [hO]; exact ofIntsR_app ha
  have b1 : Ab.getObj O objs.length 0 = some [.bool false, .int .i64 i, a] := by rw [hO]; simp
  have hOl : objs.length < O.length := by rw [hO]; simp
  have i0 : ints .u8 [0] = [.int .u8 0] := rfl
  have hOl2 : ¬ O.length < objs.length := by omega
  refine .go _ rfl rfl ?_
  by_cases k6 : k ≤ 6
  · obtain ⟨hh, -⟩ := c6 k6
    have hk7 : ¬ k = 7 := by omega
    have hk8 : ¬ k = 8 := by omega
    obtain ⟨B, hB⟩ : ∃ B, B = beZ (ksize k).toNat (kuZ k i) := ⟨_, rfl⟩
    have hBl : (ksize k).toNat = B.length := by rw [hB, beZ_len]
    have hB2 : B = beZ B.length (kuZ k i) := by rw [← hBl]; exact hB
    have hKP : kput k i l = B := by unfold kput; rw [if_pos k6, hB]
    simp -implicitDefEqProofs (disch := omega) [a1, a2, a3, a4, setCells, ← hO, b1, hk7, hk8, c_KNum, k_KNum, hOl2, k1, k6, hh, hib, hBl, ← hB2, kputV, hKP]
  · by_cases hk : k = 7
    · subst hk
      have hKP : kput 7 i l = l ++ [0] := rfl
      by_cases hn : isNils a = true
      · have hl0 : l = [] := by
          cases a <;> simp [isNils] at hn
          simpa [ofIntsR, ofInts] using ha.symm
        subst hl0
        simp -implicitDefEqProofs (disch := omega) [a1, a2, a3, a4, setCells, ← hO, b1, c_CloneR, k_CloneR, haO, hn, blit1, i0, Nat.mod_one, hOl2, kputV, hKP]
      · simp -implicitDefEqProofs (disch := omega) [a1, a2, a3, a4, setCells, ← hO, b1, c_CloneR, k_CloneR, haO, hn, blit1, i0, Nat.mod_one, hOl2, kputV, hKP]
    · have hk8 : k = 8 := by omega
      subst hk8
      have hKP : kput 8 i l = escZ l ++ [0, 0] := rfl
      obtain ⟨F, hF⟩ : ∃ F, F = escZ l := ⟨_, rfl⟩
      rw [← hF] at hKP
      have hFl : (escZ l).length ≤ 2 * l.length := (flat_esc l).2
      rw [← hF] at hFl
      have x1 : ∀ O : List AO, ofIntsR .u8 O (.lst .frozen [.int .u8 0] 1) = some [0] := fun O => ofIntsR_of (ofInts_lst (l := [0]) rfl)
      have x2 : ∀ O : List AO, ofIntsR .u8 O (.lst .frozen [.int .u8 0, .int .u8 255] 2) = some [0, 255] := fun O => ofIntsR_of (ofInts_lst (l := [0, 255]) rfl)
      have hl3 : l.length < 1000 := by omega
      have i00 : ints .u8 [0, 0] = [.int .u8 0, .int .u8 0] := rfl
      have i01 : ints .u8 F ++ [.int .u8 0, .int .u8 0] = ints .u8 (F ++ [0, 0]) := by simp [ints]
      by_cases hl0 : l = []
      · subst hl0
        have hF0 : F = [] := by rw [hF]; rfl
        simp -implicitDefEqProofs (disch := omega) [a1, a2, a3, a4, setCells, ← hO, b1, blit1, blit2, c_bReplAll, k_bReplAll, haO, x1, x2, h8, Nat.mod_one, hOl2, kputV, hKP, hF0, i00]
      · simp -implicitDefEqProofs (disch := omega) [a1, a2, a3, a4, setCells, ← hO, b1, blit1, blit2, c_bReplAll, k_bReplAll, haO, x1, x2, h8, hl3, hl0, ← hF, Nat.mod_one, hOl2, kputV, hKP, i01])

end Go.Proofs.YtiaihiccaoibgaaDoor.B
