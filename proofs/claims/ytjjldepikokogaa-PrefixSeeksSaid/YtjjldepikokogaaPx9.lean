import Derived.Test.YtjjldepikokogaaPx8
set_option linter.unusedSimpArgs false
set_option linter.unusedVariables false
set_option linter.unusedSectionVars false
set_option maxRecDepth 20000
set_option maxHeartbeats 1000000
namespace Go.Proofs.Ytjjldepikokogaa.B
open Go Go.Ab
noncomputable def k_rput11 : Ab.Spec := con2 some some fun v w objs => match v, ofInts .u8 w with
  | .ref id ver 0 n 1, some b => match Ab.getObj objs id ver with
    | some cs => bnd (n + b.length) 140737488355000 (if cs.length = n then some (.ref id (ver + b.length) 0 (n + b.length) 1, if b.length = 0 then none else some (objs.set id (.cells (cs ++ ints .u8 b) (ver + b.length)), id)) else none)
    | none => none
  | _, _ => none
noncomputable def T_rput11 : CallF := withF T_pEncode 30 k_rput11
theorem T_rput11_ok : CallOk Try.prog T_rput11 := con_of (A := annOf [] [18] [] false []) fit T_pEncode_ok (fn := Try.f30) (by kernel_rfl) (by kernel_rfl) (by
  intro args objs r h0
  obtain ⟨v, w, _, _, rfl, hv, hw, hR⟩ := con2_inv h0
  cases hv; cases hw
  split at hR
  case h_2 => cases hR
  rename_i id ver n b hb
  split at hR
  case h_2 => cases hR
  rename_i cs hg
  obtain ⟨hl, hR⟩ := bnd_inv hR
  split at hR
  case isFalse => cases hR
  rename_i hn
  subst hn
  cases hR
  have hid := getObj_lt hg
  obtain ⟨wd, wn, wi, -⟩ := bs hb
  have hlt : ¬ objs.length ≤ id := by omega
  refine .go _ rfl rfl ?_
  simp
  obtain ⟨I, hI⟩ : ∃ I : Nat → St → Prop, I = (fun (i : Nat) (s : St) => s.env 0 = .ref id (ver + i) 0 (cs.length + i) 1 ∧ s.env 1 = w ∧ s.env 5 = .int .i64 i ∧ s.toks = [] ∧ s.objs = (if i = 0 then objs else objs.set id (.cells (cs ++ ints .u8 (b.take i)) (ver + i))) ∧ s.low = if i = 0 then objs.length else id) := ⟨_, rfl⟩
  refine .up b.length I (by rw [hI]; exact ⟨by simp, by simp, by simp, by simp, by simp, by simp⟩) ?_
  intro i s hi hs
  rw [hI] at hs
  obtain ⟨h0, h1, h5, ht, ho, hlo⟩ := hs
  rcases Nat.lt_or_ge i b.length with h | h
  · have e := take_nth h
    have e0 := ints_nth (k := .u8) h
    have e0' := of_get e0
    have e1 := wi .i64 i (by omega) (by omega)
    rw [Int.toNat_natCast] at e1
    have hgs : Ab.getObj s.objs id (ver + i) = some (cs ++ ints .u8 (b.take i)) := by
      rw [ho]
      by_cases z : i = 0
      · subst z; simp [hg, ints_nil]
      · rw [if_neg z]; exact getObj_set hid
    have hset : s.objs.set id (.cells (cs ++ ints .u8 (b.take i) ++ [.int .u8 (nth b i)]) (ver + i + 1)) = objs.set id (.cells (cs ++ ints .u8 (b.take (i + 1))) (ver + (i + 1))) := by
      rw [ho, e, List.append_assoc, ints_snoc]
      by_cases z : i = 0
      · subst z; simp
      · rw [if_neg z, List.set_set]; rfl
    have hlow : (if id < s.low then id else s.low) = id := by
      rw [hlo]
      by_cases z : i = 0
      · rw [if_pos z, if_pos hid]
      · rw [if_neg z, if_neg (by omega)]
    have hm : min i b.length = i := by omega
    rw [List.append_assoc, ints_snoc] at hset
    simp -implicitDefEqProofs (disch := omega) [h0, h1, h5, ht, wn, e1, e0, e0', h, blit1, hgs, hset, hlow, hm, Nat.mod_one, wrap_small]
    rw [hI]
    exact ⟨by simp; omega, by simp [h1], by simp, by simp, by simp, by simp⟩
  · obtain rfl : i = b.length := by omega
    rw [List.take_length] at ho
    by_cases z : b.length = 0
    · rw [if_pos z] at ho hlo
      simp -implicitDefEqProofs (disch := omega) [h0, h1, h5, ht, ho, hlo, wn, hid, z]
      exact List.eq_nil_of_length_eq_zero z
    · rw [if_neg z] at ho hlo
      have htk : (objs.set id (AO.cells (cs ++ ints .u8 b) (ver + b.length))).take objs.length = objs.set id (AO.cells (cs ++ ints .u8 b) (ver + b.length)) := List.take_of_length_le (by simp)
      simp -implicitDefEqProofs (disch := omega) [h0, h1, h5, ht, ho, hlo, wn, hid, z, htk]
      exact fun q => z (by rw [q]; rfl))
noncomputable def k_rpEncode : Ab.Spec := con1 (ofList (ofInts .u8)) fun ss _ => bnd ss.length 140737488355328 (if shortT ss = true then some (if encBad ss = true then .tup [.nils, .int .i64 4] else .tup [.lst (.fresh 1 true) (ints .u8 (encP ss)) (encP ss).length, .int .i64 0], none) else none)
noncomputable def T_rpEncode : CallF := withF T_rput11 10 k_rpEncode
theorem T_rpEncode_ok : CallOk Try.prog T_rpEncode := con_of (A := annOf [] [] [(14, [.ref])] false [30]) fit T_rput11_ok (fn := Try.f10) (by kernel_rfl) (by kernel_rfl) (by
  intro args objs r h0
  have c_RPut : ∀ a o, T_rput11 28 a o = k_RPut a o := fun _ _ => rfl
  have c_rput11 : ∀ a o, T_rput11 30 a o = k_rput11 a o := fun _ _ => rfl
  have c_rsame : ∀ a o, T_rput11 29 a o = k_rsame a o := fun _ _ => rfl
  obtain ⟨v, ss, rfl, ha, hR⟩ := con1_inv h0
  obtain ⟨hl, hR⟩ := bnd_inv hR
  split at hR
  case isFalse => cases hR
  rename_i hall
  cases hR
  have hall := shortT_iff.1 hall
  obtain ⟨vd, vn, cs, vi, vc⟩ := tx ha
  refine .go _ rfl rfl ?_
  by_cases hbig : 4096 < ss.length
  · have hb : encBad ss = true := by simp [encBad, hbig]
    have hb' : (4096 : Int) < ss.length := by omega
    simp -implicitDefEqProofs (disch := omega) [vn, hb, hb', hbig]
  have wS : IntKind.u64.wrap (ss.length : Int) = ss.length := wrap_u64 (by omega) (by omega)
  obtain ⟨E, hE⟩ : ∃ E, E = encT ss := ⟨_, rfl⟩
  have hE0 : E 0 = M.putL ss.length := by rw [hE]; simp [encT]
  have hp0 : putVR (ss.length : Int) = some (.lst (.fresh 1 true) (ints .u8 (E 0)) (E 0).length, none) := by rw [putVR_nat (by omega), hE0]
  simp -implicitDefEqProofs (disch := omega) [vn, hbig, c_RPut, k_RPut, hp0, convV, wS]
  refine .up ss.length (fun i s => (∀ j, j < i → (nth ss j).length ≤ 200) ∧ s.env 0 = v ∧ s.env 5 = .int .i64 i ∧ s.env 4 = .ref objs.length 0 0 (E 0).length 1 ∧ s.toks = [] ∧ s.objs = objs ++ [.cells (ints .u8 (E 0)) 0] ∧ s.low = objs.length) (by simp) ?_
  rintro i s hi ⟨h200, g0, g5, g4, ht, ho, hlo⟩
  rcases Nat.lt_or_ge i ss.length with h | h
  · obtain ⟨c, c1, c1', c2⟩ := vc i h
    obtain ⟨cd, cn, -⟩ := bs c2
    have e1 := vi .i64 i (by omega) (by omega)
    rw [Int.toNat_natCast] at e1
    by_cases hlong : 200 < (nth ss i).length
    · have hb := bad_at h hlong
      simp -implicitDefEqProofs (disch := omega) [g0, g5, g4, ht, ho, hlo, vn, e1, c1, c1', cd, cn, h, hb, hlong]
    · have h200' : ∀ j, j < i + 1 → (nth ss j).length ≤ 200 := fun j hj => by
        rcases Nat.lt_or_ge j i with q | q
        · exact h200 j q
        · obtain rfl : j = i := by omega
          omega
      simp -implicitDefEqProofs (disch := omega) [g0, g5, g4, ht, ho, hlo, vn, e1, c1, c1', cd, cn, h, hlong, wrap_small]
      exact h200'
  obtain rfl : i = ss.length := by omega
  have hnb : encBad ss = false := by
    unfold encBad
    simp only [Bool.or_eq_false_iff, decide_eq_false_iff_not, List.any_eq_false, decide_eq_true_eq]
    refine ⟨hbig, fun s hs => ?_⟩
    obtain ⟨j, hj, rfl⟩ := nth_of_mem hs
    have := h200 j hj; omega
  simp -implicitDefEqProofs (disch := omega) [g0, g5, g4, ht, ho, hlo, vn, hnb]
  obtain ⟨I, hI⟩ : ∃ I : Nat → St → Prop, I = (fun (i : Nat) (s : St) => s.env 0 = v ∧ s.env 6 = .int .i64 i ∧ s.toks = [] ∧ s.low = objs.length ∧ ∃ ver, s.env 4 = .ref objs.length ver 0 (E i).length 1 ∧ s.objs = objs ++ [.cells (ints .u8 (E i)) ver]) := ⟨_, rfl⟩
  refine .up ss.length I (by rw [hI]; exact ⟨by simp [g0], by simp, by simp, by simp, 0, by simp [g4], by simp⟩) ?_
  intro i s hi hs
  rw [hI] at hs
  obtain ⟨g0, g6, ht, hlo, ver, g4, ho⟩ := hs
  have hEl : (E i).length ≤ 10 + 220 * i := by rw [hE]; exact encT_len (by omega) i (fun j hj => h200 j (by omega))
  rcases Nat.lt_or_ge i ss.length with h | h
  · obtain ⟨c, c1, c1', c2⟩ := vc i h
    obtain ⟨cd, cn, ci, ca, -⟩ := bs c2
    have e1 := vi .i64 i (by omega) (by omega)
    rw [Int.toNat_natCast] at e1
    have hLl := h200 i h
    obtain ⟨L, hL⟩ : ∃ L, L = nth ss i := ⟨_, rfl⟩
    have hsl := sameAt_le ss i
    rw [← hL] at c2 cn ci ca hLl hsl
    obtain ⟨k, hk⟩ : ∃ k, k = sameAt ss i := ⟨_, rfl⟩
    rw [← hk] at hsl
    have wk : IntKind.u64.wrap (k : Int) = k := wrap_u64 (by omega) (by omega)
    have wl1 : IntKind.i64.wrap ((L.length : Int) - k) = ((L.length - k : Nat) : Int) := by rw [wrap_small (by omega) (by omega)]; omega
    have wl2 : IntKind.u64.wrap ((L.length - k : Nat) : Int) = ((L.length - k : Nat) : Int) := wrap_u64 (by omega) (by omega)
    obtain ⟨n, hn⟩ : ∃ n, n = L.length - k := ⟨_, rfl⟩
    rw [← hn] at wl1 wl2
    obtain ⟨A, hA⟩ : ∃ A, A = M.putL k := ⟨_, rfl⟩
    obtain ⟨B, hB⟩ : ∃ B, B = M.putL n := ⟨_, rfl⟩
    have hAl : A.length ≤ 10 := by rw [hA]; exact M.putL_len10 (by omega)
    have hBl : B.length ≤ 10 := by rw [hB]; exact M.putL_len10 (by omega)
    have hA0 : 0 < A.length := by rw [hA]; exact M.putL_pos k
    have hB0 : 0 < B.length := by rw [hB]; exact M.putL_pos n
    have q1 : putVR (k : Int) = some (.lst (.fresh 1 true) (ints .u8 A) A.length, none) := by rw [putVR_nat (by omega), hA]
    have q2 : putVR (n : Int) = some (.lst (.fresh 1 true) (ints .u8 B) B.length, none) := by rw [putVR_nat (by omega), hB]
    have eA : ofInts .u8 (.lst .frozen (ints .u8 A) A.length) = some A := ofInts_lst rfl
    have eB : ofInts .u8 (.lst .frozen (ints .u8 B) B.length) = some B := ofInts_lst rfl
    have zA : ¬ A = [] := fun q => by rw [q] at hA0; exact absurd hA0 (by decide)
    have zB : ¬ B = [] := fun q => by rw [q] at hB0; exact absurd hB0 (by decide)
    have es : E (i + 1) = E i ++ A ++ B ++ L.drop k := by rw [hE, encT_succ]; unfold entB; rw [← hk, ← hL, ← hn, hA, hB]; simp
    have ldl : (L.drop k).length = n := by rw [List.length_drop]; omega
    have esl : (E (i + 1)).length = (E i).length + A.length + B.length + n := by rw [es]; simp only [List.length_append, ldl]
    have hcut : ∀ O, ∃ w', cutV Try.prog 25 O c (some (.int .i64 (k : Int))) none none = some w' ∧ ofInts .u8 w' = some (L.drop k) := fun O => by
      obtain ⟨w', cw, dw⟩ := bcut c2 O (some (.int .i64 (k : Int))) none k L.length (by simp [boundV]) (by simp [boundV]) hsl (Nat.le_refl _)
      rw [List.take_length] at dw
      exact ⟨w', cw, dw⟩
    obtain ⟨W, hW⟩ := (Classical.skolem (p := fun O w' => cutV Try.prog 25 O c (some (.int .i64 (k : Int))) none none = some w' ∧ ofInts .u8 w' = some (L.drop k))).1 hcut
    have hW1 := fun O => (hW O).1
    have hW2 := fun O => (hW O).2
    have hW3 := fun O => (bs (hW O).2).1
    simp -implicitDefEqProofs (disch := omega) [g0, g6, g4, ht, ho, hlo, vn, e1, c1, c1', cd, cn, h]
    refine .stop (M := fun e s => e = .norm ∧ s.env 0 = v ∧ s.env 6 = .int .i64 i ∧ s.env 4 = .ref objs.length ver 0 (E i).length 1 ∧ s.env 7 = .int .i64 k ∧ s.toks = [] ∧ s.objs = objs ++ [.cells (ints .u8 (E i)) ver] ∧ s.low = objs.length) ?_ ?_
    · by_cases hm : i % 16 = 0
      · have hk0 : k = 0 := by rw [hk]; unfold sameAt; rw [if_pos hm]
        have hm' : ((i : Int).tmod 16) = 0 := by rw [Int.tmod_eq_emod_of_nonneg (by omega)]; omega
        have hm2 : ((i : Int) % 16) = 0 := by omega
        simp -implicitDefEqProofs (disch := omega) [g0, g6, g4, ht, ho, hlo, hm', hm2, hk0, At]
      · have hm' : ¬ ((i : Int).tmod 16) = 0 := by rw [Int.tmod_eq_emod_of_nonneg (by omega)]; omega
        have hm2 : ¬ ((i : Int) % 16) = 0 := by omega
        have hk1 : k = sharedN (nth ss (i - 1)) L := by rw [hk, hL]; unfold sameAt; rw [if_neg hm]
        obtain ⟨d, d1, d1', d2⟩ := vc (i - 1) (by omega)
        obtain ⟨dd, -⟩ := bs d2
        have e2 := vi .i64 ((i : Int) - 1) (by omega) (by omega)
        have ti : ((i : Int) - 1).toNat = i - 1 := by omega
        rw [ti] at e2
        have hii : i - 1 < ss.length := by omega
        have wi1 : IntKind.i64.wrap ((i : Int) - 1) = (i : Int) - 1 := wrap_small (by omega) (by omega)
        have q1 : ofIntsR .u8 s.objs d = some (nth ss (i - 1)) := ofIntsR_of d2
        have q2 : ofIntsR .u8 s.objs c = some L := ofIntsR_of c2
        rw [ho] at q1 q2
        have hll := h200 (i - 1) (by omega)
        simp -implicitDefEqProofs (disch := omega) [g0, g6, g4, ht, ho, hlo, hm', hm2, wi1, e1, e2, c1, c1', d1, d1', dd, cd, h, c_rsame, k_rsame, q1, q2, hk1, At]
    rintro e s ⟨rfl, g0, g6, g4, g7, ht, ho, hlo⟩
    by_cases hz : n = 0
    · have ldz : L.drop k = [] := List.eq_nil_of_length_eq_zero (by omega)
      have esz : ints .u8 (E i ++ A ++ B) = ints .u8 (E (i + 1)) := by rw [es, ldz, List.append_nil]
      rw [ldz] at hW2
      simp -implicitDefEqProofs (disch := omega) [g0, g6, g4, g7, ht, ho, hlo, e1, c1, c1', cd, cn, h, c_RPut, k_RPut, c_rput11, k_rput11, convV, wk, wl1, wl2, q1, q2, eA, eB, zA, zB, hW1, hW2, hW3, Nat.add_assoc, wrap_small]
      rw [hI]
      refine ⟨by simp [g0], by simp, by simp, by simp, ver + (A.length + B.length), ?_, ?_⟩
      · simp [esl, hz, Nat.add_assoc]
      · simpa [Nat.add_assoc] using esz
    · have zL : ¬ L.drop k = [] := fun q => by have := congrArg List.length q; rw [ldl] at this; exact hz this
      have esz : ints .u8 (E i ++ A ++ B ++ L.drop k) = ints .u8 (E (i + 1)) := by rw [es]
      simp -implicitDefEqProofs (disch := omega) [g0, g6, g4, g7, ht, ho, hlo, e1, c1, c1', cd, cn, h, c_RPut, k_RPut, c_rput11, k_rput11, convV, wk, wl1, wl2, q1, q2, eA, eB, zA, zB, hW1, hW2, hW3, zL, ldl, Nat.add_assoc, wrap_small]
      rw [hI]
      refine ⟨by simp [g0], by simp, by simp, by simp, ver + (A.length + (B.length + n)), ?_, ?_⟩
      · simp [esl, Nat.add_assoc]
      · simpa [ldl, Nat.add_assoc] using esz
  · obtain rfl : i = ss.length := by omega
    have hfin : E ss.length = encP ss := by rw [hE]; rfl
    simp -implicitDefEqProofs (disch := omega) [g0, g6, g4, ht, ho, hlo, vn, hfin])

end Go.Proofs.Ytjjldepikokogaa.B
