import Derived.Test.YtjjldepikokogaaPx7
set_option linter.unusedSimpArgs false
set_option linter.unusedVariables false
set_option linter.unusedSectionVars false
set_option maxRecDepth 20000
set_option maxHeartbeats 1000000
namespace Go.Proofs.Ytjjldepikokogaa.B
open Go Go.Ab
def shortT (ss : List (List Int)) : Bool := ss.all fun s => decide (s.length < 140737488355000)
theorem shortT_iff {ss : List (List Int)} : shortT ss = true ↔ ∀ s ∈ ss, s.length < 140737488355000 := by simp [shortT]
/-! numbers in a row -/
def putLs (us : List Int) : List Int := M.putL us.length ++ us.flatMap fun u => M.putL u.toNat
def u64s (us : List Int) : Bool := us.all fun u => decide (0 ≤ u) && decide (u < 18446744073709551616)
theorem u64s_iff {us : List Int} : u64s us = true ↔ ∀ u ∈ us, 0 ≤ u ∧ u < 18446744073709551616 := by simp [u64s]
theorem qs {v : V} {l : List Int} (h : ofInts .u64 v = some l) : demote v = v ∧ lenV Try.prog 65 v = some (.int .i64 l.length) ∧ (∀ k i, 0 ≤ i → i < (l.length : Int) → indexV Try.prog 65 v (.int k i) = some (.fptr (ints .u64 l) i.toNat)) := by
  have w := ofInts_inv h
  refine ⟨w.dem, w.size u65, fun k i h0 h1 => ?_⟩
  have := w.idx u65 z51 k i h0 h1
  rwa [Nat.mul_one] at this
theorem qlit2 (a b : Int) : listV Try.prog 65 2 [(0, .int .u64 a), (1, .int .u64 b)] = some (ints .u64 [a, b], 1) := by simp [listV, fillV, zeros, setCells, ints, List.replicate]
theorem putLs_len {us : List Int} (h : ∀ u ∈ us, 0 ≤ u ∧ u < 18446744073709551616) : ∀ i, i ≤ us.length → ((us.take i).flatMap fun u => M.putL u.toNat).length ≤ 10 * i
  | 0, _ => by simp
  | i + 1, hi => by
    have ih := putLs_len h i (by omega)
    have h1 := h _ (nth_mem (l := us) (i := i) (by omega))
    have := M.putL_len10 (u := (nth us i).toNat) (by omega)
    rw [take_nth (by omega), List.flatMap_append, List.length_append]
    simp only [List.flatMap_cons, List.flatMap_nil, List.append_nil]
    omega
theorem putVR_eq {u : Int} (h0 : 0 ≤ u) (h1 : u < 18446744073709551616) : putVR u = some (.lst (.fresh 1 true) (ints .u8 (M.putL u.toNat)) (M.putL u.toNat).length, none) := if_pos ⟨h0, h1⟩
noncomputable def k_PutList : Ab.Spec := con1 (ofInts .u64) fun us _ => bnd us.length 1000000000000 (if u64s us = true then some (.lst (.fresh 1 true) (ints .u8 (putLs us)) (putLs us).length, none) else none)
noncomputable def T_PutList : CallF := withF T_Order 27 k_PutList
theorem T_PutList_ok : CallOk Try.prog T_PutList := con_of (A := annOf [] [19] [(9, [.ref])] false []) fit T_Order_ok (fn := Try.f27) (by kernel_rfl) (by kernel_rfl) (by
  intro args objs r h0
  have c_VPut : ∀ a o, T_Order 25 a o = k_VPut a o := fun _ _ => rfl
  obtain ⟨v, us, rfl, ha, hR⟩ := con1_inv h0
  obtain ⟨hl, hR⟩ := bnd_inv hR
  split at hR
  case isFalse => cases hR
  rename_i hu8
  cases hR
  have hu := u64s_iff.1 hu8
  obtain ⟨vd, vn, vi⟩ := qs ha
  obtain ⟨E, hE⟩ : ∃ E : Nat → List Int, E = fun i => M.putL us.length ++ (us.take i).flatMap fun u => M.putL u.toNat := ⟨_, rfl⟩
  have hEn : E us.length = putLs us := by rw [hE]; simp [putLs]
  have hE0 : E 0 = M.putL us.length := by rw [hE]; simp
  have p10 := M.putL_len10 (u := us.length) (by omega)
  have hEl : ∀ j, j ≤ us.length → (E j).length ≤ 10 + 10 * j := fun j hj => by rw [hE]; have := putLs_len hu j hj; simp only [List.length_append]; omega
  have hp0 : putVR (us.length : Int) = some (.lst (.fresh 1 true) (ints .u8 (E 0)) (E 0).length, none) := by rw [putVR_nat (by omega), hE0]
  have wS : IntKind.u64.wrap (us.length : Int) = us.length := wrap_u64 (by omega) (by omega)
  rw [← hEn]
  refine .go _ rfl rfl ?_
  simp -implicitDefEqProofs (disch := omega) [vn, vd, c_VPut, k_VPut, hp0, convV, wS]
  obtain ⟨I, hI⟩ : ∃ I : Nat → St → Prop, I = (fun (i : Nat) (s : St) => s.env 10 = v ∧ s.env 11 = .int .i64 us.length ∧ s.env 12 = .int .i64 i ∧ s.env 3 = .ref objs.length i 0 (E i).length 1 ∧ s.toks = [] ∧ s.objs = objs ++ [.cells (ints .u8 (E i)) i] ∧ s.low = objs.length) := ⟨_, rfl⟩
  refine .up us.length I (by rw [hI]; exact ⟨by simp, by simp, by simp, by simp, by simp, by simp, by simp⟩) ?_
  intro i s hi hs
  rw [hI] at hs
  obtain ⟨g10, g11, g12, g3, ht, ho, hlo⟩ := hs
  rcases Nat.lt_or_ge i us.length with h | h
  · have e0 := ints_nth (k := .u64) h
    have e0' := of_get e0
    have h1 := hu _ (nth_mem h)
    obtain ⟨A, hA⟩ : ∃ A, A = M.putL (nth us i).toNat := ⟨_, rfl⟩
    have hAl : A.length ≤ 10 := by rw [hA]; exact M.putL_len10 (by omega)
    have q1 : putVR (nth us i) = some (.lst (.fresh 1 true) (ints .u8 A) A.length, none) := by rw [hA]; exact putVR_eq h1.1 h1.2
    have es : ints .u8 (E i) ++ ints .u8 A = ints .u8 (E (i + 1)) := by rw [ints_app, hE, hA]; simp only [take_nth h, List.flatMap_append, List.flatMap_cons, List.flatMap_nil, List.append_nil, List.append_assoc]
    have esl : (E (i + 1)).length = (E i).length + A.length := by have := congrArg List.length es; simpa using this.symm
    have hEi := hEl i (by omega)
    have e1 := vi .i64 i (by omega) (by omega)
    rw [Int.toNat_natCast] at e1
    simp -implicitDefEqProofs (disch := omega) [g10, g11, g12, g3, ht, ho, hlo, e1, e0, e0', h, c_VPut, k_VPut, q1, es, esl, Nat.mod_one, wrap_small]
    rw [hI]
    exact ⟨by simp [g10], by simp [g11], by simp, by simp [esl], by simp, by simp, by simp⟩
  · obtain rfl : i = us.length := by omega
    simp -implicitDefEqProofs (disch := omega) [g10, g11, g12, g3, ht, ho, hlo])
/-! texts, each by what it shares with the one ahead -/
def sameAt (ss : List (List Int)) (i : Nat) : Nat := if i % 16 = 0 then 0 else sharedN (nth ss (i - 1)) (nth ss i)
def entB (ss : List (List Int)) (i : Nat) : List Int := M.putL (sameAt ss i) ++ (M.putL ((nth ss i).length - sameAt ss i) ++ (nth ss i).drop (sameAt ss i))
def encT (ss : List (List Int)) (i : Nat) : List Int := M.putL ss.length ++ (List.range i).flatMap (entB ss)
def encP (ss : List (List Int)) : List Int := encT ss ss.length
def encBad (ss : List (List Int)) : Bool := decide (4096 < ss.length) || ss.any fun s => decide (200 < s.length)
theorem encT_succ (ss : List (List Int)) (i : Nat) : encT ss (i + 1) = encT ss i ++ entB ss i := by simp [encT, List.range_succ]
theorem sameAt_le (ss : List (List Int)) (i : Nat) : sameAt ss i ≤ (nth ss i).length := by
  unfold sameAt; split
  · omega
  · exact (sharedN_le _ _).2
theorem entB_len {ss : List (List Int)} {i : Nat} (h : (nth ss i).length ≤ 200) : (entB ss i).length ≤ 220 := by
  have h1 := sameAt_le ss i
  have h2 := M.putL_len10 (u := sameAt ss i) (by omega)
  have h3 := M.putL_len10 (u := (nth ss i).length - sameAt ss i) (by omega)
  simp only [entB, List.length_append, List.length_drop]; omega
theorem encT_len {ss : List (List Int)} (hn : ss.length ≤ 4096) : ∀ i, (∀ j, j < i → (nth ss j).length ≤ 200) → (encT ss i).length ≤ 10 + 220 * i
  | 0, _ => by have := M.putL_len10 (u := ss.length) (by omega); simpa [encT] using this
  | i + 1, h => by
    have h1 := encT_len hn i (fun j hj => h j (by omega))
    have h2 := entB_len (h i (by omega))
    rw [encT_succ, List.length_append]; omega
theorem nth_of_mem {α : Type} [Inhabited α] {l : List α} {a : α} (h : a ∈ l) : ∃ j, j < l.length ∧ nth l j = a := by
  obtain ⟨j, hj, rfl⟩ := List.getElem_of_mem h
  exact ⟨j, hj, nth_lt hj⟩
theorem not_bad {ss : List (List Int)} (h : encBad ss = false) : ss.length ≤ 4096 ∧ ∀ i, i < ss.length → (nth ss i).length ≤ 200 := by
  unfold encBad at h
  simp only [Bool.or_eq_false_iff, decide_eq_false_iff_not, List.any_eq_false, decide_eq_true_eq] at h
  exact ⟨by omega, fun i hi => by have := h.2 _ (nth_mem hi); omega⟩
theorem bad_at {ss : List (List Int)} {i : Nat} (hi : i < ss.length) (h : 200 < (nth ss i).length) : encBad ss = true := by
  unfold encBad
  simp only [Bool.or_eq_true, decide_eq_true_eq, List.any_eq_true]
  exact .inr ⟨_, nth_mem hi, h⟩
/-- Texts that come in. -/
theorem tx {v : V} {ss : List (List Int)} (h : ofList (ofInts .u8) v = some ss) : demote v = v ∧ lenV Try.prog 22 v = some (.int .i64 ss.length) ∧ ∃ cs, (∀ k i, 0 ≤ i → i < (ss.length : Int) → indexV Try.prog 22 v (.int k i) = some (.fptr cs i.toNat)) ∧ ∀ i, i < ss.length → ∃ c, cs[i]? = some c ∧ (∀ hh : i < cs.length, cs[i]'hh = c) ∧ ofInts .u8 c = some (nth ss i) := by
  obtain ⟨cs, hv, hn, hc⟩ := ofList_inv h
  refine ⟨hv.dem, hv.size u22, cs, fun k i h0 h1 => ?_, fun i hi => ?_⟩
  · have := hv.idx u22 z25 k i h0 h1
    rwa [Nat.mul_one] at this
  · obtain ⟨c, h1, h2, h3⟩ := hc i hi
    exact ⟨c, h1, h2, h3⟩
noncomputable def k_pEncode : Ab.Spec := con1 (ofList (ofInts .u8)) fun ss _ => bnd ss.length 140737488355328 (if shortT ss = true then some (if encBad ss = true then .tup [.nils, .int .i64 4] else .tup [.lst (.fresh 1 true) (ints .u8 (encP ss)) (encP ss).length, .int .i64 0], none) else none)
noncomputable def T_pEncode : CallF := withF T_PutList 9 k_pEncode
theorem T_pEncode_ok : CallOk Try.prog T_pEncode := con_of (A := annOf [] [46,51] [(14, [.ref])] false []) fit T_PutList_ok (fn := Try.f9) (by kernel_rfl) (by kernel_rfl) (by
  intro args objs r h0
  have c_VPut : ∀ a o, T_PutList 25 a o = k_VPut a o := fun _ _ => rfl
  have c_PutList : ∀ a o, T_PutList 27 a o = k_PutList a o := fun _ _ => rfl
  have c_shared : ∀ a o, T_PutList 26 a o = k_shared a o := fun _ _ => rfl
  obtain ⟨v, ss, rfl, ha, hR⟩ := con1_inv h0
  obtain ⟨hl, hR⟩ := bnd_inv hR
  split at hR
  case isFalse => cases hR
  rename_i hall
  cases hR
  have hall := shortT_iff.1 hall
  obtain ⟨vd, vn, cs, vi, vc⟩ := tx ha
  refine .go _ rfl rfl ?_
  by_cases hbig : 4096 < ss.length
  · have hb : encBad ss = true := by simp [encBad, hbig]
    have hb' : (4096 : Int) < ss.length := by omega
    simp -implicitDefEqProofs (disch := omega) [vn, hb, hb', hbig]
  have wS : IntKind.u64.wrap (ss.length : Int) = ss.length := wrap_u64 (by omega) (by omega)
  obtain ⟨E, hE⟩ : ∃ E, E = encT ss := ⟨_, rfl⟩
  have hE0 : E 0 = M.putL ss.length := by rw [hE]; simp [encT]
  have hp0 : putVR (ss.length : Int) = some (.lst (.fresh 1 true) (ints .u8 (E 0)) (E 0).length, none) := by rw [putVR_nat (by omega), hE0]
  simp -implicitDefEqProofs (disch := omega) [vn, hbig, c_VPut, k_VPut, hp0, convV, wS]
  obtain ⟨I, hI⟩ : ∃ I : Nat → St → Prop, I = (fun (i : Nat) (s : St) => (∀ j, j < i → (nth ss j).length ≤ 200) ∧ s.env 0 = v ∧ s.env 15 = v ∧ s.env 16 = .int .i64 ss.length ∧ s.env 17 = .int .i64 i ∧ s.env 4 = .ref objs.length (2 * i) 0 (E i).length 1 ∧ s.toks = [] ∧ s.objs = objs ++ [.cells (ints .u8 (E i)) (2 * i)] ∧ s.low = objs.length) := ⟨_, rfl⟩
  refine .up ss.length I (by rw [hI]; exact ⟨by omega, by simp, by simp, by simp, by simp, by simp, by simp, by simp, by simp⟩) ?_
  intro i s hi hs
  rw [hI] at hs
  obtain ⟨h200, g0, g15, g16, g17, g4, ht, ho, hlo⟩ := hs
  have hEl : (E i).length ≤ 10 + 220 * i := by rw [hE]; exact encT_len (by omega) i h200
  rcases Nat.lt_or_ge i ss.length with h | h
  · obtain ⟨c, c1, c1', c2⟩ := vc i h
    obtain ⟨cd, cn, ci, ca, -⟩ := bs c2
    have e1 := vi .i64 i (by omega) (by omega)
    rw [Int.toNat_natCast] at e1
    by_cases hlong : 200 < (nth ss i).length
    · have hb := bad_at h hlong
      have hb' : (200 : Int) < (nth ss i).length := by omega
      simp -implicitDefEqProofs (disch := omega) [g0, g15, g16, g17, g4, ht, ho, hlo, vn, e1, c1, c1', cd, cn, h, hb, hb', hlong]
    · obtain ⟨L, hL⟩ : ∃ L, L = nth ss i := ⟨_, rfl⟩
      have hsl := sameAt_le ss i
      rw [← hL] at c2 cn ci ca hlong hsl
      obtain ⟨k, hk⟩ : ∃ k, k = sameAt ss i := ⟨_, rfl⟩
      rw [← hk] at hsl
      have h200' : ∀ j, j < i + 1 → (nth ss j).length ≤ 200 := fun j hj => by
        rcases Nat.lt_or_ge j i with q | q
        · exact h200 j q
        · obtain rfl : j = i := by omega
          rw [← hL]; omega
      obtain ⟨w', cw, dw⟩ := bcut c2 (objs ++ [.cells (ints .u8 (E i ++ (M.putL k ++ M.putL (L.length - k)))) (2 * i + 1)]) (some (.int .i64 (k : Int))) none k L.length (by simp [boundV]) (by simp [boundV]) hsl (Nat.le_refl _)
      rw [List.take_length] at dw
      obtain ⟨wd, wn, -, wa, -⟩ := bs dw
      have wk : IntKind.u64.wrap (k : Int) = k := wrap_u64 (by omega) (by omega)
      have wl1 : IntKind.i64.wrap ((L.length : Int) - k) = ((L.length - k : Nat) : Int) := by rw [wrap_small (by omega) (by omega)]; omega
      have wl2 : IntKind.u64.wrap ((L.length - k : Nat) : Int) = ((L.length - k : Nat) : Int) := wrap_u64 (by omega) (by omega)
      obtain ⟨n, hn⟩ : ∃ n, n = L.length - k := ⟨_, rfl⟩
      rw [← hn] at wl1 wl2 cw
      have hu : u64s [(k : Int), (n : Int)] = true := by rw [u64s_iff]; intro u hu; simp at hu; omega
      have ql : ofInts .u64 (.lst .frozen (ints .u64 [(k : Int), (n : Int)]) 2) = some [(k : Int), (n : Int)] := ofInts_lst rfl
      have pls : putLs [(k : Int), (n : Int)] = 2 :: (M.putL k ++ M.putL n) := by
        have : M.putL 2 = [2] := M.putL_small (by omega)
        simp [putLs, this]
      obtain ⟨Q, hQ⟩ : ∃ Q, Q = M.putL k ++ M.putL n := ⟨_, rfl⟩
      rw [← hQ] at pls cw
      have hQl : Q.length ≤ 20 := by
        have h2 := M.putL_len10 (u := k) (by omega)
        have h3 := M.putL_len10 (u := n) (by omega)
        rw [hQ, List.length_append]; omega
      have tk : List.take (Q.length + 1 - 1) (ints .u8 Q) = ints .u8 Q := List.take_of_length_le (by simp)
      have tk2 : List.take Q.length (ints .u8 Q) = ints .u8 Q := List.take_of_length_le (by simp)
      have i2 : ints .u8 (2 :: Q) = .int .u8 2 :: ints .u8 Q := rfl
      have es : E (i + 1) = E i ++ Q ++ L.drop k := by rw [hE, encT_succ]; unfold entB; rw [← hk, ← hL, ← hn, hQ]; simp
      have esl : (E (i + 1)).length = (E i).length + Q.length + n := by rw [es]; simp; omega
      have es1 : ints .u8 (E i) ++ ints .u8 Q = ints .u8 (E i ++ Q) := ints_app
      have es2 : ints .u8 (E i ++ Q) ++ ints .u8 (L.drop k) = ints .u8 (E (i + 1)) := by rw [es]; exact ints_app
      have ldl : (L.drop k).length = n := by rw [List.length_drop]; omega
      have v1 : 2 * i + 1 + 1 = 2 * (i + 1) := by omega
      simp -implicitDefEqProofs (disch := omega) [g0, g15, g16, g17, g4, ht, ho, hlo, vn, e1, c1, c1', cd, cn, h, hlong]
      refine .stop (M := fun e s => e = .norm ∧ s.env 0 = v ∧ s.env 15 = v ∧ s.env 16 = .int .i64 ss.length ∧ s.env 17 = .int .i64 i ∧ s.env 4 = .ref objs.length (2 * i) 0 (E i).length 1 ∧ s.env 6 = c ∧ s.env 7 = .int .i64 k ∧ s.toks = [] ∧ s.objs = objs ++ [.cells (ints .u8 (E i)) (2 * i)] ∧ s.low = objs.length) ?_ ?_
      · by_cases hm : i % 16 = 0
        · have hk0 : k = 0 := by rw [hk]; unfold sameAt; rw [if_pos hm]
          have hm' : ((i : Int).tmod 16) = 0 := by rw [Int.tmod_eq_emod_of_nonneg (by omega)]; omega
          have hm2 : ((i : Int) % 16) = 0 := by omega
          simp -implicitDefEqProofs (disch := omega) [g0, g15, g16, g17, g4, ht, ho, hlo, hm', hm2, hk0, At]
        · have hm' : (0 : Int) < ((i : Int).tmod 16) := by rw [Int.tmod_eq_emod_of_nonneg (by omega)]; omega
          have hm2 : (0 : Int) < ((i : Int) % 16) := by omega
          have hk1 : k = sharedN (nth ss (i - 1)) L := by rw [hk, hL]; unfold sameAt; rw [if_neg hm]
          obtain ⟨d, d1, d1', d2⟩ := vc (i - 1) (by omega)
          obtain ⟨dd, -⟩ := bs d2
          have e2 := vi .i64 ((i : Int) - 1) (by omega) (by omega)
          have ti : ((i : Int) - 1).toNat = i - 1 := by omega
          rw [ti] at e2
          have hii : i - 1 < ss.length := by omega
          have wi1 : IntKind.i64.wrap ((i : Int) - 1) = (i : Int) - 1 := wrap_small (by omega) (by omega)
          have q1 : ofIntsR .u8 s.objs d = some (nth ss (i - 1)) := ofIntsR_of d2
          have q2 : ofIntsR .u8 s.objs c = some L := ofIntsR_of c2
          rw [ho] at q1 q2
          have hll := h200 (i - 1) (by omega)
          simp -implicitDefEqProofs (disch := omega) [g0, g15, g16, g17, g4, ht, ho, hlo, hm', hm2, wi1, e2, d1, d1', dd, cd, c_shared, k_shared, q1, q2, hk1, At]
      rintro e s ⟨rfl, g0, g15, g16, g17, g4, g6, g7, ht, ho, hlo⟩
      simp -implicitDefEqProofs (disch := omega) [g0, g15, g16, g17, g4, g6, g7, ht, ho, hlo, cd, cn, c_PutList, k_PutList, convV, wk, wl1, wl2, qlit2, ql, hu, pls, hQl, i2, tk, tk2, es1, es2, esl, cw, wd, wn, wa, ldl, Nat.mod_one, v1, wrap_small]
      rw [hI]
      exact ⟨h, h200', by simp [g0], by simp [g15], by simp [g16], by simp, by simp [esl], by simp, by simp, by simp⟩
  · obtain rfl : i = ss.length := by omega
    have hnb : encBad ss = false := by
      unfold encBad
      simp only [Bool.or_eq_false_iff, decide_eq_false_iff_not, List.any_eq_false, decide_eq_true_eq]
      refine ⟨hbig, fun s hs => ?_⟩
      obtain ⟨j, hj, rfl⟩ := nth_of_mem hs
      have := h200 j hj; omega
    have hfin : E ss.length = encP ss := by rw [hE]; rfl
    simp -implicitDefEqProofs (disch := omega) [g0, g15, g16, g17, g4, ht, ho, hlo, vn, hnb, hfin])

end Go.Proofs.Ytjjldepikokogaa.B
