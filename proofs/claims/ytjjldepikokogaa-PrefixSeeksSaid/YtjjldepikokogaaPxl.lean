import Derived.Test.YtjjldepikokogaaPxk
set_option linter.unusedSimpArgs false
set_option linter.unusedVariables false
set_option linter.unusedSectionVars false
set_option maxRecDepth 20000
set_option maxHeartbeats 1000000
namespace Go.Proofs.Ytjjldepikokogaa.B
open Go Go.Ab
theorem con2_eq {α β : Type} {d1 : V → Option α} {d2 : V → Option β} {F : α → β → List AO → Option Rs} {v w : V} {a : α} {b : β} {objs : List AO} (h1 : d1 v = some a) (h2 : d2 w = some b) : con2 d1 d2 F [v, w] objs = F a b objs := by rw [con2_app, h1, h2]; rfl
theorem ilit1 (a : Int) : listV Try.prog 46 1 [(0, .int .i64 a)] = some ([.int .i64 a], 1) := by simp [listV, fillV, zeros, setCells]
theorem ilit0 : listV Try.prog 46 0 [] = some ([], 1) := by simp [listV, fillV, zeros]
def codesL (ts ss : List (List Int)) (n : Nat) : List Int := (List.range n).map fun i => (aheadN ts (nth ss i) : Int)
theorem codesL_snoc (ts ss : List (List Int)) (n : Nat) : ints .i64 (codesL ts ss n) ++ [.int .i64 (aheadN ts (nth ss n))] = ints .i64 (codesL ts ss (n + 1)) := by simp [codesL, List.range_succ, ints]
def idxX (ss : List (List Int)) : List (List Int) := idx ss ss.length
noncomputable def k_Index10 : Ab.Spec := con1 (ofList (ofInts .u8)) fun ss _ => bnd ss.length 140737488355328 (if shortT ss = true then some (if encBad ss = true then .tup [.nils, .nils, .int .i64 4] else .tup [.lst .frozen (txV (idxX ss)) (idxX ss).length, .lst (.fresh 1 false) (ints .i64 (codesL (idxX ss) ss ss.length)) ss.length, .int .i64 0], none) else none)
noncomputable def T_Index10 : CallF := withF T_with 23 k_Index10
theorem T_Index10_ok : CallOk Try.prog T_Index10 := con_of (A := annOf [31] [] [] false []) fit T_with_ok (fn := Try.f23) (by kernel_rfl) (by kernel_rfl) (by
  intro args objs r h0
  have c_with : ∀ a o, T_with 38 a o = k_with a o := fun _ _ => rfl
  have c_place : ∀ a o, T_with 39 a o = k_place a o := fun _ _ => rfl
  obtain ⟨v, ss, rfl, ha, hR⟩ := con1_inv h0
  obtain ⟨hl, hR⟩ := bnd_inv hR
  split at hR
  case isFalse => cases hR
  rename_i hall
  cases hR
  have hall' := shortT_iff.1 hall
  obtain ⟨vd, vn, cs, vi, vc⟩ := tx ha
  refine .go _ rfl rfl ?_
  by_cases hbig : 4096 < ss.length
  · have hb : encBad ss = true := by simp [encBad, hbig]
    have hb' : (4096 : Int) < ss.length := by omega
    simp -implicitDefEqProofs (disch := omega) [vn, hb, hb', hbig]
  have e0 := llit0
  have hshort : ∀ i, i ≤ ss.length → shortT (idx ss i) = true := fun i hi => shortT_iff.2 fun t ht => hall' t ((idx_facts ss i hi).2.2 t ht)
  simp -implicitDefEqProofs (disch := omega) [vn, hbig, e0]
  obtain ⟨I, hI⟩ : ∃ I : Nat → St → Prop, I = (fun (i : Nat) (s : St) => (∀ j, j < i → (nth ss j).length ≤ 200) ∧ s.env 0 = v ∧ (∃ K, (K = LK.lit ∨ K = LK.frozen) ∧ s.env 5 = .lst K (txV (idx ss i)) (idx ss i).length) ∧ s.env 6 = .int .i64 i ∧ s.toks = [] ∧ s.objs = objs ∧ s.low = objs.length) := ⟨_, rfl⟩
  refine .up ss.length I (by rw [hI]; exact ⟨by omega, by simp, ⟨.lit, .inl rfl, by simp [txV, idx]⟩, by simp, by simp, by simp, by simp⟩) ?_
  intro i s hi hs
  rw [hI] at hs
  obtain ⟨h200, g0, ⟨K, hK, g5⟩, g6, ht, ho, hlo⟩ := hs
  rcases Nat.lt_or_ge i ss.length with h | h
  · obtain ⟨c, c1, c1', c2⟩ := vc i h
    obtain ⟨cd, cn, -⟩ := bs c2
    have e1 := vi .i64 i (by omega) (by omega)
    rw [Int.toNat_natCast] at e1
    by_cases hlong : 200 < (nth ss i).length
    · have hb := bad_at h hlong
      simp -implicitDefEqProofs (disch := omega) [g0, g5, g6, ht, ho, hlo, vn, e1, c1, c1', cd, cn, h, hb, hlong]
    · have h200' : ∀ j, j < i + 1 → (nth ss j).length ≤ 200 := fun j hj => by
        rcases Nat.lt_or_ge j i with q | q
        · exact h200 j q
        · obtain rfl : j = i := by omega
          omega
      obtain ⟨i1, i2, i3⟩ := idx_facts ss i hi
      have e2 := txV_of (ss := idx ss i) rfl
      have hs2 := hshort i hi
      have hL := hall' _ (nth_mem h)
      have kw : ∀ O, k_with [.lst .frozen (txV (idx ss i)) (idx ss i).length, c] O = some (if aheadN (idx ss i) (nth ss i) < (idx ss i).length ∧ nth (idx ss i) (aheadN (idx ss i) (nth ss i)) = nth ss i then .lst .frozen (txV (idx ss i)) (idx ss i).length else .lst (.fresh 1 false) (txV (ins (idx ss i) (nth ss i))) (ins (idx ss i) (nth ss i)).length, none) := fun O => by
        unfold k_with
        rw [con2_eq rfl c2, e2]
        simp only
        rw [bnd_pos (by omega), pre_pos ⟨trivial, i1, hs2, hL⟩]
      have fin : ∀ s' : St, s'.env 0 = v → s'.env 5 = .lst .frozen (txV (idx ss (i + 1))) (idx ss (i + 1)).length → s'.env 6 = .int .i64 ((i : Int) + 1) → s'.toks = [] → s'.objs = objs → s'.low = objs.length → I (i + 1) s' := fun s' z1 z2 z3 z4 z5 z6 => by
        rw [hI]; exact ⟨h200', z1, ⟨.frozen, .inr rfl, z2⟩, z3, z4, z5, z6⟩
      have hx : idx ss (i + 1) = ins (idx ss i) (nth ss i) := rfl
      have hm := txV_len (idx ss i)
      by_cases hf : aheadN (idx ss i) (nth ss i) < (idx ss i).length ∧ nth (idx ss i) (aheadN (idx ss i) (nth ss i)) = nth ss i
      · rw [if_pos hf] at kw
        have hx2 : idx ss (i + 1) = idx ss i := by rw [hx]; unfold ins; rw [if_pos hf]
        simp -implicitDefEqProofs (disch := omega) [g0, g5, g6, ht, ho, hlo, vn, e1, c1, c1', cd, cn, h, hlong, c_with, kw, wrap_small]
        exact fin _ (by simp [g0]) (by simp [hx2]) (by simp) (by simp) (by simp) (by simp)
      · rw [if_neg hf] at kw
        simp -implicitDefEqProofs (disch := omega) [g0, g5, g6, ht, ho, hlo, vn, e1, c1, c1', cd, cn, h, hlong, c_with, kw, wrap_small]
        exact fin _ (by simp [g0]) (by simp [hx]) (by simp) (by simp) (by simp) (by simp)
  obtain rfl : i = ss.length := by omega
  have hnb : encBad ss = false := by
    unfold encBad
    simp only [Bool.or_eq_false_iff, decide_eq_false_iff_not, List.any_eq_false, decide_eq_true_eq]
    refine ⟨hbig, fun s hs => ?_⟩
    obtain ⟨j, hj, rfl⟩ := nth_of_mem hs
    have := h200 j hj; omega
  obtain ⟨E, hE⟩ : ∃ E, E = idxX ss := ⟨_, rfl⟩
  have hE' : idx ss ss.length = E := hE.symm
  obtain ⟨i1, i2, i3⟩ := idx_facts ss ss.length (Nat.le_refl _)
  have hs2 := hshort ss.length (Nat.le_refl _)
  rw [hE'] at i1 i2 i3 hs2 g5
  have z0 := ilit0
  have e2 := txV_of (ss := E) rfl
  simp -implicitDefEqProofs (disch := omega) [g0, g5, g6, ht, ho, hlo, vn, z0, ← hE, hnb]
  obtain ⟨J, hJ⟩ : ∃ J : Nat → St → Prop, J = (fun (j : Nat) (s : St) => s.env 0 = v ∧ s.env 5 = .lst K (txV E) E.length ∧ s.env 7 = .lst (.tok 0 1) (ints .i64 (codesL E ss j)) j ∧ s.env 8 = .int .i64 j ∧ s.toks = [j] ∧ s.objs = objs ∧ s.low = objs.length) := ⟨_, rfl⟩
  refine .up ss.length J (by rw [hJ]; exact ⟨by simp [g0], by simp [g5], by simp [codesL, ints], by simp, by simp, by simp, by simp⟩) ?_
  intro j s hj hs
  rw [hJ] at hs
  obtain ⟨g0, g5, g7, g8, ht, ho, hlo⟩ := hs
  rcases Nat.lt_or_ge j ss.length with h | h
  · obtain ⟨c, c1, c1', c2⟩ := vc j h
    obtain ⟨cd, cn, -⟩ := bs c2
    have e1 := vi .i64 j (by omega) (by omega)
    rw [Int.toNat_natCast] at e1
    have kp : ∀ O, k_place [.lst .frozen (txV E) E.length, c] O = some (.int .i64 (aheadN E (nth ss j)), none) := fun O => by
      unfold k_place
      rw [con2_eq e2 c2, bnd_pos (by omega), pre_pos ⟨i1, hs2⟩]
    have l1 := ilit1 (aheadN E (nth ss j))
    have es := codesL_snoc E ss j
    have hm : (ints .i64 (codesL E ss j)).length = j := by simp [codesL]
    have hm2 := txV_len E
    simp -implicitDefEqProofs (disch := omega) [g0, g5, g7, g8, ht, ho, hlo, vn, e1, c1, c1', cd, cn, h, c_place, kp, l1, es, hm, Nat.mod_one, wrap_small]
    rw [hJ]
    exact ⟨by simp [g0], by simp [g5], by simp, by simp, by simp, by simp, by simp⟩
  obtain rfl : j = ss.length := by omega
  have hr := txV_refs E objs.length
  have hm : (ints .i64 (codesL E ss ss.length)).length = ss.length := by simp [codesL]
  rcases hK with rfl | rfl
  · simp -implicitDefEqProofs (disch := omega) [g0, g5, g7, g8, ht, ho, hlo, vn, hr, hm]
  · simp -implicitDefEqProofs (disch := omega) [g0, g5, g7, g8, ht, ho, hlo, vn, hr, hm])

end Go.Proofs.Ytjjldepikokogaa.B
