import Derived.Test.YtjjldepikokogaaPxj
set_option linter.unusedSimpArgs false
set_option linter.unusedVariables false
set_option linter.unusedSectionVars false
set_option maxRecDepth 20000
set_option maxHeartbeats 1000000
namespace Go.Proofs.Ytjjldepikokogaa.B
open Go Go.Ab
/-! the index of stoaref10 -/
theorem txx (ts : List (List Int)) : demote (.lst .frozen (txV ts) ts.length) = .lst .frozen (txV ts) ts.length ∧ lenV Try.prog 22 (.lst .frozen (txV ts) ts.length) = some (.int .i64 ts.length) ∧ (∀ k i, 0 ≤ i → i < (ts.length : Int) → indexV Try.prog 22 (.lst .frozen (txV ts) ts.length) (.int k i) = some (.fptr (txV ts) i.toNat)) ∧ ∀ i, i < ts.length → (txV ts)[i]? = some (.lst .frozen (ints .u8 (nth ts i)) (nth ts i).length) ∧ ∀ hh : i < (txV ts).length, (txV ts)[i]'hh = .lst .frozen (ints .u8 (nth ts i)) (nth ts i).length := by
  have hv : Sl (.lst .frozen (txV ts) ts.length) (txV ts) ts.length := .inl rfl
  refine ⟨rfl, hv.size u22, fun k i h0 h1 => ?_, fun i hi => ?_⟩
  · have := hv.idx u22 z25 k i h0 h1
    rwa [Nat.mul_one] at this
  · have h : (txV ts)[i]? = some (.lst .frozen (ints .u8 (nth ts i)) (nth ts i).length) := by
      rw [txV, List.getElem?_map, List.getElem?_eq_getElem hi, nth_lt hi]; rfl
    exact ⟨h, fun hh => by rw [List.getElem?_eq_getElem hh] at h; exact Option.some.inj h⟩
noncomputable def k_place : Ab.Spec := con2 (ofList (ofInts .u8)) (ofInts .u8) fun ts s _ => bnd ts.length 1000000 (pre (Srt ts ∧ shortT ts = true) (some (.int .i64 (aheadN ts s), none)))
noncomputable def T_place : CallF := withF T_PrefixBack 39 k_place
theorem T_place_ok : CallOk Try.prog T_place := con_of (A := annOf [] [] [] false []) fit T_PrefixBack_ok (fn := Try.f39) (by kernel_rfl) (by kernel_rfl) (by
  intro args objs r h0
  have c_Order : ∀ a o, T_PrefixBack 24 a o = k_Order a o := fun _ _ => rfl
  obtain ⟨v, w, ts, s, rfl, ha, hb, hR⟩ := con2_inv h0
  obtain ⟨hl, hR⟩ := bnd_inv hR
  obtain ⟨⟨hS, hall⟩, hR⟩ := pre_inv hR
  cases hR
  have hall := shortT_iff.1 hall
  obtain ⟨vd, vn, cs, vi, vc⟩ := tx ha
  obtain ⟨wd, wn, -⟩ := bs hb
  refine .go _ rfl rfl ?_
  simp -implicitDefEqProofs [vn]
  obtain ⟨I, hI⟩ : ∃ I : Nat → St → Prop, I = (fun (n : Nat) (s' : St) => ∃ lo hi : Nat, n = hi - lo ∧ lo ≤ hi ∧ hi ≤ ts.length ∧ s'.env 0 = v ∧ s'.env 1 = w ∧ s'.env 5 = .int .i64 lo ∧ s'.env 6 = .int .i64 hi ∧ s'.toks = [] ∧ s'.objs = objs ∧ s'.low = objs.length ∧ (∀ j, j < lo → cmpZ (nth ts j) s < 0) ∧ ∀ j, hi ≤ j → j < ts.length → ¬ cmpZ (nth ts j) s < 0) := ⟨_, rfl⟩
  refine .dn ts.length I (by rw [hI]; exact ⟨0, ts.length, rfl, by omega, by omega, by simp, by simp, by simp, by simp, by simp, by simp, by simp, by omega, by omega⟩) ?_
  intro n s' hs
  rw [hI] at hs
  obtain ⟨lo, hi, hn, h1, h2, g0, g1, g5, g6, ht, ho, hlo, hL, hH⟩ := hs
  rcases Nat.lt_or_ge lo hi with h | h
  · obtain ⟨mid, hm⟩ : ∃ mid, mid = (lo + hi) / 2 := ⟨_, rfl⟩
    have q1 : ((lo : Int) + hi).tdiv 2 = (mid : Int) := by rw [Int.tdiv_eq_ediv_of_nonneg (by omega)]; omega
    have q2 : ((lo : Int) + hi) / 2 = (mid : Int) := by omega
    have hmid : mid < ts.length := by omega
    have hml : lo ≤ mid ∧ mid < hi := by omega
    obtain ⟨c, c1, c1', c2⟩ := vc mid hmid
    obtain ⟨cd, -⟩ := bs c2
    have e1 := vi .i64 mid (by omega) (by omega)
    rw [Int.toNat_natCast] at e1
    have r1 : ∀ O, ofIntsR .u8 O c = some (nth ts mid) := fun O => ofIntsR_of c2
    have r2 : ∀ O, ofIntsR .u8 O w = some s := fun O => ofIntsR_of hb
    have hL2 := hall _ (nth_mem hmid)
    by_cases hc : cmpZ (nth ts mid) s < 0
    · simp -implicitDefEqProofs (disch := omega) [g0, g1, g5, g6, ht, ho, hlo, h, q1, q2, e1, c1, c1', cd, wd, c_Order, k_Order, r1, r2, hL2, hc, wrap_small]
      refine ⟨hi - (mid + 1), by omega, ?_⟩
      rw [hI]
      refine ⟨mid + 1, hi, rfl, by omega, h2, by simp [g0], by simp [g1], by simp, by simp [g6], by simp, by simp, by simp, fun j hj => ?_, hH⟩
      rcases Nat.eq_or_lt_of_le (Nat.le_of_lt_succ hj) with e | e
      · rw [e]; exact hc
      · exact cmpZ_trans (hS.nth e hmid) hc
    · simp -implicitDefEqProofs (disch := omega) [g0, g1, g5, g6, ht, ho, hlo, h, q1, q2, e1, c1, c1', cd, wd, c_Order, k_Order, r1, r2, hL2, hc, wrap_small]
      refine ⟨mid - lo, by omega, ?_⟩
      rw [hI]
      refine ⟨lo, mid, rfl, by omega, by omega, by simp [g0], by simp [g1], by simp [g5], by simp, by simp, by simp, by simp, hL, fun j hj hj2 hq => ?_⟩
      rcases Nat.eq_or_lt_of_le hj with e | e
      · rw [← e] at hq; exact hc hq
      · exact hc (cmpZ_trans (hS.nth e hj2) hq)
  · obtain rfl : lo = hi := by omega
    have hst := ahead_stop (s := s) (ts := ts) (i := lo) h2 hL (by
      rcases Nat.eq_or_lt_of_le h2 with e | e
      · exact .inl e
      · exact .inr (hH lo (by omega) e))
    simp -implicitDefEqProofs (disch := omega) [g0, g1, g5, g6, ht, ho, hlo, hst])
theorem txc (s : List Int) : isDef (.lst .frozen (ints .u8 s) s.length) = true ∧ cellsOf (.lst .frozen (ints .u8 s) s.length) = [.lst .frozen (ints .u8 s) s.length] := ⟨rfl, rfl⟩
noncomputable def k_with : Ab.Spec := con2 some (ofInts .u8) fun v s _ => match ofList (ofInts .u8) v with
  | some ts => bnd ts.length 1000000 (pre (v = .lst .frozen (txV ts) ts.length ∧ Srt ts ∧ shortT ts = true ∧ s.length < 140737488355000) (some (if aheadN ts s < ts.length ∧ nth ts (aheadN ts s) = s then .lst .frozen (txV ts) ts.length else .lst (.fresh 1 false) (txV (ins ts s)) (ins ts s).length, none)))
  | none => none
noncomputable def T_with : CallF := withF T_place 38 k_with
theorem T_with_ok : CallOk Try.prog T_with := con_of (A := annOf [25] [] [] false []) fit T_place_ok (fn := Try.f38) (by kernel_rfl) (by kernel_rfl) (by
  intro args objs r h0
  have c_place : ∀ a o, T_place 39 a o = k_place a o := fun _ _ => rfl
  have c_SameR : ∀ a o, T_place 22 a o = k_SameR a o := fun _ _ => rfl
  have c_Copy : ∀ a o, T_place 21 a o = k_Copy a o := fun _ _ => rfl
  obtain ⟨_, w, v, s, rfl, hv, hb, hR⟩ := con2_inv h0
  cases hv
  split at hR
  case h_2 => cases hR
  rename_i ts ha
  obtain ⟨hl, hR⟩ := bnd_inv hR
  obtain ⟨⟨rfl, hS, hall, hsl⟩, hR'⟩ := pre_inv hR
  cases hR'
  obtain ⟨vd, vn, vi, vc⟩ := txx ts
  obtain ⟨wd, wn, -⟩ := bs hb
  have hk := ahead_le ts s
  have e1 := ofInts_lst (k := .u8) (n := s.length) (l := s) rfl
  have r2 : ∀ O, ofIntsR .u8 O w = some s := fun O => ofIntsR_of hb
  have kp : ∀ O, k_place [.lst .frozen (txV ts) ts.length, w] O = some (.int .i64 (aheadN ts s), none) := fun O => by
    simp (disch := omega) [k_place, ha, hb, pre_true, hS, hall]
  obtain ⟨k, hkk⟩ : ∃ k, k = aheadN ts s := ⟨_, rfl⟩
  rw [← hkk] at kp hk ⊢
  obtain ⟨v, hv⟩ : ∃ v, v = V.lst .frozen (txV ts) ts.length := ⟨_, rfl⟩
  rw [← hv] at vd vn vi kp ⊢
  refine .go _ rfl rfl ?_
  by_cases hf : k < ts.length ∧ nth ts k = s
  · obtain ⟨f1, f2⟩ := hf
    obtain ⟨c1, c1'⟩ := vc k f1
    have i1 := vi .i64 k (by omega) (by omega)
    rw [Int.toNat_natCast] at i1
    rw [f2] at c1 c1'
    have r1 : ∀ O, ofIntsR .u8 O (.lst .frozen (ints .u8 s) s.length) = some s := fun O => ofIntsR_of e1
    simp -implicitDefEqProofs (disch := omega) [vd, vn, wd, c_place, kp, i1, c1, c1', c_SameR, k_SameR, r1, r2, f1, f2]
    have hr := txV_refs ts objs.length
    rw [hv]
    simp [hr]
  rw [if_neg hf]
  have hins : ins ts s = ts.take k ++ s :: ts.drop k := by unfold ins; rw [← hkk, if_neg hf]
  have e0 := llit0
  have ls := llit1 (txc s).1 (txc s).2
  refine .seq (.stop (M := fun e s' => e = .norm ∧ s'.env 0 = v ∧ s'.env 1 = w ∧ s'.toks = [] ∧ s'.objs = objs ∧ s'.low = objs.length) (by simp [At]) ?_)
  rintro e s' ⟨rfl, g0, g1, ht, ho, hlo⟩
  show To _ _ _ _ _ _ _ _
  refine .seq (.stop (M := fun e s' => e = .norm ∧ s'.env 0 = v ∧ s'.env 1 = w ∧ s'.env 5 = .int .i64 k ∧ s'.toks = [] ∧ s'.objs = objs ∧ s'.low = objs.length) (by simp -implicitDefEqProofs [g0, g1, ht, ho, hlo, vd, wd, c_place, kp, At]) ?_)
  rintro e s' ⟨rfl, g0, g1, g5, ht, ho, hlo⟩
  show To _ _ _ _ _ _ _ _
  refine .seq (.stop (M := fun e s' => e = .norm ∧ s'.env 0 = v ∧ s'.env 1 = w ∧ s'.env 5 = .int .i64 k ∧ s'.toks = [] ∧ s'.objs = objs ∧ s'.low = objs.length) ?_ ?_)
  · by_cases f1 : k < ts.length
    · obtain ⟨c1, c1'⟩ := vc k f1
      have i1 := vi .i64 k (by omega) (by omega)
      rw [Int.toNat_natCast] at i1
      have f2 : ¬ nth ts k = s := fun q => hf ⟨f1, q⟩
      have hL := shortT_iff.1 hall _ (nth_mem f1)
      have r1 : ∀ O, ofIntsR .u8 O (.lst .frozen (ints .u8 (nth ts k)) (nth ts k).length) = some (nth ts k) := fun O => ofIntsR_of (ofInts_lst rfl)
      simp -implicitDefEqProofs (disch := omega) [g0, g1, g5, ht, ho, hlo, vd, vn, wd, i1, c1, c1', c_SameR, k_SameR, r1, r2, f1, f2]
      exact ⟨rfl, by simp [g0], by simp [g1], by simp [g5], rfl, rfl, rfl⟩
    · simp -implicitDefEqProofs (disch := omega) [g0, g1, g5, ht, ho, hlo, vd, vn, wd, f1]
      exact ⟨rfl, by simp [g0], by simp [g1], by simp [g5], rfl, rfl, rfl⟩
  rintro e s' ⟨rfl, g0, g1, g5, ht, ho, hlo⟩
  simp -implicitDefEqProofs (disch := omega) [g0, g1, g5, ht, ho, hlo, e0]
  obtain ⟨I, hI⟩ : ∃ I : Nat → St → Prop, I = (fun (i : Nat) (s' : St) => s'.env 0 = v ∧ s'.env 1 = w ∧ s'.env 5 = .int .i64 k ∧ s'.env 6 = .lst (.tok 0 1) (txV (ts.take i)) i ∧ s'.env 7 = .int .i64 i ∧ s'.toks = [i] ∧ s'.objs = objs ∧ s'.low = objs.length) := ⟨_, rfl⟩
  refine .up k I (by rw [hI]; exact ⟨by simp [g0], by simp [g1], by simp [g5], by simp [txV, ht], by simp, by simp [ht], by simp [ho], by simp [hlo]⟩) ?_
  intro i s' hi hs
  rw [hI] at hs
  obtain ⟨g0, g1, g5, g6, g7, ht, ho, hlo⟩ := hs
  rcases Nat.lt_or_ge i k with h | h
  · have hi2 : i < ts.length := by omega
    obtain ⟨c1, c1'⟩ := vc i hi2
    have i1 := vi .i64 i (by omega) (by omega)
    rw [Int.toNat_natCast] at i1
    have l1 := llit1 (txc (nth ts i)).1 (txc (nth ts i)).2
    have es := txV_snoc (ts.take i) (nth ts i)
    rw [← take_nth hi2] at es
    have hm : (txV (ts.take i)).length = i := by rw [txV_len, List.length_take]; omega
    simp -implicitDefEqProofs (disch := omega) [g0, g1, g5, g6, g7, ht, ho, hlo, i1, c1, c1', h, l1, es, hm, Nat.mod_one, wrap_small]
    rw [hI]
    exact ⟨by simp [g0], by simp [g1], by simp [g5], by simp, by simp, by simp, by simp, by simp⟩
  obtain rfl : i = k := by omega
  have es := txV_snoc (ts.take i) s
  have hm : (txV (ts.take i)).length = i := by rw [txV_len, List.length_take]; omega
  simp -implicitDefEqProofs (disch := omega) [g0, g1, g5, g6, g7, ht, ho, hlo, wd, hb, c_Copy, k_Copy, ls, es, hm, Nat.mod_one]
  obtain ⟨X, hX⟩ : ∃ X : Nat → List (List Int), X = fun j => (ts.take i ++ [s]) ++ (ts.drop i).take j := ⟨_, rfl⟩
  have hXl : ∀ j, j ≤ ts.length - i → (X j).length = i + 1 + j := fun j hj => by rw [hX]; simp; omega
  have hXn : X (ts.length - i) = ins ts s := by rw [hX, hins]; simp only; rw [show (ts.drop i).take (ts.length - i) = ts.drop i from List.take_of_length_le (by rw [List.length_drop]; omega)]; simp
  obtain ⟨J, hJ⟩ : ∃ J : Nat → St → Prop, J = (fun (j : Nat) (s' : St) => s'.env 0 = v ∧ s'.env 6 = .lst (.tok 0 1) (txV (X j)) (i + 1 + j) ∧ s'.env 8 = .int .i64 ((i + j : Nat) : Int) ∧ s'.toks = [i + 1 + j] ∧ s'.objs = objs ∧ s'.low = objs.length) := ⟨_, rfl⟩
  refine .up (ts.length - i) J (by rw [hJ]; exact ⟨by simp [g0], by simp [hX], by simp, by simp, by simp, by simp⟩) ?_
  intro j s' hj hs
  rw [hJ] at hs
  obtain ⟨g0, g6, g8, ht, ho, hlo⟩ := hs
  rw [Int.natCast_add] at g8
  rcases Nat.lt_or_ge j (ts.length - i) with h2 | h2
  · have hi2 : i + j < ts.length := by omega
    obtain ⟨c1, c1'⟩ := vc (i + j) hi2
    have i1 := vi .i64 ((i : Int) + j) (by omega) (by omega)
    rw [show ((i : Int) + j).toNat = i + j by omega] at i1
    have l1 := llit1 (txc (nth ts (i + j))).1 (txc (nth ts (i + j))).2
    have es := txV_snoc (X j) (nth ts (i + j))
    have hxs : X j ++ [nth ts (i + j)] = X (j + 1) := by
      rw [hX]; simp only
      rw [take_nth (l := ts.drop i) (i := j) (by simp; omega), nth_drop]; simp
    rw [hxs] at es
    have hm : (txV (X j)).length = i + 1 + j := by rw [txV_len]; exact hXl j hj
    have h2' : (i : Int) + j < ts.length := by omega
    simp -implicitDefEqProofs (disch := omega) [g0, g6, g8, ht, ho, hlo, vn, h2', i1, c1, c1', hi2, l1, es, hm, Nat.mod_one, wrap_small]
    rw [hJ]
    exact ⟨by omega, by simp [g0], by simp [Nat.add_assoc], by simp; omega, by simp [Nat.add_assoc], by simp, by simp⟩
  obtain rfl : j = ts.length - i := by omega
  have hr := txV_refs (ins ts s) objs.length
  have h2' : ¬ (i : Int) + ((ts.length - i : Nat) : Int) < ts.length := by omega
  have hlen := hXl _ (Nat.le_refl _)
  rw [hXn] at hlen g6
  rw [← hlen] at g6 ht
  simp -implicitDefEqProofs (disch := omega) [g0, g6, g8, ht, ho, hlo, vn, h2', hr, txV_len])

end Go.Proofs.Ytjjldepikokogaa.B
