import Derived.Test.YtdfcbophcfjakaaSkB
set_option linter.unusedSimpArgs false
set_option linter.unusedVariables false
set_option linter.unusedSectionVars false
set_option maxRecDepth 20000
set_option maxHeartbeats 1000000
namespace Go.Proofs.Ytdfcbophcfjakaa.B
open Go Go.Ab
/-! lists of texts -/
def txV (ss : List (List Int)) : List V := ss.map fun s => .lst .frozen (ints .u8 s) s.length
theorem txV_len (ss : List (List Int)) : (txV ss).length = ss.length := by simp [txV]
theorem txV_of {ss : List (List Int)} {n : Nat} (h : n = ss.length) : ofList (ofInts .u8) (.lst .frozen (txV ss) n) = some ss := by
  subst h
  refine ofList_lst ?_ (by simp [txV])
  have := ofCells_map (d := ofInts .u8) (f := fun s : List Int => V.lst .frozen (ints .u8 s) s.length) (g := id) (fun b => ofInts_lst rfl) ss
  rw [List.map_id] at this
  exact this
theorem txV_refs (ss : List (List Int)) (b : Nat) : norefs b (txV ss) = true := norefs_iff.2 fun v hv => by
  obtain ⟨s, -, rfl⟩ := List.mem_map.1 hv
  simp
theorem txV_snoc (ss : List (List Int)) (s : List Int) : txV ss ++ [.lst .frozen (ints .u8 s) s.length] = txV (ss ++ [s]) := by simp [txV]
theorem llit1 {v : V} (h : isDef v = true) (hc : cellsOf v = [v]) : listV Try.prog 27 1 [(0, v)] = some ([v], 1) := by simp [listV, fillV, zeros, setCells, h, hc]
theorem llit0 : listV Try.prog 27 0 [] = some ([], 1) := by simp [listV, fillV, zeros]
noncomputable def k_Same10 : Ab.Spec := con2 (ofList (ofInts .u8)) (ofList (ofInts .u8)) fun a b _ => bnd a.length 140737488355328 (if shortT a = true then some (.bool (decide (a = b)), none) else none)
noncomputable def T_Same10 : CallF := withF T_Seek 14 k_Same10
theorem T_Same10_ok : CallOk Try.prog T_Same10 := con_of (A := annOf [] [] [] false []) fit T_Seek_ok (fn := Try.f14) (by kernel_rfl) (by kernel_rfl) (by
  intro args objs r h0
  have c_SameR : ∀ a o, T_Seek 19 a o = k_SameR a o := fun _ _ => rfl
  obtain ⟨v, w, a, b, rfl, ha, hb, hR⟩ := con2_inv h0
  obtain ⟨hl, hR⟩ := bnd_inv hR
  split at hR
  case isFalse => cases hR
  rename_i hall
  cases hR
  have hall := shortT_iff.1 hall
  obtain ⟨vd, vn, cs, vi, vc⟩ := tx ha
  obtain ⟨wd, wn, ds, wi, wc⟩ := tx hb
  refine .go _ rfl rfl ?_
  by_cases hn : a.length = b.length
  · simp [vn, wn, hn]
    refine .up a.length (fun i s => s.env 0 = v ∧ s.env 1 = w ∧ s.env 5 = .int .i64 i ∧ s.toks = [] ∧ s.objs = objs ∧ s.low = objs.length ∧ ∀ j, j < i → nth a j = nth b j) (by simp) ?_
    rintro i s hi ⟨h0, h1, h5, ht, ho, hlo, hj⟩
    rcases Nat.lt_or_ge i a.length with h | h
    · obtain ⟨c, c1, c1', c2⟩ := vc i h
      obtain ⟨d, d1, d1', d2⟩ := wc i (by omega)
      obtain ⟨cd, -⟩ := bs c2
      obtain ⟨dd, -⟩ := bs d2
      have e1 := vi .i64 i (by omega) (by omega)
      have e2 := wi .i64 i (by omega) (by omega)
      rw [Int.toNat_natCast] at e1 e2
      have hL := hall _ (nth_mem h)
      have q1 : ofIntsR .u8 objs c = some (nth a i) := ofIntsR_of c2
      have q2 : ofIntsR .u8 objs d = some (nth b i) := ofIntsR_of d2
      by_cases he : nth a i = nth b i
      · have hs : ∀ j, j < i + 1 → nth a j = nth b j := fun j hj2 => by
          rcases Nat.lt_or_ge j i with h2 | h2
          · exact hj j h2
          · obtain rfl : j = i := by omega
            exact he
        rw [he] at q1 hL
        simp -implicitDefEqProofs (disch := omega) [h0, h1, h5, ht, ho, hlo, vn, wn, e1, e2, c1, c1', d1, d1', cd, dd, h, c_SameR, k_SameR, q1, q2, hL, wrap_small]
        exact hs
      · have hne : a ≠ b := fun q => he (by rw [q])
        simp -implicitDefEqProofs (disch := omega) [h0, h1, h5, ht, ho, hlo, vn, wn, e1, e2, c1, c1', d1, d1', cd, dd, h, c_SameR, k_SameR, q1, q2, hL, he, hne]
    · have hab : a = b := ext_nth hn fun j h2 => hj j (by omega)
      have hnl : ¬ i < b.length := by omega
      simp [h0, h1, h5, ht, ho, hlo, vn, wn, hab, hnl]
  · have hf : ((a.length : Int) != (b.length : Int)) = true := by simp only [bne_iff_ne, ne_eq]; omega
    have hne : a ≠ b := fun q => hn (by rw [q])
    simp [vn, wn, hf, hne])

def encBad (ss : List (List Int)) : Bool := decide (4096 < ss.length) || ss.any fun s => decide (200 < s.length)
theorem not_bad {ss : List (List Int)} (h : encBad ss = false) : ss.length ≤ 4096 ∧ ∀ i, i < ss.length → (nth ss i).length ≤ 200 := by
  unfold encBad at h
  simp only [Bool.or_eq_false_iff, decide_eq_false_iff_not, List.any_eq_false, decide_eq_true_eq] at h
  exact ⟨by omega, fun i hi => by have := h.2 _ (nth_mem hi); omega⟩
theorem bad_at {ss : List (List Int)} {i : Nat} (hi : i < ss.length) (h : 200 < (nth ss i).length) : encBad ss = true := by
  unfold encBad
  simp only [Bool.or_eq_true, decide_eq_true_eq, List.any_eq_true]
  exact .inr ⟨_, nth_mem hi, h⟩

/-! the index of stoaref10 -/
theorem txx (ts : List (List Int)) : demote (.lst .frozen (txV ts) ts.length) = .lst .frozen (txV ts) ts.length ∧ lenV Try.prog 27 (.lst .frozen (txV ts) ts.length) = some (.int .i64 ts.length) ∧ (∀ k i, 0 ≤ i → i < (ts.length : Int) → indexV Try.prog 27 (.lst .frozen (txV ts) ts.length) (.int k i) = some (.fptr (txV ts) i.toNat)) ∧ ∀ i, i < ts.length → (txV ts)[i]? = some (.lst .frozen (ints .u8 (nth ts i)) (nth ts i).length) ∧ ∀ hh : i < (txV ts).length, (txV ts)[i]'hh = .lst .frozen (ints .u8 (nth ts i)) (nth ts i).length := by
  have hv : Sl (.lst .frozen (txV ts) ts.length) (txV ts) ts.length := .inl rfl
  refine ⟨rfl, hv.size u27, fun k i h0 h1 => ?_, fun i hi => ?_⟩
  · have := hv.idx u27 z30 k i h0 h1
    rwa [Nat.mul_one] at this
  · have h : (txV ts)[i]? = some (.lst .frozen (ints .u8 (nth ts i)) (nth ts i).length) := by
      rw [txV, List.getElem?_map, List.getElem?_eq_getElem hi, nth_lt hi]; rfl
    exact ⟨h, fun hh => by rw [List.getElem?_eq_getElem hh] at h; exact Option.some.inj h⟩
noncomputable def k_place : Ab.Spec := con2 (ofList (ofInts .u8)) (ofInts .u8) fun ts s _ => bnd ts.length 1000000 (pre (Srt ts ∧ shortT ts = true) (some (.int .i64 (aheadN ts s), none)))
noncomputable def T_place : CallF := withF T_Same10 35 k_place
theorem T_place_ok : CallOk Try.prog T_place := con_of (A := annOf [] [] [] false []) fit T_Same10_ok (fn := Try.f35) (by kernel_rfl) (by kernel_rfl) (by
  intro args objs r h0
  have c_Order : ∀ a o, T_Same10 40 a o = k_Order a o := fun _ _ => rfl
  obtain ⟨v, w, ts, s, rfl, ha, hb, hR⟩ := con2_inv h0
  obtain ⟨hl, hR⟩ := bnd_inv hR
  obtain ⟨⟨hS, hall⟩, hR⟩ := pre_inv hR
  cases hR
  have hall := shortT_iff.1 hall
  obtain ⟨vd, vn, cs, vi, vc⟩ := tx ha
  obtain ⟨wd, wn, -⟩ := bs hb
  refine .go _ rfl rfl ?_
  simp -implicitDefEqProofs [vn]
  obtain ⟨I, hI⟩ : ∃ I : Nat → St → Prop, I = (fun (n : Nat) (s' : St) => ∃ lo hi : Nat, n = hi - lo ∧ lo ≤ hi ∧ hi ≤ ts.length ∧ s'.env 0 = v ∧ s'.env 1 = w ∧ s'.env 5 = .int .i64 lo ∧ s'.env 6 = .int .i64 hi ∧ s'.toks = [] ∧ s'.objs = objs ∧ s'.low = objs.length ∧ (∀ j, j < lo → cmpZ (nth ts j) s < 0) ∧ ∀ j, hi ≤ j → j < ts.length → ¬ cmpZ (nth ts j) s < 0) := ⟨_, rfl⟩
  refine .dn ts.length I (by rw [hI]; exact ⟨0, ts.length, rfl, by omega, by omega, by simp, by simp, by simp, by simp, by simp, by simp, by simp, by omega, by omega⟩) ?_
  intro n s' hs
  rw [hI] at hs
  obtain ⟨lo, hi, hn, h1, h2, g0, g1, g5, g6, ht, ho, hlo, hL, hH⟩ := hs
  rcases Nat.lt_or_ge lo hi with h | h
  · obtain ⟨mid, hm⟩ : ∃ mid, mid = (lo + hi) / 2 := ⟨_, rfl⟩
    have q1 : ((lo : Int) + hi).tdiv 2 = (mid : Int) := by rw [Int.tdiv_eq_ediv_of_nonneg (by omega)]; omega
    have q2 : ((lo : Int) + hi) / 2 = (mid : Int) := by omega
    have hmid : mid < ts.length := by omega
    have hml : lo ≤ mid ∧ mid < hi := by omega
    obtain ⟨c, c1, c1', c2⟩ := vc mid hmid
    obtain ⟨cd, -⟩ := bs c2
    have e1 := vi .i64 mid (by omega) (by omega)
    rw [Int.toNat_natCast] at e1
    have r1 : ∀ O, ofIntsR .u8 O c = some (nth ts mid) := fun O => ofIntsR_of c2
    have r2 : ∀ O, ofIntsR .u8 O w = some s := fun O => ofIntsR_of hb
    have hL2 := hall _ (nth_mem hmid)
    by_cases hc : cmpZ (nth ts mid) s < 0
    · simp -implicitDefEqProofs (disch := omega) [g0, g1, g5, g6, ht, ho, hlo, h, q1, q2, e1, c1, c1', cd, wd, c_Order, k_Order, r1, r2, hL2, hc, wrap_small]
      refine ⟨hi - (mid + 1), by omega, ?_⟩
      rw [hI]
      refine ⟨mid + 1, hi, rfl, by omega, h2, by simp [g0], by simp [g1], by simp, by simp [g6], by simp, by simp, by simp, fun j hj => ?_, hH⟩
      rcases Nat.eq_or_lt_of_le (Nat.le_of_lt_succ hj) with e | e
      · rw [e]; exact hc
      · exact cmpZ_trans (hS.nth e hmid) hc
    · simp -implicitDefEqProofs (disch := omega) [g0, g1, g5, g6, ht, ho, hlo, h, q1, q2, e1, c1, c1', cd, wd, c_Order, k_Order, r1, r2, hL2, hc, wrap_small]
      refine ⟨mid - lo, by omega, ?_⟩
      rw [hI]
      refine ⟨lo, mid, rfl, by omega, by omega, by simp [g0], by simp [g1], by simp [g5], by simp, by simp, by simp, by simp, hL, fun j hj hj2 hq => ?_⟩
      rcases Nat.eq_or_lt_of_le hj with e | e
      · rw [← e] at hq; exact hc hq
      · exact hc (cmpZ_trans (hS.nth e hj2) hq)
  · obtain rfl : lo = hi := by omega
    have hst := ahead_stop (s := s) (ts := ts) (i := lo) h2 hL (by
      rcases Nat.eq_or_lt_of_le h2 with e | e
      · exact .inl e
      · exact .inr (hH lo (by omega) e))
    simp -implicitDefEqProofs (disch := omega) [g0, g1, g5, g6, ht, ho, hlo, hst])
theorem txc (s : List Int) : isDef (.lst .frozen (ints .u8 s) s.length) = true ∧ cellsOf (.lst .frozen (ints .u8 s) s.length) = [.lst .frozen (ints .u8 s) s.length] := ⟨rfl, rfl⟩
noncomputable def k_with : Ab.Spec := con2 some (ofInts .u8) fun v s _ => match ofList (ofInts .u8) v with
  | some ts => bnd ts.length 1000000 (pre (v = .lst .frozen (txV ts) ts.length ∧ Srt ts ∧ shortT ts = true ∧ s.length < 140737488355000) (some (if aheadN ts s < ts.length ∧ nth ts (aheadN ts s) = s then .lst .frozen (txV ts) ts.length else .lst (.fresh 1 false) (txV (ins ts s)) (ins ts s).length, none)))
  | none => none
noncomputable def T_with : CallF := withF T_place 34 k_with
theorem T_with_ok : CallOk Try.prog T_with := con_of (A := annOf [25] [] [] false []) fit T_place_ok (fn := Try.f34) (by kernel_rfl) (by kernel_rfl) (by
  intro args objs r h0
  have c_place : ∀ a o, T_place 35 a o = k_place a o := fun _ _ => rfl
  have c_SameR : ∀ a o, T_place 19 a o = k_SameR a o := fun _ _ => rfl
  have c_Copy : ∀ a o, T_place 21 a o = k_Copy a o := fun _ _ => rfl
  obtain ⟨_, w, v, s, rfl, hv, hb, hR⟩ := con2_inv h0
  cases hv
  split at hR
  case h_2 => cases hR
  rename_i ts ha
  obtain ⟨hl, hR⟩ := bnd_inv hR
  obtain ⟨⟨rfl, hS, hall, hsl⟩, hR'⟩ := pre_inv hR
  cases hR'
  obtain ⟨vd, vn, vi, vc⟩ := txx ts
  obtain ⟨wd, wn, -⟩ := bs hb
  have hk := ahead_le ts s
  have e1 := ofInts_lst (k := .u8) (n := s.length) (l := s) rfl
  have r2 : ∀ O, ofIntsR .u8 O w = some s := fun O => ofIntsR_of hb
  have kp : ∀ O, k_place [.lst .frozen (txV ts) ts.length, w] O = some (.int .i64 (aheadN ts s), none) := fun O => by
    simp (disch := omega) [k_place, ha, hb, pre_true, hS, hall]
  obtain ⟨k, hkk⟩ : ∃ k, k = aheadN ts s := ⟨_, rfl⟩
  rw [← hkk] at kp hk ⊢
  obtain ⟨v, hv⟩ : ∃ v, v = V.lst .frozen (txV ts) ts.length := ⟨_, rfl⟩
  rw [← hv] at vd vn vi kp ⊢
  refine .go _ rfl rfl ?_
  by_cases hf : k < ts.length ∧ nth ts k = s
  · obtain ⟨f1, f2⟩ := hf
    obtain ⟨c1, c1'⟩ := vc k f1
    have i1 := vi .i64 k (by omega) (by omega)
    rw [Int.toNat_natCast] at i1
    rw [f2] at c1 c1'
    have r1 : ∀ O, ofIntsR .u8 O (.lst .frozen (ints .u8 s) s.length) = some s := fun O => ofIntsR_of e1
    simp -implicitDefEqProofs (disch := omega) [vd, vn, wd, c_place, kp, i1, c1, c1', c_SameR, k_SameR, r1, r2, f1, f2]
    have hr := txV_refs ts objs.length
    rw [hv]
    simp [hr]
  rw [if_neg hf]
  have hins : ins ts s = ts.take k ++ s :: ts.drop k := by unfold ins; rw [← hkk, if_neg hf]
  have e0 := llit0
  have ls := llit1 (txc s).1 (txc s).2
  refine .seq (.stop (M := fun e s' => e = .norm ∧ s'.env 0 = v ∧ s'.env 1 = w ∧ s'.toks = [] ∧ s'.objs = objs ∧ s'.low = objs.length) (by simp [At]) ?_)
  rintro e s' ⟨rfl, g0, g1, ht, ho, hlo⟩
  show To _ _ _ _ _ _ _ _
  refine .seq (.stop (M := fun e s' => e = .norm ∧ s'.env 0 = v ∧ s'.env 1 = w ∧ s'.env 5 = .int .i64 k ∧ s'.toks = [] ∧ s'.objs = objs ∧ s'.low = objs.length) (by simp -implicitDefEqProofs [g0, g1, ht, ho, hlo, vd, wd, c_place, kp, At]) ?_)
  rintro e s' ⟨rfl, g0, g1, g5, ht, ho, hlo⟩
  show To _ _ _ _ _ _ _ _
  refine .seq (.stop (M := fun e s' => e = .norm ∧ s'.env 0 = v ∧ s'.env 1 = w ∧ s'.env 5 = .int .i64 k ∧ s'.toks = [] ∧ s'.objs = objs ∧ s'.low = objs.length) ?_ ?_)
  · by_cases f1 : k < ts.length
    · obtain ⟨c1, c1'⟩ := vc k f1
      have i1 := vi .i64 k (by omega) (by omega)
      rw [Int.toNat_natCast] at i1
      have f2 : ¬ nth ts k = s := fun q => hf ⟨f1, q⟩
      have hL := shortT_iff.1 hall _ (nth_mem f1)
      have r1 : ∀ O, ofIntsR .u8 O (.lst .frozen (ints .u8 (nth ts k)) (nth ts k).length) = some (nth ts k) := fun O => ofIntsR_of (ofInts_lst rfl)
      simp -implicitDefEqProofs (disch := omega) [g0, g1, g5, ht, ho, hlo, vd, vn, wd, i1, c1, c1', c_SameR, k_SameR, r1, r2, f1, f2]
      exact ⟨rfl, by simp [g0], by simp [g1], by simp [g5], rfl, rfl, rfl⟩
    · simp -implicitDefEqProofs (disch := omega) [g0, g1, g5, ht, ho, hlo, vd, vn, wd, f1]
      exact ⟨rfl, by simp [g0], by simp [g1], by simp [g5], rfl, rfl, rfl⟩
  rintro e s' ⟨rfl, g0, g1, g5, ht, ho, hlo⟩
  simp -implicitDefEqProofs (disch := omega) [g0, g1, g5, ht, ho, hlo, e0]
  obtain ⟨I, hI⟩ : ∃ I : Nat → St → Prop, I = (fun (i : Nat) (s' : St) => s'.env 0 = v ∧ s'.env 1 = w ∧ s'.env 5 = .int .i64 k ∧ s'.env 6 = .lst (.tok 0 1) (txV (ts.take i)) i ∧ s'.env 7 = .int .i64 i ∧ s'.toks = [i] ∧ s'.objs = objs ∧ s'.low = objs.length) := ⟨_, rfl⟩
  refine .up k I (by rw [hI]; exact ⟨by simp [g0], by simp [g1], by simp [g5], by simp [txV, ht], by simp, by simp [ht], by simp [ho], by simp [hlo]⟩) ?_
  intro i s' hi hs
  rw [hI] at hs
  obtain ⟨g0, g1, g5, g6, g7, ht, ho, hlo⟩ := hs
  rcases Nat.lt_or_ge i k with h | h
  · have hi2 : i < ts.length := by omega
    obtain ⟨c1, c1'⟩ := vc i hi2
    have i1 := vi .i64 i (by omega) (by omega)
    rw [Int.toNat_natCast] at i1
    have l1 := llit1 (txc (nth ts i)).1 (txc (nth ts i)).2
    have es := txV_snoc (ts.take i) (nth ts i)
    rw [← take_nth hi2] at es
    have hm : (txV (ts.take i)).length = i := by rw [txV_len, List.length_take]; omega
    simp -implicitDefEqProofs (disch := omega) [g0, g1, g5, g6, g7, ht, ho, hlo, i1, c1, c1', h, l1, es, hm, Nat.mod_one, wrap_small]
    rw [hI]
    exact ⟨by simp [g0], by simp [g1], by simp [g5], by simp, by simp, by simp, by simp, by simp⟩
  obtain rfl : i = k := by omega
  have es := txV_snoc (ts.take i) s
  have hm : (txV (ts.take i)).length = i := by rw [txV_len, List.length_take]; omega
  simp -implicitDefEqProofs (disch := omega) [g0, g1, g5, g6, g7, ht, ho, hlo, wd, hb, c_Copy, k_Copy, ls, es, hm, Nat.mod_one]
  obtain ⟨X, hX⟩ : ∃ X : Nat → List (List Int), X = fun j => (ts.take i ++ [s]) ++ (ts.drop i).take j := ⟨_, rfl⟩
  have hXl : ∀ j, j ≤ ts.length - i → (X j).length = i + 1 + j := fun j hj => by rw [hX]; simp; omega
  have hXn : X (ts.length - i) = ins ts s := by rw [hX, hins]; simp only; rw [show (ts.drop i).take (ts.length - i) = ts.drop i from List.take_of_length_le (by rw [List.length_drop]; omega)]; simp
  obtain ⟨J, hJ⟩ : ∃ J : Nat → St → Prop, J = (fun (j : Nat) (s' : St) => s'.env 0 = v ∧ s'.env 6 = .lst (.tok 0 1) (txV (X j)) (i + 1 + j) ∧ s'.env 8 = .int .i64 ((i + j : Nat) : Int) ∧ s'.toks = [i + 1 + j] ∧ s'.objs = objs ∧ s'.low = objs.length) := ⟨_, rfl⟩
  refine .up (ts.length - i) J (by rw [hJ]; exact ⟨by simp [g0], by simp [hX], by simp, by simp, by simp, by simp⟩) ?_
  intro j s' hj hs
  rw [hJ] at hs
  obtain ⟨g0, g6, g8, ht, ho, hlo⟩ := hs
  rw [Int.natCast_add] at g8
  rcases Nat.lt_or_ge j (ts.length - i) with h2 | h2
  · have hi2 : i + j < ts.length := by omega
    obtain ⟨c1, c1'⟩ := vc (i + j) hi2
    have i1 := vi .i64 ((i : Int) + j) (by omega) (by omega)
    rw [show ((i : Int) + j).toNat = i + j by omega] at i1
    have l1 := llit1 (txc (nth ts (i + j))).1 (txc (nth ts (i + j))).2
    have es := txV_snoc (X j) (nth ts (i + j))
    have hxs : X j ++ [nth ts (i + j)] = X (j + 1) := by
      rw [hX]; simp only
      rw [take_nth (l := ts.drop i) (i := j) (by simp; omega), nth_drop]; simp
    rw [hxs] at es
    have hm : (txV (X j)).length = i + 1 + j := by rw [txV_len]; exact hXl j hj
    have h2' : (i : Int) + j < ts.length := by omega
    simp -implicitDefEqProofs (disch := omega) [g0, g6, g8, ht, ho, hlo, vn, h2', i1, c1, c1', hi2, l1, es, hm, Nat.mod_one, wrap_small]
    rw [hJ]
    exact ⟨by omega, by simp [g0], by simp [Nat.add_assoc], by simp; omega, by simp [Nat.add_assoc], by simp, by simp⟩
  obtain rfl : j = ts.length - i := by omega
  have hr := txV_refs (ins ts s) objs.length
  have h2' : ¬ (i : Int) + ((ts.length - i : Nat) : Int) < ts.length := by omega
  have hlen := hXl _ (Nat.le_refl _)
  rw [hXn] at hlen g6
  rw [← hlen] at g6 ht
  simp -implicitDefEqProofs (disch := omega) [g0, g6, g8, ht, ho, hlo, vn, h2', hr, txV_len])

theorem con2_eq {α β : Type} {d1 : V → Option α} {d2 : V → Option β} {F : α → β → List AO → Option Rs} {v w : V} {a : α} {b : β} {objs : List AO} (h1 : d1 v = some a) (h2 : d2 w = some b) : con2 d1 d2 F [v, w] objs = F a b objs := by rw [con2_app, h1, h2]; rfl
theorem ilit1 (a : Int) : listV Try.prog 22 1 [(0, .int .i64 a)] = some ([.int .i64 a], 1) := by simp [listV, fillV, zeros, setCells]
theorem ilit0 : listV Try.prog 22 0 [] = some ([], 1) := by simp [listV, fillV, zeros]
def codesL (ts ss : List (List Int)) (n : Nat) : List Int := (List.range n).map fun i => (aheadN ts (nth ss i) : Int)
theorem codesL_snoc (ts ss : List (List Int)) (n : Nat) : ints .i64 (codesL ts ss n) ++ [.int .i64 (aheadN ts (nth ss n))] = ints .i64 (codesL ts ss (n + 1)) := by simp [codesL, List.range_succ, ints]
def idxX (ss : List (List Int)) : List (List Int) := idx ss ss.length
noncomputable def k_Index10 : Ab.Spec := con1 (ofList (ofInts .u8)) fun ss _ => bnd ss.length 140737488355328 (if shortT ss = true then some (if encBad ss = true then .tup [.nils, .nils, .int .i64 4] else .tup [.lst .frozen (txV (idxX ss)) (idxX ss).length, .lst (.fresh 1 false) (ints .i64 (codesL (idxX ss) ss ss.length)) ss.length, .int .i64 0], none) else none)
noncomputable def T_Index10 : CallF := withF T_with 16 k_Index10
theorem T_Index10_ok : CallOk Try.prog T_Index10 := con_of (A := annOf [31] [] [] false []) fit T_with_ok (fn := Try.f16) (by kernel_rfl) (by kernel_rfl) (by
  intro args objs r h0
  have c_with : ∀ a o, T_with 34 a o = k_with a o := fun _ _ => rfl
  have c_place : ∀ a o, T_with 35 a o = k_place a o := fun _ _ => rfl
  obtain ⟨v, ss, rfl, ha, hR⟩ := con1_inv h0
  obtain ⟨hl, hR⟩ := bnd_inv hR
  split at hR
  case isFalse => cases hR
  rename_i hall
  cases hR
  have hall' := shortT_iff.1 hall
  obtain ⟨vd, vn, cs, vi, vc⟩ := tx ha
  refine .go _ rfl rfl ?_
  by_cases hbig : 4096 < ss.length
  · have hb : encBad ss = true := by simp [encBad, hbig]
    have hb' : (4096 : Int) < ss.length := by omega
    simp -implicitDefEqProofs (disch := omega) [vn, hb, hb', hbig]
  have e0 := llit0
  have hshort : ∀ i, i ≤ ss.length → shortT (idx ss i) = true := fun i hi => shortT_iff.2 fun t ht => hall' t ((idx_facts ss i hi).2.2 t ht)
  simp -implicitDefEqProofs (disch := omega) [vn, hbig, e0]
  obtain ⟨I, hI⟩ : ∃ I : Nat → St → Prop, I = (fun (i : Nat) (s : St) => (∀ j, j < i → (nth ss j).length ≤ 200) ∧ s.env 0 = v ∧ (∃ K, (K = LK.lit ∨ K = LK.frozen) ∧ s.env 5 = .lst K (txV (idx ss i)) (idx ss i).length) ∧ s.env 6 = .int .i64 i ∧ s.toks = [] ∧ s.objs = objs ∧ s.low = objs.length) := ⟨_, rfl⟩
  refine .up ss.length I (by rw [hI]; exact ⟨by omega, by simp, ⟨.lit, .inl rfl, by simp [txV, idx]⟩, by simp, by simp, by simp, by simp⟩) ?_
  intro i s hi hs
  rw [hI] at hs
  obtain ⟨h200, g0, ⟨K, hK, g5⟩, g6, ht, ho, hlo⟩ := hs
  rcases Nat.lt_or_ge i ss.length with h | h
  · obtain ⟨c, c1, c1', c2⟩ := vc i h
    obtain ⟨cd, cn, -⟩ := bs c2
    have e1 := vi .i64 i (by omega) (by omega)
    rw [Int.toNat_natCast] at e1
    by_cases hlong : 200 < (nth ss i).length
    · have hb := bad_at h hlong
      simp -implicitDefEqProofs (disch := omega) [g0, g5, g6, ht, ho, hlo, vn, e1, c1, c1', cd, cn, h, hb, hlong]
    · have h200' : ∀ j, j < i + 1 → (nth ss j).length ≤ 200 := fun j hj => by
        rcases Nat.lt_or_ge j i with q | q
        · exact h200 j q
        · obtain rfl : j = i := by omega
          omega
      obtain ⟨i1, i2, i3⟩ := idx_facts ss i hi
      have e2 := txV_of (ss := idx ss i) rfl
      have hs2 := hshort i hi
      have hL := hall' _ (nth_mem h)
      have kw : ∀ O, k_with [.lst .frozen (txV (idx ss i)) (idx ss i).length, c] O = some (if aheadN (idx ss i) (nth ss i) < (idx ss i).length ∧ nth (idx ss i) (aheadN (idx ss i) (nth ss i)) = nth ss i then .lst .frozen (txV (idx ss i)) (idx ss i).length else .lst (.fresh 1 false) (txV (ins (idx ss i) (nth ss i))) (ins (idx ss i) (nth ss i)).length, none) := fun O => by
        unfold k_with
        rw [con2_eq rfl c2, e2]
        simp only
        rw [bnd_pos (by omega), pre_pos ⟨trivial, i1, hs2, hL⟩]
      have fin : ∀ s' : St, s'.env 0 = v → s'.env 5 = .lst .frozen (txV (idx ss (i + 1))) (idx ss (i + 1)).length → s'.env 6 = .int .i64 ((i : Int) + 1) → s'.toks = [] → s'.objs = objs → s'.low = objs.length → I (i + 1) s' := fun s' z1 z2 z3 z4 z5 z6 => by
        rw [hI]; exact ⟨h200', z1, ⟨.frozen, .inr rfl, z2⟩, z3, z4, z5, z6⟩
      have hx : idx ss (i + 1) = ins (idx ss i) (nth ss i) := rfl
      have hm := txV_len (idx ss i)
      by_cases hf : aheadN (idx ss i) (nth ss i) < (idx ss i).length ∧ nth (idx ss i) (aheadN (idx ss i) (nth ss i)) = nth ss i
      · rw [if_pos hf] at kw
        have hx2 : idx ss (i + 1) = idx ss i := by rw [hx]; unfold ins; rw [if_pos hf]
        simp -implicitDefEqProofs (disch := omega) [g0, g5, g6, ht, ho, hlo, vn, e1, c1, c1', cd, cn, h, hlong, c_with, kw, wrap_small]
        exact fin _ (by simp [g0]) (by simp [hx2]) (by simp) (by simp) (by simp) (by simp)
      · rw [if_neg hf] at kw
        simp -implicitDefEqProofs (disch := omega) [g0, g5, g6, ht, ho, hlo, vn, e1, c1, c1', cd, cn, h, hlong, c_with, kw, wrap_small]
        exact fin _ (by simp [g0]) (by simp [hx]) (by simp) (by simp) (by simp) (by simp)
  obtain rfl : i = ss.length := by omega
  have hnb : encBad ss = false := by
    unfold encBad
    simp only [Bool.or_eq_false_iff, decide_eq_false_iff_not, List.any_eq_false, decide_eq_true_eq]
    refine ⟨hbig, fun s hs => ?_⟩
    obtain ⟨j, hj, rfl⟩ := nth_of_mem hs
    have := h200 j hj; omega
  obtain ⟨E, hE⟩ : ∃ E, E = idxX ss := ⟨_, rfl⟩
  have hE' : idx ss ss.length = E := hE.symm
  obtain ⟨i1, i2, i3⟩ := idx_facts ss ss.length (Nat.le_refl _)
  have hs2 := hshort ss.length (Nat.le_refl _)
  rw [hE'] at i1 i2 i3 hs2 g5
  have z0 := ilit0
  have e2 := txV_of (ss := E) rfl
  simp -implicitDefEqProofs (disch := omega) [g0, g5, g6, ht, ho, hlo, vn, z0, ← hE, hnb]
  obtain ⟨J, hJ⟩ : ∃ J : Nat → St → Prop, J = (fun (j : Nat) (s : St) => s.env 0 = v ∧ s.env 5 = .lst K (txV E) E.length ∧ s.env 7 = .lst (.tok 0 1) (ints .i64 (codesL E ss j)) j ∧ s.env 8 = .int .i64 j ∧ s.toks = [j] ∧ s.objs = objs ∧ s.low = objs.length) := ⟨_, rfl⟩
  refine .up ss.length J (by rw [hJ]; exact ⟨by simp [g0], by simp [g5], by simp [codesL, ints], by simp, by simp, by simp, by simp⟩) ?_
  intro j s hj hs
  rw [hJ] at hs
  obtain ⟨g0, g5, g7, g8, ht, ho, hlo⟩ := hs
  rcases Nat.lt_or_ge j ss.length with h | h
  · obtain ⟨c, c1, c1', c2⟩ := vc j h
    obtain ⟨cd, cn, -⟩ := bs c2
    have e1 := vi .i64 j (by omega) (by omega)
    rw [Int.toNat_natCast] at e1
    have kp : ∀ O, k_place [.lst .frozen (txV E) E.length, c] O = some (.int .i64 (aheadN E (nth ss j)), none) := fun O => by
      unfold k_place
      rw [con2_eq e2 c2, bnd_pos (by omega), pre_pos ⟨i1, hs2⟩]
    have l1 := ilit1 (aheadN E (nth ss j))
    have es := codesL_snoc E ss j
    have hm : (ints .i64 (codesL E ss j)).length = j := by simp [codesL]
    have hm2 := txV_len E
    simp -implicitDefEqProofs (disch := omega) [g0, g5, g7, g8, ht, ho, hlo, vn, e1, c1, c1', cd, cn, h, c_place, kp, l1, es, hm, Nat.mod_one, wrap_small]
    rw [hJ]
    exact ⟨by simp [g0], by simp [g5], by simp, by simp, by simp, by simp, by simp⟩
  obtain rfl : j = ss.length := by omega
  have hr := txV_refs E objs.length
  have hm : (ints .i64 (codesL E ss ss.length)).length = ss.length := by simp [codesL]
  rcases hK with rfl | rfl
  · simp -implicitDefEqProofs (disch := omega) [g0, g5, g7, g8, ht, ho, hlo, vn, hr, hm]
  · simp -implicitDefEqProofs (disch := omega) [g0, g5, g7, g8, ht, ho, hlo, vn, hr, hm])

end Go.Proofs.Ytdfcbophcfjakaa.B
set_option maxRecDepth 20000
set_option maxHeartbeats 1000000
namespace Go.Proofs.Ytdfcbophcfjakaa.B
open Go Go.Ab
/-! New -/
def clipH (x : Int) : Int := if 12 < (if 1 > x then 1 else x) then 12 else if 1 > x then 1 else x
theorem clipH_range (x : Int) : 1 ≤ clipH x ∧ clipH x ≤ 12 := by unfold clipH; split <;> split <;> omega
def NewP (objs : List AO) (hl : List Int) (r : Rs) : Prop :=
  ∃ objs' low', r = (.ptr (objs.length + 1) 0 0, some (objs', low')) ∧ Old objs objs' ∧ SkM objs' objs.length [] (hl.map clipH) 0 0 ∧ objs'.length = objs.length + (if hl = [] then 2 else 3)
theorem lnk_nil {f : Nat → Nd} (hf : ∀ h, (f 0).nx h = 0) : Lnk 1 f [] (fun _ => 12) :=
  ⟨rfl, fun i hi => absurd hi (by simp), rfl, fun i hi => absurd hi (by simp), fun A i B e h hh => by
    cases A with
    | nil => cases e; rw [hf]; simp [nxt]
    | cons x A => simp at e, List.Pairwise.nil, fun i hi => absurd hi (by simp)⟩
def p_New : List V → List AO → Rs → Prop := fun args objs r => ∀ v hl, args = [v] → ofInts .i64 v = some hl → NewP objs hl r
noncomputable def k_New : Ab.Spec := relF (fun a o r => p_New a o r ∧ EndsW Try.prog (annOf [] [6,24] [] true []) T_Index10 7 Try.f7 a o r)
noncomputable def T_New : CallF := withF T_Index10 7 k_New
theorem T_New_ok : CallOk Try.prog T_New := con_ofW (A := annOf [] [6,24] [] true []) fit T_Index10_ok (fn := Try.f7) (by kernel_rfl) (by kernel_rfl) (fun args objs r h0 => (relF_inv h0).2)
theorem s_New  {objs : List AO} {v : V} {hl : List Int} (hv : ofInts .i64 v = some hl) (hn : hl.length < 17592186044000) : ∃ r, k_New [v] objs = some r ∧ p_New [v] objs r := by
  have goal : ∀ r : Rs, NewP objs hl r → p_New [v] objs r := by
    intro r hr v' hl' e hv'
    cases e
    rw [hv] at hv'
    cases hv'
    exact hr
  obtain ⟨vd, vn, vi, -⟩ := is8 (objs := objs) (ofIntsR_of hv)
  have va := fun O => (is8 (objs := O) (ofIntsR_of hv)).2.2.2
  obtain ⟨n, hn'⟩ : ∃ n, n = objs.length := ⟨_, rfl⟩
  obtain ⟨Z, hZ⟩ : ∃ Z : List V, Z = [V.nils, V.int .i64 0, V.int .i64 0, V.int .i64 0, V.int .i64 0, V.int .i64 0, V.int .i64 0, V.int .i64 0, V.int .i64 0, V.int .i64 0, V.int .i64 0, V.int .i64 0, V.int .i64 0, V.int .i64 0] := ⟨_, rfl⟩
  obtain ⟨hd, hhd⟩ : ∃ hd : Nat → V, hd = fun i => match i with | 0 => V.nils | i + 1 => .ref (n + 2) i 0 (i + 1) 1 := ⟨_, rfl⟩
  obtain ⟨tl, htl⟩ : ∃ tl : Nat → List AO, tl = fun i => match i with | 0 => [] | i + 1 => [.cells (ints .i64 ((hl.take (i + 1)).map clipH)) i] := ⟨_, rfl⟩
  obtain ⟨W, hW⟩ : ∃ W : V → List AO → List AO, W = fun x l => objs ++ (.cells Z 0 :: .cells [.ref n 0 0 1 14, x, .int .i64 0, .int .i64 0] 0 :: l) := ⟨_, rfl⟩
  have wl : ∀ x l, (W x l).length = n + 2 + l.length := fun x l => by rw [hW, hn']; simp; omega
  have w1 : ∀ x l, Ab.getObj (W x l) (n + 1) 0 = some [.ref n 0 0 1 14, x, .int .i64 0, .int .i64 0] := fun x l => by rw [hW, hn']; simp
  have s1 : ∀ x l y, (W x l).set (n + 1) (.cells [.ref n 0 0 1 14, y, .int .i64 0, .int .i64 0] 0) = W y l := fun x l y => by
    rw [hW, hn']
    show (objs ++ _).set (objs.length + 1) _ = _
    rw [List.set_append_right _ _ (by omega), Nat.add_sub_cancel_left]; rfl
  have wa : ∀ x o, W x [] ++ [o] = W x [o] := fun x o => by rw [hW]; simp
  have w2 : ∀ x o v, Ab.getObj (W x [.cells o v]) (n + 2) v = some o := fun x o v => by rw [← wa]; have := wl x []; simp at this; rw [← this, getObj_last]
  have s2 : ∀ x o o', (W x [o]).set (n + 2) o' = W x [o'] := fun x o o' => by rw [← wa]; have := wl x []; simp at this; rw [← this, set_last, wa]
  have hW0 : objs ++ [AO.cells Z 0, .cells [.ref n 0 0 1 14, .nils, .int .i64 0, .int .i64 0] 0] = W .nils [] := by rw [hW]
  refine rel_goT _ rfl rfl ?_
  have hz1 : zeros Z 1 = Z := by simp [zeros]
  have hf : fillV (placeOf Try.prog 60) [V.nils, V.nils, V.int .i64 0, V.int .i64 0] [(0, .ref n 0 0 1 14)] = some [.ref n 0 0 1 14, .nils, .int .i64 0, .int .i64 0] := by simp [fillV, setCells]
  have hb : ∀ a b : Int, (if b > a then b else a) = (if b > a then b else a) := fun _ _ => rfl
  simp -implicitDefEqProofs (disch := omega) [vd, vn, ← hn', ← hZ, hz1, hf, hW0]
  obtain ⟨I, hI⟩ : ∃ I : Nat → St → Prop, I = (fun (i : Nat) (z : St) => z.env 3 = .ptr (n + 1) 0 0 ∧ z.env 9 = v ∧ z.env 10 = .int .i64 hl.length ∧ z.env 11 = .int .i64 i ∧ z.toks = [] ∧ z.objs = W (hd i) (tl i)) := ⟨_, rfl⟩
  refine .up hl.length I (by rw [hI]; exact ⟨by simp, by simp, by simp, by simp, rfl, by rw [hhd, htl]⟩) ?_
  intro i s hi hs
  rw [hI] at hs
  obtain ⟨e3, e9, e10, e11, ht', ho⟩ := hs
  rcases Nat.lt_or_ge i hl.length with h | h
  · obtain ⟨x, hx⟩ : ∃ x, x = nth hl i := ⟨_, rfl⟩
    obtain ⟨c, hc⟩ : ∃ c, c = clipH x := ⟨_, rfl⟩
    have e1 := vi .i64 i h
    have e2 := fun O => va O i h
    rw [← hx] at e2
    have hmax : minmax true (.int .i64 x) [.int .i64 1] = some (.int .i64 (if 1 > x then 1 else x)) := rfl
    have hmin : minmax false (.int .i64 (if 1 > x then 1 else x)) [.int .i64 12] = some (.int .i64 c) := by rw [hc]; rfl
    have l1 := ilit1 c
    cases i with
    | zero =>
      have hd0 : hd 0 = .nils := by rw [hhd]
      have tl0 : tl 0 = [] := by rw [htl]
      rw [hd0, tl0] at ho
      have e0 : indexV Try.prog 22 v (.int .i64 0) = some (ptAt v (ints .i64 hl) 0) := e1
      have t1 : tl 1 = [.cells [.int .i64 c] 0] := by
        rw [htl]
        show [AO.cells (ints .i64 ((hl.take 1).map clipH)) 0] = _
        rw [show hl.take 1 = [x] by rw [hx]; cases hl with | nil => simp at h | cons y l => simp [nth], hc]
        rfl
      have hd1 : hd 1 = .ref (n + 2) 0 0 1 1 := by rw [hhd]
      simp -implicitDefEqProofs (disch := omega) [e3, e9, e10, e11, ht', ho, h, e0, e2, hmax, hmin, l1, w1, s1, wl, wa, setCells]
      rw [hI]
      exact ⟨by simp [e3], by simp [e9], by simp [e10], by simp [wrap_small], rfl, by rw [hd1, t1]⟩
    | succ i =>
      have hd0 : hd (i + 1) = .ref (n + 2) i 0 (i + 1) 1 := by rw [hhd]
      have t0 : tl (i + 1) = [.cells (ints .i64 ((hl.take (i + 1)).map clipH)) i] := by rw [htl]
      rw [hd0, t0] at ho
      have e0 : indexV Try.prog 22 v (.int .i64 ((i : Int) + 1)) = some (ptAt v (ints .i64 hl) (i + 1)) := e1
      have hlen : ((hl.take (i + 1)).map clipH).length = i + 1 := by simp; omega
      have hd2 : hd (i + 1 + 1) = .ref (n + 2) (i + 1) 0 (i + 2) 1 := by rw [hhd]
      have t2 : tl (i + 1 + 1) = [.cells (ints .i64 ((hl.take (i + 1)).map clipH) ++ [.int .i64 c]) (i + 1)] := by
        rw [htl]
        show [AO.cells (ints .i64 ((hl.take (i + 1 + 1)).map clipH)) (i + 1)] = _
        rw [List.take_add_one, List.getElem?_eq_getElem h, ← nth_lt h, ← hx, List.map_append, hc]
        simp [ints]
      obtain ⟨q, hq⟩ : ∃ q, q = (hl.take (i + 1)).map clipH := ⟨_, rfl⟩
      rw [← hq] at ho hlen t2
      simp -implicitDefEqProofs (disch := omega) [e3, e9, e10, e11, ht', ho, h, e0, e2, hmax, hmin, l1, w1, w2, s1, s2, wl, wa, setCells, hlen]
      rw [hI]
      exact ⟨by simp [e3], by simp [e9], by simp [e10], by simp (disch := omega) [wrap_small], rfl, by rw [hd2, t2]; simp [ints]⟩
  · obtain rfl : i = hl.length := by omega
    simp -implicitDefEqProofs (disch := omega) [e3, e9, e10, e11, ht', ho]
    refine goal _ ⟨_, _, by rw [← hn'], by rw [hW]; exact Old.ext _ _, ?_, ?_⟩
    · rw [← hn']
      obtain ⟨f, hf⟩ : ∃ f : Nat → Nd, f = fun _ => ⟨.nils, [], 0, fun _ => 0⟩ := ⟨_, rfl⟩
      have g1 : ∀ x l, (W x l)[n + 1]? = some (.cells [.ref n 0 0 1 14, x, .int .i64 0, .int .i64 0] 0) := fun x l => by rw [hW, hn']; simp
      have g0 : ∀ x l, (W x l)[n]? = some (.cells Z 0) := fun x l => by rw [hW, hn']; simp
      have fz : f 0 = ⟨.nils, [], 0, fun _ => 0⟩ := by rw [hf]
      have c0 : ∀ i, i < 1 → i = 0 := fun i h => by omega
      refine ⟨1, f, [], fun _ => 12, 0, hd hl.length, Z, ⟨lnk_nil (by simp [fz]), g1 _ _, g0 _ _, by rw [hZ]; rfl, fun i hi => ?_, fun i hi => ?_, fun i h hi hh => ?_, ⟨?_, ?_, fun x hx => ?_⟩, by omega, by omega, by rw [List.length_map]; omega⟩, rfl⟩
      · rw [c0 i hi, fz, hZ]; rfl
      · rw [c0 i hi, fz, hZ]; rfl
      · rw [c0 i hi, fz, hZ]
        rcases h with _ | _ | _ | _ | _ | _ | _ | _ | _ | _ | _ | _ | h
        all_goals first | rfl | omega
      · cases hL : hl with
        | nil => rw [hhd]; simp [ofIntsR, ofInts]
        | cons y l =>
          obtain ⟨q, hq⟩ : ∃ q, q = l.length := ⟨_, rfl⟩
          have hq2 : (y :: l).length = q + 1 := by simp [hq]
          rw [hq2]
          have a1 : hd (q + 1) = .ref (n + 2) q 0 (q + 1) 1 := by rw [hhd]
          have a2 : tl (q + 1) = [.cells (ints .i64 ((y :: l).map clipH)) q] := by
            rw [htl]
            show [AO.cells (ints .i64 ((hl.take (q + 1)).map clipH)) q] = _
            rw [hL, List.take_of_length_le (by omega)]
          have a3 : ((y :: l).map clipH).length = q + 1 := by rw [List.length_map, hq2]
          rw [a1, a2]
          obtain ⟨z, hz⟩ : ∃ z, z = (y :: l).map clipH := ⟨_, rfl⟩
          rw [← hz] at a3 ⊢
          simp only [ofIntsR, w2]
          rw [List.drop_zero, List.take_of_length_le (by simp [a3]), ofCellsI_ints, Option.bind_some, if_pos ⟨by omega, by simp [a3]⟩]
      · cases hL : hl with
        | nil => exact .inl (by rw [hhd]; rfl)
        | cons y l => exact .inr ⟨l.length, by rw [hhd]; simp, by simp⟩
      · obtain ⟨y, -, rfl⟩ := List.mem_map.1 hx
        exact clipH_range y
    · rw [wl, ← hn', htl]
      cases hl with
      | nil => rfl
      | cons y l => rfl

end Go.Proofs.Ytdfcbophcfjakaa.B
set_option maxRecDepth 20000
set_option maxHeartbeats 1000000
namespace Go.Proofs.Ytdfcbophcfjakaa.B
open Go Go.Ab
/-! Range -/
def belowH (hi : List Int) (e : List Int × Int) : Bool := decide (hi = [] ∨ cmpZ e.1 hi < 0)
def rangeM (m : Kvs) (lo hi : List Int) : Kvs := (highM m lo).takeWhile (belowH hi)
def RangeP (objs : List AO) (m : Kvs) (lo hi : List Int) (r : Rs) : Prop := ∃ objs' low' v w, r = (.tup [v, w], some (objs', low')) ∧ Old objs objs' ∧ noref 0 (toldV objs' v) = true ∧ ofList (ofInts .u8) (toldV objs' v) = some ((rangeM m lo hi).map (·.1)) ∧ ofIntsR .i64 objs' w = some ((rangeM m lo hi).map (·.2))
theorem tw_count {α : Type} [Inhabited α] (p : α → Bool) : ∀ (l : List α), ∃ K, K ≤ l.length ∧ l.takeWhile p = l.take K ∧ (∀ i, i < K → p (nth l i) = true) ∧ (K < l.length → p (nth l K) = false)
  | [] => ⟨0, Nat.le_refl _, rfl, fun i h => absurd h (Nat.not_lt_zero _), fun h => absurd h (Nat.lt_irrefl _)⟩
  | a :: l => by
    by_cases hp : p a = true
    · obtain ⟨K, k1, k2, k3, k4⟩ := tw_count p l
      refine ⟨K + 1, by simp; omega, by simp [hp, k2], fun i hi => ?_, fun h => ?_⟩
      · cases i with
        | zero => exact hp
        | succ i => exact k3 i (by omega)
      · exact k4 (by simpa using h)
    · have hp := Bool.eq_false_iff.2 hp
      exact ⟨0, by simp, by simp [hp], fun i h => absurd h (Nat.not_lt_zero _), fun _ => hp⟩
theorem cells_all {α β : Type} {d : V → Option β} {g : α → V} {h : α → β} : ∀ {l : List α}, (∀ a ∈ l, d (g a) = some (h a)) → ofCells d (l.map g) = some (l.map h)
  | [], _ => rfl
  | a :: l, e => by
    have := cells_all (d := d) (g := g) (h := h) fun b hb => e b (List.mem_cons_of_mem _ hb)
    simp [ofCells, e a (by simp), this]
def p_Range : List V → List AO → Rs → Prop := fun args objs r => ∀ b m hs tk hg kv k uv u, args = [.ptr (b + 1) 0 0, kv, uv] → SkM objs b m hs tk hg → ofIntsR .u8 objs kv = some k → ofIntsR .u8 objs uv = some u → RangeP objs m k u r
noncomputable def k_Range : Ab.Spec := relF (fun a o r => p_Range a o r ∧ EndsW Try.prog (annOf [28] [30,34] [] true [22]) T_New 13 Try.f13 a o r)
noncomputable def T_Range : CallF := withF T_New 13 k_Range
theorem T_Range_ok : CallOk Try.prog T_Range := con_ofW (A := annOf [28] [30,34] [] true [22]) fit T_New_ok (fn := Try.f13) (by kernel_rfl) (by kernel_rfl) (fun args objs r h0 => (relF_inv h0).2)
theorem s_Range  {objs : List AO} {b : Nat} {m : Kvs} {hs : List Int} {tk : Nat} {hg : Int} {kv uv : V} {k u : List Int} (M : SkM objs b m hs tk hg) (hk : ofIntsR .u8 objs kv = some k) (k8 : b8 k = true) (kl : k.length < 140737488355000) (hu : ofIntsR .u8 objs uv = some u) (u8 : b8 u = true) (ul : u.length < 140737488355000) : ∃ r, k_Range [.ptr (b + 1) 0 0, kv, uv] objs = some r ∧ p_Range [.ptr (b + 1) 0 0, kv, uv] objs r := by
  have c_find : ∀ a o, T_New 36 a o = k_find a o := fun _ _ => rfl
  have c_Each : ∀ a o, T_New 22 a o = k_Each a o := fun _ _ => rfl
  have c_Compare : ∀ a o, T_New 32 a o = k_Compare a o := fun _ _ => rfl
  have c_CloneR : ∀ a o, T_New 33 a o = k_CloneR a o := fun _ _ => rfl
  have goal : ∀ r : Rs, RangeP objs m k u r → p_Range [.ptr (b + 1) 0 0, kv, uv] objs r := by
    intro r hr b' m' hs' tk' hg' kv' k' uv' u' e M' hk' hu'
    simp only [List.cons.injEq, and_true, V.ptr.injEq] at e
    obtain ⟨e, rfl, rfl⟩ := e
    have e : b = b' := by omega
    subst e
    rw [hk] at hk'
    cases hk'
    rw [hu] at hu'
    cases hu'
    obtain ⟨rfl, -⟩ := M.uniq M'
    exact hr
  obtain ⟨n, hn⟩ : ∃ n, n = objs.length := ⟨_, rfl⟩
  obtain ⟨kd, kc, ki⟩ := bytesOk hk
  obtain ⟨ud, uc, ui⟩ := bytesOk hu
  obtain ⟨E3, hE3⟩ : ∃ E3, E3 = objs ++ [.cells [uv] 0, .cells [.nils] 0, .cells [.nils] 0] := ⟨_, rfl⟩
  have l3 : E3.length = n + 3 := by rw [hE3, hn]; simp
  obtain ⟨E, hE⟩ : ∃ E, E = E3 ++ [.cells [.ptr (b + 1) 0 0] 0, .cells [kv] 0] := ⟨_, rfl⟩
  have lE : E.length = n + 5 := by rw [hE, List.length_append, l3]; rfl
  have oldE : Old objs E := by rw [hE, hE3, List.append_assoc]; exact Old.ext _ _
  have hkE : ofIntsR .u8 E kv = some k := by rw [hE, hE3]; exact ofIntsR_app (ofIntsR_app hk)
  obtain ⟨c, f, ord, ht, nv, hv, X, P, S, F⟩ := found (M.old oldE) hkE k8 kl
  have hhi : highM m k = kvs f S := by rw [F.mm]; exact (cut_kvs F.C).2
  have hfi := F.find
  obtain ⟨tw, htw⟩ : ∃ tw, tw = twL fun h => (atH ht h P : Int) := ⟨_, rfl⟩
  have twl : tw.length = 12 := by rw [htw, twL_len]
  rw [← htw] at hfi
  obtain ⟨W, hW⟩ : ∃ W : V → V → List AO → List AO, W = fun x y Z => objs ++ (.cells [uv] 0 :: .cells [x] 0 :: .cells [y] 0 :: .cells [.ptr (b + 1) 0 0] 0 :: .cells [kv] 0 :: .cells (ints .i64 tw) 0 :: Z) := ⟨_, rfl⟩
  have wl : ∀ x y Z, (W x y Z).length = n + 6 + Z.length := fun x y Z => by rw [hW, hn]; simp; omega
  have w0 : ∀ x y Z, Ab.getObj (W x y Z) n 0 = some [uv] := fun x y Z => by rw [hW, hn]; simp
  have w1 : ∀ x y Z, Ab.getObj (W x y Z) (n + 1) 0 = some [x] := fun x y Z => by rw [hW, hn]; simp
  have w2 : ∀ x y Z, Ab.getObj (W x y Z) (n + 2) 0 = some [y] := fun x y Z => by rw [hW, hn]; simp
  have w3 : ∀ x y Z, Ab.getObj (W x y Z) (n + 3) 0 = some [.ptr (b + 1) 0 0] := fun x y Z => by rw [hW, hn]; simp
  have s1 : ∀ x y Z x', (W x y Z).set (n + 1) (.cells [x'] 0) = W x' y Z := fun x y Z x' => by
    rw [hW, hn]
    show (objs ++ _).set (objs.length + 1) _ = _
    rw [List.set_append_right _ _ (by omega), Nat.add_sub_cancel_left]; rfl
  have s2 : ∀ x y Z x', (W x y Z).set (n + 2) (.cells [x'] 0) = W x x' Z := fun x y Z x' => by
    rw [hW, hn]
    show (objs ++ _).set (objs.length + 2) _ = _
    rw [List.set_append_right _ _ (by omega), Nat.add_sub_cancel_left]; rfl
  have wa : ∀ x y Z Z', W x y Z ++ Z' = W x y (Z ++ Z') := fun x y Z Z' => by rw [hW]; simp
  have w6 : ∀ x y o v Z, Ab.getObj (W x y (.cells o v :: Z)) (n + 6) v = some o := fun x y o v Z => by rw [hW, hn]; simp
  have w7 : ∀ x y a o v, Ab.getObj (W x y [a, .cells o v]) (n + 7) v = some o := fun x y a o v => by rw [hW, hn]; simp
  have s6 : ∀ x y a Z a', (W x y (a :: Z)).set (n + 6) a' = W x y (a' :: Z) := fun x y a Z a' => by
    rw [hW, hn]
    show (objs ++ _).set (objs.length + 6) _ = _
    rw [List.set_append_right _ _ (by omega), Nat.add_sub_cancel_left]; rfl
  have s7 : ∀ x y a o o', (W x y [a, o]).set (n + 7) o' = W x y [a, o'] := fun x y a o o' => by
    rw [hW, hn]
    show (objs ++ _).set (objs.length + 7) _ = _
    rw [List.set_append_right _ _ (by omega), Nat.add_sub_cancel_left]; rfl
  have wold : ∀ x y Z, Old objs (W x y Z) := fun x y Z => by rw [hW]; exact Old.ext _ _
  have hE6 : E ++ [.cells (ints .i64 tw) 0] = W .nils .nils [] := by rw [hE, hE3, hW]; simp
  have wE : ∀ x y Z (id : Nat) (v : Nat), (id = b ∨ id = b + 1) → Ab.getObj (W x y Z) id v = Ab.getObj E id v := fun x y Z id v hid => by
    have := M.lt
    rw [(wold x y Z).2 _ _ (by omega), oldE.2 _ _ (by omega)]
  have gh := getObj_of F.I.head
  have gn := getObj_of F.I.nodes
  have hE0 : Ab.getObj E (n + 3) 0 = some [.ptr (b + 1) 0 0] := by rw [hE, ← l3]; simp
  have hE1 : Ab.getObj E (n + 4) 0 = some [kv] := by
    have := getObj_add (objs := E3) (l := [.cells [.ptr (b + 1) 0 0] 0, .cells [kv] 0]) (k := 1) (v := 0)
    rw [l3] at this
    rw [hE]; exact this
  -- what the rounds do
  obtain ⟨K, k1, k2, k3, k4⟩ := tw_count (belowH u) (kvs f S)
  have ksl : (kvs f S).length = S.length := by simp [kvs]
  rw [ksl] at k1 k4
  have hres : rangeM m k u = (kvs f S).take K := by unfold rangeM; rw [hhi]; exact k2
  have hSc : S.length < 4000000 := by
    have h1 := F.I.lnk.len
    have h2 : S.length ≤ ord.length := by rw [F.C.app]; simp
    have h3 := F.I.bc
    omega
  obtain ⟨cl, hcl⟩ : ∃ cl : Nat → V, cl = fun j => if isNils (f j).kv = true then .nils else .lst .frozen (ints .u8 (f j).key) (f j).key.length := ⟨_, rfl⟩
  obtain ⟨kcs, hkcs⟩ : ∃ kcs : Nat → List V, kcs = fun i => (S.take i).map cl := ⟨_, rfl⟩
  obtain ⟨vcs, hvcs⟩ : ∃ vcs : Nat → List Int, vcs = fun i => (S.take i).map fun j => (f j).val := ⟨_, rfl⟩
  obtain ⟨xd, hxd⟩ : ∃ xd : Nat → V, xd = fun i => match i with | 0 => .nils | i + 1 => .ref (n + 6) i 0 (i + 1) 1 := ⟨_, rfl⟩
  obtain ⟨yd, hyd⟩ : ∃ yd : Nat → V, yd = fun i => match i with | 0 => .nils | i + 1 => .ref (n + 7) i 0 (i + 1) 1 := ⟨_, rfl⟩
  obtain ⟨zd, hzd⟩ : ∃ zd : Nat → List AO, zd = fun i => match i with | 0 => [] | i + 1 => [.cells (kcs (i + 1)) i, .cells (ints .i64 (vcs (i + 1))) i] := ⟨_, rfl⟩
  obtain ⟨Oi, hOi⟩ : ∃ Oi : Nat → List AO, Oi = fun i => W (xd i) (yd i) (zd i) := ⟨_, rfl⟩
  obtain ⟨lo, hlo⟩ : ∃ lo : Nat → Nat, lo = fun i => if i = 0 then n + 5 else n + 1 := ⟨_, rfl⟩
  refine rel_go _ rfl rfl ?_
  refine ToW.front (M := fun s => s.env 0 = .ptr (b + 1) 0 0 ∧ s.env 1 = kv ∧ s.env 5 = .ptr n 0 0 ∧ s.toks = [] ∧ s.objs = objs ++ [.cells [uv] 0]) ?_ ?_
  · simp -implicitDefEqProofs (disch := omega) [← hn, ud, uc, ui]
    exact ⟨rfl, by simp, by simp, by simp, rfl, rfl⟩
  rintro s ⟨e0, e1, e5, ht', ho⟩
  refine ToW.front (M := fun s => s.env 0 = .ptr (b + 1) 0 0 ∧ s.env 1 = kv ∧ s.env 5 = .ptr n 0 0 ∧ s.env 8 = .ptr (n + 1) 0 0 ∧ s.toks = [] ∧ s.objs = objs ++ [.cells [uv] 0, .cells [.nils] 0]) ?_ ?_
  · simp -implicitDefEqProofs (disch := omega) [← hn, e0, e1, e5, ht', ho]
    exact ⟨rfl, by simp [e0], by simp [e1], by simp [e5], by simp, rfl, rfl⟩
  clear e0 e1 e5 ht' ho
  clear s
  rintro s ⟨e0, e1, e5, e8, ht', ho⟩
  refine ToW.front (M := fun s => s.env 0 = .ptr (b + 1) 0 0 ∧ s.env 1 = kv ∧ s.env 5 = .ptr n 0 0 ∧ s.env 8 = .ptr (n + 1) 0 0 ∧ s.env 9 = .ptr (n + 2) 0 0 ∧ s.toks = [] ∧ s.objs = E3) ?_ ?_
  · simp -implicitDefEqProofs (disch := omega) [← hn, e0, e1, e5, e8, ht', ho]
    exact ⟨rfl, by simp [e0], by simp [e1], by simp [e5], by simp [e8], by simp, rfl, by rw [hE3]⟩
  clear e0 e1 e5 e8 ht' ho
  clear s
  rintro s ⟨e0, e1, e5, e8, e9, ht', ho⟩
  refine ToW.seq (ToW.front (M := fun s => s.env 5 = .ptr n 0 0 ∧ s.env 8 = .ptr (n + 1) 0 0 ∧ s.env 9 = .ptr (n + 2) 0 0 ∧ s.env 14 = .fn (.func 39) [] [.ptr (n + 3) 0 0, .ptr (n + 4) 0 0] ∧ s.toks = [] ∧ s.objs = E) ?_ ?_)
  · have kp : k_Each [.ptr (b + 1) 0 0, kv] E3 = some (.fn (.func 39) [] [.ptr (n + 3) 0 0, .ptr (n + 4) 0 0], some (E, n + 3)) := by
      simp [-isDef_eq, -cellsOf_eq, k_Each, con2, kd, kc, ki, hE, l3, pre_pos]
    simp -implicitDefEqProofs (disch := omega) [e0, e1, e5, e8, e9, ht', ho, kd, c_Each, kp]
    exact ⟨rfl, by simp [e5], by simp [e8], by simp [e9], by simp, rfl, rfl⟩
  clear e0 e1 e5 e8 e9 ht' ho
  clear s
  rintro s ⟨e5, e8, e9, e14, ht', ho⟩
  have lo0 : lo 0 = n + 5 := by rw [hlo]; rfl
  have loS : ∀ i, lo (i + 1) = n + 1 := fun i => by rw [hlo]; rfl
  have lo_le : ∀ i, lo i ≤ n + 5 := fun i => by rw [hlo]; dsimp only; split <;> omega
  have Ol : ∀ i, n + 6 ≤ (Oi i).length := fun i => by rw [hOi]; dsimp only; rw [wl]; omega
  obtain ⟨jx, hjx⟩ : ∃ jx : Ex, jx = if K < S.length then .exit 0 else .norm := ⟨_, rfl⟩
  have key : ∀ Y : Rd, YLow 0 Y → (∀ i, i < K → Y (eArgs f (nth S i)) (Oi i) .norm (Oi (i + 1)) (n + 1)) → (K < S.length → Y (eArgs f (nth S K)) (Oi K) (.exit 0) (Oi K) (Oi K).length) → ∀ L, ∃ e s', (e = Ex.norm ∨ e = Ex.ret) ∧ SemL Try.prog (annOf [] [] [] false []) T_New 39 0 L Y eclo ⟨entryEnv [.fn (.yield L.l) [] [], .ptr (n + 3) 0 0, .ptr (n + 4) 0 0], [], E, E.length⟩ (e, s', jx) ∧ s'.objs = Oi K ∧ s'.low = lo K := by
    intro Y hY h1 h2 L
    obtain ⟨e, s', j', hsem, he, hj, ho', hl'⟩ := each_ok (T := T_New) (L := L) (Oi := Oi) (yl := fun _ => n + 1) (lo := lo) (K := K) (jx := .exit 0) (Ox := Oi K) (yx := (Oi K).length) (LB := n + 3) (KB := n + 4) (b := b) (c := c) (nv := nv) (hv := hv) (kv := kv) (tk := tk) (hg := hg) (X := X) (f := f) (ord := ord) (P := P) (S := S) (ht := ht) (tw := tw) (k := k) T_New_ok c_find hY F.I.lnk F.C F.I.nodeX k1 twl hE0 hE1 kd hfi (by rw [hE6, hOi]; rw [hxd, hyd, hzd]) (fun i _ => by rw [hOi]; exact ⟨w3 _ _ _, (wE _ _ _ _ _ (.inr rfl)).trans gh, (wE _ _ _ _ _ (.inl rfl)).trans gn⟩) h1 (by rw [lo0, lE]) (fun i _ => by rw [loS]; have := lo_le i; cases i with
      | zero => rw [lo0, if_pos (by omega)]
      | succ i => rw [loS, if_neg (by omega)]) (fun h => ⟨by simp, h2 h⟩)
    refine ⟨e, s', he, by rw [hj, ← hjx] at hsem; exact hsem, by rw [ho']; split <;> rfl, ?_⟩
    have := lo_le K
    have := Ol K
    rw [hl']
    split
    · rw [if_neg (by omega)]
    · rfl
  rw [baseOf_k]
  refine ToW.block (ToW.cut (CutOk.ofS (SemC.rangeFunc (A' := annOf [] [] [] false []) (objs' := Oi K) (low' := lo K) (j := jx) fit T_New_ok (fn := Try.f39) (by kernel_rfl) eclo_body (by kernel_rfl) e14 (by kernel_rfl) (by kernel_rfl) ?_) (fun x h => (by cases h))) ?_)
  · intro L
    rw [ho]
    refine key _ (roundY_low T_New_ok) ?_ ?_ L
    · intro i hi
      have hiS : i < S.length := by omega
      obtain ⟨j, hj⟩ : ∃ j, j = nth S i := ⟨_, rfl⟩
      have hjo : j ∈ ord := by rw [F.C.app, hj]; exact List.mem_append_right _ (nth_mem hiS)
      obtain ⟨hkj, kj8, kjl⟩ := F.I.lnk.key j hjo
      have hbel := k3 i hi
      have hnk : nth (kvs f S) i = ((f j).key, (f j).val) := by rw [hj]; exact nth_map hiS
      rw [hnk] at hbel
      obtain ⟨q, hq⟩ : ∃ q, q = (f j).key := ⟨_, rfl⟩
      obtain ⟨vl, hvl⟩ : ∃ vl, vl = (f j).val := ⟨_, rfl⟩
      obtain ⟨vk, hvk⟩ : ∃ vk, vk = (f j).kv := ⟨_, rfl⟩
      obtain ⟨cj, hcj⟩ : ∃ cj, cj = cl j := ⟨_, rfl⟩
      have hcj' := hcj
      rw [hcl] at hcj'
      dsimp only at hcj'
      have hya : eArgs f j = [vk, .int .i64 vl] := by rw [hvk, hvl]; rfl
      rw [← hj, hya]
      rw [← hq, ← hvl] at hbel
      rw [← hq, ← hvk] at hcj'
      rw [← hq] at kjl kj8 hkj
      rw [← hvk] at hkj
      obtain ⟨jd, jn, ji⟩ := bytesOk (objs := E) (ofIntsR_of hkj)
      have hkO : ∀ O, ofIntsR .u8 O vk = some q := fun O => ofIntsR_of hkj
      have huO : ∀ Z x y, ofIntsR .u8 (W x y Z) uv = some u := fun Z x y => by rw [hW]; exact ofIntsR_app hu
      have hcd : isDef cj = true ∧ cellsOf cj = [cj] ∧ oneCell cj = true ∧ demote cj = cj := by rw [hcj']; split <;> exact ⟨rfl, rfl, rfl, rfl⟩
      obtain ⟨hc1, hc2, hc3, hc4⟩ := hcd
      have l1 := llit1 hc1 hc2
      have l2 := ilit1 vl
      have hlenu : lenV Try.prog 30 uv = some (.int .i64 u.length) := (bsR hu).choose_spec.2.1
      have kcl : ∀ O, k_CloneR [vk] O = some (if isNils vk = true then .nils else .lst (.fresh 1 true) (ints .u8 q) q.length, none) := fun O => by
        simp [k_CloneR, hkO, bnd_pos, show q.length < 140737488355300 by omega]
      refine roundY_of2 (M := fun s => s.env 5 = .ptr n 0 0 ∧ s.env 8 = .ptr (n + 1) 0 0 ∧ s.env 9 = .ptr (n + 2) 0 0 ∧ s.env 10 = vk ∧ s.env 11 = .int .i64 vl ∧ s.toks = [] ∧ s.objs = Oi i ∧ s.low = (Oi i).length) rfl ?_ ?_
      · have hpe : parEnv (fun d => demote (s.env d)) #[15, 16].toList [vk, .int .i64 vl] = Ab.put (Ab.put (fun d => demote (s.env d)) (some 15) vk) (some 16) (.int .i64 vl) := rfl
        rw [hpe]
        simp -implicitDefEqProofs (disch := omega) [jd]
        exact ⟨rfl, by simp [e5], by simp [e8], by simp [e9], by simp, by simp, rfl, rfl, rfl⟩
      rintro z ⟨f5, f8, f9, f10, f11, ft, fo, fl⟩
      have fo' : z.objs = W (xd i) (yd i) (zd i) := by rw [fo, hOi]
      have fl' : z.low = n + 6 + (zd i).length := by rw [fl, hOi]; exact wl _ _ _
      refine To.block (To.seq (To.mono (Q := fun e s => e = .norm ∧ s.env 8 = .ptr (n + 1) 0 0 ∧ s.env 9 = .ptr (n + 2) 0 0 ∧ s.env 10 = vk ∧ s.env 11 = .int .i64 vl ∧ s.toks = [] ∧ s.objs = W (xd i) (yd i) (zd i) ∧ s.low = n + 6 + (zd i).length) ?_ ?_))
      · by_cases hu0 : u = []
        · have hu1 : u.length = 0 := by rw [hu0]; rfl
          simp -implicitDefEqProofs (disch := omega) [f5, f8, f9, f10, f11, ft, fo', fl', w0, ud, hlenu, hu1]
          exact ⟨rfl, by simp [f8], by simp [f9], by simp [f10], by simp [f11], by simp, rfl, rfl⟩
        · have hu1 : 0 < u.length := List.length_pos_iff.2 hu0
          have hu2 : 0 < (u.length : Int) := by omega
          have hcmp : cmpZ q u < 0 := by
            rcases of_decide_eq_true hbel with h | h
            · exact absurd h hu0
            · exact h
          have hcmp2 : ¬ 0 ≤ cmpB q u := by rw [cmpB_eq (b8_iff.1 kj8) (b8_iff.1 u8)]; omega
          simp -implicitDefEqProofs (disch := omega) [f5, f8, f9, f10, f11, ft, fo', fl', w0, ud, hlenu, hu1, hu2, c_Compare, k_Compare, hkO, huO, hcmp2, jd]
          exact ⟨rfl, by simp [f8], by simp [f9], by simp [f10], by simp [f11], by simp, rfl, rfl⟩
      · rintro e s ⟨rfl, g8, g9, g10, g11, gt, go, gl⟩
        show To _ _ _ _ _ _ _ _
        cases i with
        | zero =>
          have x0 : xd 0 = .nils := by rw [hxd]
          have y0 : yd 0 = .nils := by rw [hyd]
          have z0 : zd 0 = [] := by rw [hzd]
          have x1 : xd 1 = .ref (n + 6) 0 0 1 1 := by rw [hxd]
          have y1 : yd 1 = .ref (n + 7) 0 0 1 1 := by rw [hyd]
          have tk1 : S.take 1 = [j] := by rw [hj]; cases S with | nil => simp at hiS | cons a l => simp [nth]
          have z1 : zd 1 = [.cells [cj] 0, .cells [.int .i64 vl] 0] := by
            rw [hzd]
            show [AO.cells (kcs 1) 0, .cells (ints .i64 (vcs 1)) 0] = _
            rw [hkcs, hvcs]
            dsimp only
            rw [tk1, hcj, hvl]; rfl
          rw [x0, y0, z0] at go
          rw [z0] at gl
          have gl : s.low = n + 6 := by simpa using gl
          have O1 : Oi 1 = W (.ref (n + 6) 0 0 1 1) (.ref (n + 7) 0 0 1 1) [.cells [cj] 0, .cells [.int .i64 vl] 0] := by rw [hOi]; dsimp only; rw [x1, y1, z1]
          rw [O1]
          by_cases hnl : isNils vk = true
          · rw [if_pos hnl] at hcj'
            subst hcj'
            simp -implicitDefEqProofs (disch := omega) [g8, g9, g10, g11, gt, go, gl, jd, w1, w2, wl, wa, s1, s2, setCells, c_CloneR, kcl, hnl, l1, l2]
            exact ⟨rfl, rfl, rfl⟩
          · have hnl := Bool.eq_false_iff.2 hnl
            rw [if_neg (by rw [hnl]; simp)] at hcj'
            subst hcj'
            simp -implicitDefEqProofs (disch := omega) [g8, g9, g10, g11, gt, go, gl, jd, w1, w2, wl, wa, s1, s2, setCells, c_CloneR, kcl, hnl, l1, l2]
            exact ⟨rfl, rfl, rfl⟩
        | succ i =>
          have x0 : xd (i + 1) = .ref (n + 6) i 0 (i + 1) 1 := by rw [hxd]
          have y0 : yd (i + 1) = .ref (n + 7) i 0 (i + 1) 1 := by rw [hyd]
          have z0 : zd (i + 1) = [.cells (kcs (i + 1)) i, .cells (ints .i64 (vcs (i + 1))) i] := by rw [hzd]
          have x1 : xd (i + 1 + 1) = .ref (n + 6) (i + 1) 0 (i + 1 + 1) 1 := by rw [hxd]
          have y1 : yd (i + 1 + 1) = .ref (n + 7) (i + 1) 0 (i + 1 + 1) 1 := by rw [hyd]
          have tkS : S.take (i + 1 + 1) = S.take (i + 1) ++ [j] := by rw [hj]; exact take_nth hiS
          have z1 : zd (i + 1 + 1) = [.cells (kcs (i + 1) ++ [cj]) (i + 1), .cells (ints .i64 (vcs (i + 1)) ++ [.int .i64 vl]) (i + 1)] := by
            rw [hzd]
            show [AO.cells (kcs (i + 1 + 1)) (i + 1), .cells (ints .i64 (vcs (i + 1 + 1))) (i + 1)] = _
            rw [hkcs, hvcs]
            dsimp only
            rw [tkS, hcj, hvl]; simp [ints]
          have lk : (kcs (i + 1)).length = i + 1 := by rw [hkcs]; simp; omega
          have lv : (vcs (i + 1)).length = i + 1 := by rw [hvcs]; simp; omega
          obtain ⟨ks, hks⟩ : ∃ ks, ks = kcs (i + 1) := ⟨_, rfl⟩
          obtain ⟨vs, hvs⟩ : ∃ vs, vs = vcs (i + 1) := ⟨_, rfl⟩
          rw [← hks] at lk z0 z1
          rw [← hvs] at lv z0 z1
          rw [x0, y0, z0] at go
          rw [z0] at gl
          have gl : s.low = n + 8 := by simpa using gl
          have O1 : Oi (i + 1 + 1) = W (.ref (n + 6) (i + 1) 0 (i + 1 + 1) 1) (.ref (n + 7) (i + 1) 0 (i + 1 + 1) 1) [.cells (ks ++ [cj]) (i + 1), .cells (ints .i64 vs ++ [.int .i64 vl]) (i + 1)] := by rw [hOi]; dsimp only; rw [x1, y1, z1]
          rw [O1]
          by_cases hnl : isNils vk = true
          · rw [if_pos hnl] at hcj'
            subst hcj'
            simp -implicitDefEqProofs (disch := omega) [g8, g9, g10, g11, gt, go, gl, jd, w1, w2, w6, w7, wl, wa, s1, s2, s6, s7, setCells, c_CloneR, kcl, hnl, l1, l2, lk, lv]
            exact ⟨rfl, rfl, rfl⟩
          · have hnl := Bool.eq_false_iff.2 hnl
            rw [if_neg (by rw [hnl]; simp)] at hcj'
            subst hcj'
            simp -implicitDefEqProofs (disch := omega) [g8, g9, g10, g11, gt, go, gl, jd, w1, w2, w6, w7, wl, wa, s1, s2, s6, s7, setCells, c_CloneR, kcl, hnl, l1, l2, lk, lv]
            exact ⟨rfl, rfl, rfl⟩
    · intro hiS
      obtain ⟨i, hi⟩ : ∃ i, i = K := ⟨_, rfl⟩
      rw [← hi] at hiS ⊢
      obtain ⟨j, hj⟩ : ∃ j, j = nth S i := ⟨_, rfl⟩
      have hjo : j ∈ ord := by rw [F.C.app, hj]; exact List.mem_append_right _ (nth_mem hiS)
      obtain ⟨hkj, kj8, kjl⟩ := F.I.lnk.key j hjo
      have hbel := k4 (by rw [← hi]; exact hiS)
      rw [← hi] at hbel
      have hnk : nth (kvs f S) i = ((f j).key, (f j).val) := by rw [hj]; exact nth_map hiS
      rw [hnk] at hbel
      obtain ⟨q, hq⟩ : ∃ q, q = (f j).key := ⟨_, rfl⟩
      obtain ⟨vl, hvl⟩ : ∃ vl, vl = (f j).val := ⟨_, rfl⟩
      obtain ⟨vk, hvk⟩ : ∃ vk, vk = (f j).kv := ⟨_, rfl⟩
      have hya : eArgs f j = [vk, .int .i64 vl] := by rw [hvk, hvl]; rfl
      rw [← hj, hya]
      rw [← hq, ← hvl] at hbel
      rw [← hq] at kjl kj8 hkj
      rw [← hvk] at hkj
      obtain ⟨jd, jn, ji⟩ := bytesOk (objs := E) (ofIntsR_of hkj)
      have hkO : ∀ O, ofIntsR .u8 O vk = some q := fun O => ofIntsR_of hkj
      have huO : ∀ Z x y, ofIntsR .u8 (W x y Z) uv = some u := fun Z x y => by rw [hW]; exact ofIntsR_app hu
      refine roundY_of2 (M := fun s => s.env 5 = .ptr n 0 0 ∧ s.env 8 = .ptr (n + 1) 0 0 ∧ s.env 9 = .ptr (n + 2) 0 0 ∧ s.env 10 = vk ∧ s.env 11 = .int .i64 vl ∧ s.toks = [] ∧ s.objs = Oi i ∧ s.low = (Oi i).length) rfl ?_ ?_
      · have hpe : parEnv (fun d => demote (s.env d)) #[15, 16].toList [vk, .int .i64 vl] = Ab.put (Ab.put (fun d => demote (s.env d)) (some 15) vk) (some 16) (.int .i64 vl) := rfl
        rw [hpe]
        simp -implicitDefEqProofs (disch := omega) [jd]
        exact ⟨rfl, by simp [e5], by simp [e8], by simp [e9], by simp, by simp, rfl, rfl, rfl⟩
      rintro z ⟨f5, f8, f9, f10, f11, ft, fo, fl⟩
      have fo' : z.objs = W (xd i) (yd i) (zd i) := by rw [fo, hOi]
      have fl' : z.low = n + 6 + (zd i).length := by rw [fl, hOi]; exact wl _ _ _
      have hu0 : ¬ u = [] := fun h => by unfold belowH at hbel; rw [h] at hbel; simp at hbel
      have hu1 : 0 < u.length := List.length_pos_iff.2 hu0
      have hu2 : 0 < (u.length : Int) := by omega
      have hcmp : ¬ cmpZ q u < 0 := fun h => of_decide_eq_false hbel (.inr h)
      have hcmp2 : 0 ≤ cmpB q u := by rw [cmpB_eq (b8_iff.1 kj8) (b8_iff.1 u8)]; omega
      have hlenu : lenV Try.prog 30 uv = some (.int .i64 u.length) := (bsR hu).choose_spec.2.1
      simp -implicitDefEqProofs (disch := omega) [f5, f8, f9, f10, f11, ft, fo', fl', w0, ud, hlenu, hu1, hu2, c_Compare, k_Compare, hkO, huO, hcmp2, jd]
      rw [hOi]
      exact ⟨rfl, rfl, (wl _ _ _).symm⟩
  · have o1 : Ab.getObj (Oi K) (n + 1) 0 = some [xd K] := by rw [hOi]; exact w1 _ _ _
    have o2 : Ab.getObj (Oi K) (n + 2) 0 = some [yd K] := by rw [hOi]; exact w2 _ _ _
    have xdd : demote (xd K) = xd K ∧ demote (yd K) = yd K := by rw [hxd, hyd]; cases K <;> exact ⟨rfl, rfl⟩
    have hkey : ∀ j ∈ S.take K, ofInts .u8 (cl j) = some (f j).key ∧ noref 0 (cl j) = true := fun j hj => by
      have hjo : j ∈ ord := by rw [F.C.app]; exact List.mem_append_right _ (List.mem_of_mem_take hj)
      obtain ⟨hkj, -⟩ := F.I.lnk.key j hjo
      rw [hcl]
      dsimp only
      split
      · rename_i hnl
        have : (f j).kv = .nils := by
          rcases ofInts_inv hkj with e | ⟨e, -⟩
          · rw [e] at hnl; cases hnl
          · exact e
        rw [this] at hkj
        exact ⟨hkj, rfl⟩
      · exact ⟨ofInts_lst rfl, by simp [noref]⟩
    have rk : (rangeM m k u).map (·.1) = (S.take K).map fun j => (f j).key := by rw [hres]; unfold kvs; rw [← List.map_take, List.map_map]; rfl
    have rv : (rangeM m k u).map (·.2) = vcs K := by rw [hres, hvcs]; unfold kvs; rw [← List.map_take, List.map_map]; rfl
    have lk : (kcs K).length = K := by rw [hkcs]; simp; omega
    have lv : (vcs K).length = K := by rw [hvcs]; simp; omega
    have fin : ∀ low', RangeP objs m k u (V.tup [xd K, yd K], some (Oi K, low')) := fun low' => by
      have hold : Old objs (Oi K) := by rw [hOi]; exact wold _ _ _
      refine ⟨Oi K, low', xd K, yd K, rfl, hold, ?_⟩
      rw [rk, rv]
      have hnr : norefs 0 (kcs K) = true := norefs_iff.2 fun v hv => by
        rw [hkcs] at hv
        obtain ⟨j, hj, rfl⟩ := List.mem_map.1 hv
        exact (hkey j hj).2
      have hkl : ofCells (ofInts .u8) (kcs K) = some ((S.take K).map fun j => (f j).key) := by
        rw [hkcs]
        exact cells_all fun j hj => (hkey j hj).1
      rw [hOi]
      dsimp only
      cases hKK : K with
      | zero =>
        subst hKK
        have x0 : xd 0 = .nils := by rw [hxd]
        have y0 : yd 0 = .nils := by rw [hyd]
        rw [x0, y0]
        exact ⟨rfl, rfl, by rw [List.eq_nil_of_length_eq_zero lv]; rfl⟩
      | succ i =>
        subst hKK
        have x0 : xd (i + 1) = .ref (n + 6) i 0 (i + 1) 1 := by rw [hxd]
        have y0 : yd (i + 1) = .ref (n + 7) i 0 (i + 1) 1 := by rw [hyd]
        have z0 : zd (i + 1) = [.cells (kcs (i + 1)) i, .cells (ints .i64 (vcs (i + 1))) i] := by rw [hzd]
        have e1 : ((kcs (i + 1)).drop 0).take (i + 1) = kcs (i + 1) := by rw [List.drop_zero, List.take_of_length_le (by omega)]
        have e2 := toldV_ref (objs := W (xd (i + 1)) (yd (i + 1)) (zd (i + 1))) (id := n + 6) (ver := i) (off := 0) (n := i + 1) (cs := kcs (i + 1)) (by rw [z0]; exact w6 _ _ _ _ _) (by omega) (by rw [e1]; exact hnr)
        rw [e1, ← x0] at e2
        refine ⟨by rw [e2]; simp [noref, hnr], by rw [e2]; exact ofList_lst hkl lk.symm, ?_⟩
        rw [y0, z0]
        exact ofIntsR_ref (w7 _ _ _ _ _) lv.symm
    by_cases hK : K < S.length
    · rw [hjx, if_pos hK]
      show ToW _ _ _ _ _ _ _ _
      refine .of ?_
      simp -implicitDefEqProofs (disch := omega) [e8, e9, ht', o1, o2, xdd.1, xdd.2]
      exact goal _ (fin _)
    · rw [hjx, if_neg hK]
      show ToW _ _ _ _ _ _ _ _
      refine .of ?_
      simp -implicitDefEqProofs (disch := omega) [e8, e9, ht', o1, o2, xdd.1, xdd.2]
      exact goal _ (fin _)

end Go.Proofs.Ytdfcbophcfjakaa.B
set_option maxRecDepth 20000
set_option maxHeartbeats 1000000
namespace Go.Proofs.Ytdfcbophcfjakaa.B
open Go Go.Ab
/-! Seek, its result told -/
def SeekTP (objs : List AO) (m : Kvs) (k : List Int) (r : Rs) : Prop := match highM m k with
  | [] => ∃ objs' low', r = (.tup [.nils, .int .i64 0, .bool false], some (objs', low')) ∧ Old objs objs'
  | e :: _ => ∃ objs' low', r = (.tup [.lst .frozen (ints .u8 e.1) e.1.length, .int .i64 e.2, .bool true], some (objs', low')) ∧ Old objs objs'
def p_SeekT : List V → List AO → Rs → Prop := fun args objs r => ∀ b m hs tk hg kv k, args = [.ptr (b + 1) 0 0, kv] → SkM objs b m hs tk hg → ofIntsR .u8 objs kv = some k → SeekTP objs m k r
noncomputable def k_SeekT : Ab.Spec := relF (fun a o r => p_SeekT a o r ∧ EndsW Try.prog (annOf [14,16] [] [] true [22]) T_Range 18 Try.f18 a o r)
noncomputable def T_SeekT : CallF := withF T_Range 18 k_SeekT
theorem T_SeekT_ok : CallOk Try.prog T_SeekT := con_ofW (A := annOf [14,16] [] [] true [22]) fit T_Range_ok (fn := Try.f18) (by kernel_rfl) (by kernel_rfl) (fun args objs r h0 => (relF_inv h0).2)
theorem s_SeekT  {objs : List AO} {b : Nat} {m : Kvs} {hs : List Int} {tk : Nat} {hg : Int} {kv : V} {k : List Int} (M : SkM objs b m hs tk hg) (hk : ofIntsR .u8 objs kv = some k) (k8 : b8 k = true) (kl : k.length < 140737488355000) : ∃ r, k_SeekT [.ptr (b + 1) 0 0, kv] objs = some r ∧ p_SeekT [.ptr (b + 1) 0 0, kv] objs r := by
  have c_find : ∀ a o, T_Range 36 a o = k_find a o := fun _ _ => rfl
  have c_Each : ∀ a o, T_Range 22 a o = k_Each a o := fun _ _ => rfl
  have goal : ∀ r : Rs, SeekTP objs m k r → p_SeekT [.ptr (b + 1) 0 0, kv] objs r := by
    intro r hr b' m' hs' tk' hg' kv' k' e M' hk'
    simp only [List.cons.injEq, and_true, V.ptr.injEq] at e
    obtain ⟨e, rfl⟩ := e
    have e : b = b' := by omega
    subst e
    rw [hk] at hk'
    cases hk'
    obtain ⟨rfl, -⟩ := M.uniq M'
    exact hr
  obtain ⟨n, hn⟩ : ∃ n, n = objs.length := ⟨_, rfl⟩
  obtain ⟨kd, kc, ki⟩ := bytesOk hk
  obtain ⟨E3, hE3⟩ : ∃ E3, E3 = objs ++ [.cells [.nils] 0, .cells [.int .i64 0] 0, .cells [.bool false] 0] := ⟨_, rfl⟩
  have l3 : E3.length = n + 3 := by rw [hE3, hn]; simp
  obtain ⟨E, hE⟩ : ∃ E, E = E3 ++ [.cells [.ptr (b + 1) 0 0] 0, .cells [kv] 0] := ⟨_, rfl⟩
  have lE : E.length = n + 5 := by rw [hE, List.length_append, l3]; rfl
  have oldE : Old objs E := by rw [hE, hE3, List.append_assoc]; exact Old.ext _ _
  have hkE : ofIntsR .u8 E kv = some k := by rw [hE, hE3]; exact ofIntsR_app (ofIntsR_app hk)
  obtain ⟨c, f, ord, ht, nv, hv, X, P, S, F⟩ := found (M.old oldE) hkE k8 kl
  have hhi : highM m k = kvs f S := by rw [F.mm]; exact (cut_kvs F.C).2
  have hfi := F.find
  obtain ⟨tw, htw⟩ : ∃ tw, tw = twL fun h => (atH ht h P : Int) := ⟨_, rfl⟩
  have twl : tw.length = 12 := by rw [htw, twL_len]
  rw [← htw] at hfi
  obtain ⟨W, hW⟩ : ∃ W : V → V → V → List AO → List AO, W = fun x y z Z => objs ++ (.cells [x] 0 :: .cells [y] 0 :: .cells [z] 0 :: .cells [.ptr (b + 1) 0 0] 0 :: .cells [kv] 0 :: .cells (ints .i64 tw) 0 :: Z) := ⟨_, rfl⟩
  have wl : ∀ x y z Z, (W x y z Z).length = n + 6 + Z.length := fun x y z Z => by rw [hW, hn]; simp; omega
  have w0 : ∀ x y z Z, Ab.getObj (W x y z Z) n 0 = some [x] := fun x y z Z => by rw [hW, hn]; simp
  have w1 : ∀ x y z Z, Ab.getObj (W x y z Z) (n + 1) 0 = some [y] := fun x y z Z => by rw [hW, hn]; simp
  have w2 : ∀ x y z Z, Ab.getObj (W x y z Z) (n + 2) 0 = some [z] := fun x y z Z => by rw [hW, hn]; simp
  have w3 : ∀ x y z Z, Ab.getObj (W x y z Z) (n + 3) 0 = some [.ptr (b + 1) 0 0] := fun x y z Z => by rw [hW, hn]; simp
  have s0 : ∀ x y z Z x', (W x y z Z).set n (.cells [x'] 0) = W x' y z Z := fun x y z Z x' => by rw [hW, hn]; simp
  have s1 : ∀ x y z Z x', (W x y z Z).set (n + 1) (.cells [x'] 0) = W x x' z Z := fun x y z Z x' => by
    rw [hW, hn]
    show (objs ++ _).set (objs.length + 1) _ = _
    rw [List.set_append_right _ _ (by omega), Nat.add_sub_cancel_left]; rfl
  have s2 : ∀ x y z Z x', (W x y z Z).set (n + 2) (.cells [x'] 0) = W x y x' Z := fun x y z Z x' => by
    rw [hW, hn]
    show (objs ++ _).set (objs.length + 2) _ = _
    rw [List.set_append_right _ _ (by omega), Nat.add_sub_cancel_left]; rfl
  have wold : ∀ x y z Z, Old objs (W x y z Z) := fun x y z Z => by rw [hW]; exact Old.ext _ _
  have hE6 : E ++ [.cells (ints .i64 tw) 0] = W .nils (.int .i64 0) (.bool false) [] := by rw [hE, hE3, hW]; simp
  have wE : ∀ x y z Z (id : Nat) (v : Nat), (id = b ∨ id = b + 1) → Ab.getObj (W x y z Z) id v = Ab.getObj E id v := fun x y z Z id v hid => by
    have := M.lt
    rw [(wold x y z Z).2 _ _ (by omega), oldE.2 _ _ (by omega)]
  have gh := getObj_of F.I.head
  have gn := getObj_of F.I.nodes
  have hE0 : Ab.getObj E (n + 3) 0 = some [.ptr (b + 1) 0 0] := by rw [hE, ← l3]; simp
  have hE1 : Ab.getObj E (n + 4) 0 = some [kv] := by
    have := getObj_add (objs := E3) (l := [.cells [.ptr (b + 1) 0 0] 0, .cells [kv] 0]) (k := 1) (v := 0)
    rw [l3] at this
    rw [hE]; exact this
  refine rel_go _ rfl rfl ?_
  refine ToW.front (M := fun s => s.env 0 = .ptr (b + 1) 0 0 ∧ s.env 1 = kv ∧ s.env 4 = .ptr n 0 0 ∧ s.env 5 = .ptr (n + 1) 0 0 ∧ s.env 6 = .ptr (n + 2) 0 0 ∧ s.toks = [] ∧ s.objs = E3) ?_ ?_
  · simp -implicitDefEqProofs (disch := omega) [← hn]
    exact ⟨rfl, by simp, by simp, by simp, by simp, by simp, rfl, by rw [hE3]⟩
  rintro s ⟨e0, e1, e4, e5, e6, ht', ho⟩
  refine ToW.seq (ToW.front (M := fun s => s.env 4 = .ptr n 0 0 ∧ s.env 5 = .ptr (n + 1) 0 0 ∧ s.env 6 = .ptr (n + 2) 0 0 ∧ s.env 11 = .fn (.func 39) [] [.ptr (n + 3) 0 0, .ptr (n + 4) 0 0] ∧ s.toks = [] ∧ s.objs = E) ?_ ?_)
  · have kp : k_Each [.ptr (b + 1) 0 0, kv] E3 = some (.fn (.func 39) [] [.ptr (n + 3) 0 0, .ptr (n + 4) 0 0], some (E, n + 3)) := by
      simp [-isDef_eq, -cellsOf_eq, k_Each, con2, kd, kc, ki, hE, l3, pre_pos]
    simp -implicitDefEqProofs (disch := omega) [e0, e1, e4, e5, e6, ht', ho, kd, c_Each, kp]
    exact ⟨rfl, by simp [e4], by simp [e5], by simp [e6], by simp, rfl, rfl⟩
  clear e0 e1 e4 e5 e6 ht' ho
  clear s
  rintro s ⟨e4, e5, e6, e11, ht', ho⟩
  cases hS : S with
  | nil =>
    rw [hS] at hfi
    refine ToW.block (ToW.cut (CutOk.ofS (SemC.rangeFunc (A' := annOf [] [] [] false []) (objs' := W .nils (.int .i64 0) (.bool false) []) (low' := E.length) (j := .norm) fit T_Range_ok (fn := Try.f39) (by kernel_rfl) eclo_body (by kernel_rfl) e11 (by kernel_rfl) (by kernel_rfl) ?_) (fun x h => (by cases h))) ?_)
    · intro L
      rw [ho]
      obtain ⟨e, s', j, hsem, he, hj, ho', hl'⟩ := each_ok (T := T_Range) (L := L) (Oi := fun _ => W .nils (.int .i64 0) (.bool false) []) (yl := fun _ => 0) (lo := fun _ => E.length) (K := 0) (jx := .norm) (Ox := []) (yx := 0) (LB := n + 3) (KB := n + 4) (b := b) (c := c) (nv := nv) (hv := hv) (kv := kv) (tk := tk) (hg := hg) (X := X) (f := f) (ord := ord) (P := P) (S := []) (ht := ht) (tw := tw) (k := k) T_Range_ok c_find (roundY_low T_Range_ok) F.I.lnk (by rw [← hS]; exact F.C) F.I.nodeX (Nat.zero_le _) twl hE0 hE1 kd hfi hE6.symm (fun i _ => ⟨w3 _ _ _ _, (wE _ _ _ _ _ _ (.inr rfl)).trans gh, (wE _ _ _ _ _ _ (.inl rfl)).trans gn⟩) (fun i hi => absurd hi (Nat.not_lt_zero _)) rfl (fun i hi => absurd hi (Nat.not_lt_zero _)) (fun h => absurd h (Nat.lt_irrefl _))
      exact ⟨e, s', he, by rw [hj] at hsem; exact hsem, ho', hl'⟩
    · show ToW _ _ _ _ _ _ _ _
      refine .of ?_
      simp -implicitDefEqProofs (disch := omega) [e4, e5, e6, ht', w0, w1, w2, s0, s1, s2, setCells]
      refine goal _ ?_
      unfold SeekTP
      rw [hhi, hS]
      exact ⟨_, _, rfl, wold _ _ _ _⟩
  | cons j l =>
    have hjo : j ∈ ord := by rw [F.C.app, hS]; simp
    obtain ⟨j0, jc⟩ := F.I.lnk.mem j hjo
    obtain ⟨hkj, kj8, kjl⟩ := F.I.lnk.key j hjo
    obtain ⟨jd, jn, ji⟩ := bytesOk (objs := E) (ofIntsR_of hkj)
    obtain ⟨q, hq⟩ : ∃ q, q = (f j).key := ⟨_, rfl⟩
    obtain ⟨vl, hvl⟩ : ∃ vl, vl = (f j).val := ⟨_, rfl⟩
    obtain ⟨vk, hvk⟩ : ∃ vk, vk = (f j).kv := ⟨_, rfl⟩
    rw [hS] at hfi
    have key : ∀ Y : Rd, YLow 0 Y → Y (eArgs f j) (W .nils (.int .i64 0) (.bool false) []) .ret (W (.lst .frozen (ints .u8 q) q.length) (.int .i64 vl) (.bool true) []) n → ∀ L, ∃ e s', (e = Ex.norm ∨ e = Ex.ret) ∧ SemL Try.prog (annOf [] [] [] false []) T_Range 39 0 L Y eclo ⟨entryEnv [.fn (.yield L.l) [] [], .ptr (n + 3) 0 0, .ptr (n + 4) 0 0], [], E, E.length⟩ (e, s', .ret) ∧ s'.objs = (W (.lst .frozen (ints .u8 q) q.length) (.int .i64 vl) (.bool true) []) ∧ s'.low = n := by
      intro Y hY h2 L
      obtain ⟨e, s', j', hsem, he, hj, ho', hl'⟩ := each_ok (T := T_Range) (L := L) (Oi := fun _ => W .nils (.int .i64 0) (.bool false) []) (yl := fun _ => 0) (lo := fun _ => E.length) (K := 0) (jx := .ret) (Ox := W (.lst .frozen (ints .u8 q) q.length) (.int .i64 vl) (.bool true) []) (yx := n) (LB := n + 3) (KB := n + 4) (b := b) (c := c) (nv := nv) (hv := hv) (kv := kv) (tk := tk) (hg := hg) (X := X) (f := f) (ord := ord) (P := P) (S := j :: l) (ht := ht) (tw := tw) (k := k) T_Range_ok c_find hY F.I.lnk (by rw [← hS]; exact F.C) F.I.nodeX (Nat.zero_le _) twl hE0 hE1 kd hfi hE6.symm (fun i _ => ⟨w3 _ _ _ _, (wE _ _ _ _ _ _ (.inr rfl)).trans gh, (wE _ _ _ _ _ _ (.inl rfl)).trans gn⟩) (fun i hi => absurd hi (Nat.not_lt_zero _)) rfl (fun i hi => absurd hi (Nat.not_lt_zero _)) (fun h => ⟨by simp, h2⟩)
      rw [if_pos (show 0 < (j :: l).length from Nat.succ_pos _)] at hj ho' hl'
      exact ⟨e, s', he, by rw [hj] at hsem; exact hsem, ho', by rw [hl', if_pos (by omega)]⟩
    rw [baseOf_k]
    refine ToW.block (ToW.cut (CutOk.ofS (SemC.rangeFunc (A' := annOf [] [] [] false []) (objs' := W (.lst .frozen (ints .u8 q) q.length) (.int .i64 vl) (.bool true) []) (low' := n) (j := .ret) fit T_Range_ok (fn := Try.f39) (by kernel_rfl) eclo_body (by kernel_rfl) e11 (by kernel_rfl) (by kernel_rfl) ?_) (fun x h => (by cases h))) ?_)
    · intro L
      rw [ho]
      refine key _ (roundY_low T_Range_ok) ?_ L
      have hya : eArgs f j = [vk, .int .i64 vl] := by rw [hvk, hvl]; rfl
      rw [hya]
      refine roundY_of2 (M := fun s => s.env 4 = .ptr n 0 0 ∧ s.env 5 = .ptr (n + 1) 0 0 ∧ s.env 6 = .ptr (n + 2) 0 0 ∧ s.env 7 = vk ∧ s.env 8 = .int .i64 vl ∧ s.toks = [] ∧ s.objs = W .nils (.int .i64 0) (.bool false) [] ∧ s.low = n + 6) rfl ?_ ?_
      · have hpe : parEnv (fun d => demote (s.env d)) #[12, 13].toList [vk, .int .i64 vl] = Ab.put (Ab.put (fun d => demote (s.env d)) (some 12) vk) (some 13) (.int .i64 vl) := rfl
        rw [hpe]
        rw [← hvk] at jd
        simp -implicitDefEqProofs (disch := omega) [jd]
        exact ⟨rfl, by simp [e4], by simp [e5], by simp [e6], by simp, by simp, rfl, rfl, wl _ _ _ _⟩
      rintro z ⟨f4, f5, f6, f7, f8, ft, fo, fl⟩
      rw [← hvk] at hkj
      rw [← hq] at hkj kjl
      obtain ⟨-, -, -, jx, -⟩ := bs hkj
      simp -implicitDefEqProofs (disch := omega) [f4, f5, f6, f7, f8, ft, fo, fl, w0, w1, w2, s0, s1, s2, setCells, blit0, Nat.mod_one, wl, jx, jd, jn]
      exact ⟨rfl, rfl, rfl⟩
    · show FinP _ _ _ _ _ _ _ _
      simp -implicitDefEqProofs (disch := omega) [FinP, e4, e5, e6, ht', w0, w1, w2]
      refine ⟨.inr rfl, goal _ ?_⟩
      unfold SeekTP
      rw [hhi, hS]
      show ∃ objs' low', _ = (V.tup [.lst .frozen (ints .u8 (f j).key) (f j).key.length, .int .i64 (f j).val, .bool true], some (objs', low')) ∧ Old objs objs'
      rw [← hq, ← hvl]
      exact ⟨_, _, rfl, wold _ _ _ _⟩

end Go.Proofs.Ytdfcbophcfjakaa.B
