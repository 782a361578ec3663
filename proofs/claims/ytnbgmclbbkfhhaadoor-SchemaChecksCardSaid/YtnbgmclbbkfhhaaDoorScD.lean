import Derived.Test.YtnbgmclbbkfhhaaDoorScC
set_option linter.unusedSimpArgs false
set_option linter.unusedVariables false
set_option linter.unusedSectionVars false
set_option maxRecDepth 20000
set_option maxHeartbeats 1000000
namespace Go.Proofs.YtnbgmclbbkfhhaaDoor.B
open Go Go.Ab
/-! sets of columns -/
structure Se where
  c : Int
  x : Ce
instance : Inhabited Se := ⟨⟨0, default⟩⟩
def seV (s : Se) : List V := .int .i64 s.c :: ceV s.x
def seOk (objs : List AO) (s : Se) : Bool := i64B s.c && ceOk objs s.x
def seD (objs : List AO) : List V → Option Se
  | [.int .i64 c, .bool n, .int .i64 i, v] => if seOk objs ⟨c, n, i, v⟩ = true then some ⟨c, n, i, v⟩ else none
  | _ => none
theorem seV_len (c : Se) : (seV c).length = 4 := rfl
theorem seD_inv {objs : List AO} (x : List V) (c : Se) (h : seD objs x = some c) : x = seV c := by
  unfold seD at h; split at h
  · split at h <;> cases h; rfl
  · cases h
theorem seD_ok {objs : List AO} {c : Se} : seD objs (seV c) = some c ↔ seOk objs c = true := by
  show (if seOk objs c = true then some c else none) = some c ↔ _
  split <;> simp_all
theorem seOk_inv {objs : List AO} {s : Se} (h : seOk objs s = true) : i64B s.c = true ∧ ceOk objs s.x = true := by unfold seOk at h; rwa [Bool.and_eq_true] at h
theorem se_old {objs O : List AO} {s : Se} (h : seOk objs s = true) (ho : Old objs O) : seOk O s = true := by
  obtain ⟨h1, h2⟩ := seOk_inv h
  unfold seOk; rw [h1, (ce_old h2 ho).1]; rfl
def setsR (objs : List AO) (v : V) : Option (List Se) := recR (seD objs) 4 objs v
theorem setsR_inv {objs : List AO} {v : V} {l : List Se} (h : setsR objs v = some l) : RowV objs 4 v (flatV seV l) l.length ∧ ∀ x ∈ l, seOk objs x = true :=
  ⟨recR_inv seV_len seD_inv h, fun x hx => seD_ok.1 (recR_mem seV_len seD_inv h x hx)⟩
theorem setsR_of {objs : List AO} {v : V} {l : List Se} (h : RowV objs 4 v (flatV seV l) l.length) (hk : ∀ x ∈ l, seOk objs x = true) : setsR objs v = some l := h.rec seV_len fun x hx => seD_ok.2 (hk x hx)
theorem setsR_old {objs O : List AO} {v : V} {l : List Se} (h : setsR objs v = some l) (ho : Old objs O) : setsR O v = some l := by
  obtain ⟨h1, h2⟩ := setsR_inv h
  exact setsR_of (h1.old ho) fun x hx => se_old (h2 x hx) ho
theorem set_f0 (v : V) (cs : List V) (j : Nat) : fieldAddrV Tryd.prog 84 (ptAt v cs j) 0 = some (ptAt v cs j) := by cases v <;> simp [ptAt, fieldAddrV]
theorem set_f1 (v : V) (cs : List V) (j : Nat) : fieldAddrV Tryd.prog 84 (ptAt v cs j) 1 = some (ptAt v cs (j + 1)) := by cases v <;> simp [ptAt, fieldAddrV, Nat.add_assoc]
theorem set_at {objs : List AO} {v : V} {l : List Se} (h : RowV objs 4 v (flatV seV l) l.length) {i : Nat} (hi : i < l.length) :
    loadV Tryd.prog 84 objs (ptAt v (flatV seV l) (i * 4)) = some (.agg (seV (nth l i))) ∧ loadV Tryd.prog 3 objs (ptAt v (flatV seV l) (i * 4)) = some (.int .i64 (nth l i).c) ∧
    loadV Tryd.prog 82 objs (ptAt v (flatV seV l) (i * 4 + 1)) = some (.agg (ceV (nth l i).x)) ∧ loadV Tryd.prog 59 objs (ptAt v (flatV seV l) (i * 4 + 3)) = some (demote (nth l i).x.v) := by
  have hf := flatV_fit seV_len hi
  have ha := flatV_at seV_len hi
  refine ⟨?_, ?_, ?_, ?_⟩
  · rw [h.agg (n := 4) g84 hf, ha]
  · exact h.get g3 (x := .int .i64 (nth l i).c) (by have := flatV_get (j := 0) seV_len hi (by omega); simpa [seV] using this)
  · rw [h.agg (n := 3) g82 (by omega)]
    have : ((flatV seV l).drop (i * 4 + 1)).take 3 = ceV (nth l i).x := by
      rw [← List.drop_drop, show ((flatV seV l).drop (i * 4)).drop 1 = ((flatV seV l).drop (i * 4)).drop 1 from rfl]
      have e2 : (((flatV seV l).drop (i * 4)).take 4).drop 1 = ceV (nth l i).x := by rw [ha]; rfl
      rw [List.drop_take] at e2
      exact e2
    rw [this]
  · exact h.get g59 (x := (nth l i).x.v) (by have := flatV_get (j := 3) seV_len hi (by omega); simpa [seV, ceV] using this)
theorem setsF {objs : List AO} {v : V} {l : List Se} (h : setsR objs v = some l) : RowV objs 4 v (flatV seV l) l.length ∧ demote v = v ∧ lenV Tryd.prog 26 v = some (.int .i64 l.length) ∧ (∀ i : Nat, i < l.length → indexV Tryd.prog 26 v (.int .i64 i) = some (ptAt v (flatV seV l) (i * 4))) ∧ ∀ i, i < l.length → seOk objs (nth l i) = true := by
  obtain ⟨h1, h2⟩ := setsR_inv h
  refine ⟨h1, h1.dem, h1.size (P := Tryd.prog) u26, fun i hi => ?_, fun i hi => h2 _ (nth_mem hi)⟩
  have := h1.idx (P := Tryd.prog) u26 z84 .i64 i (by omega) (by omega)
  rwa [Int.toNat_natCast] at this
def misB (cols : List Co) (K a c : Int) : Bool := decide (c ≤ a ∨ c < K ∨ (cols.length : Int) ≤ c)
noncomputable def k_misplaced : Ab.Spec := con3 some (ofInt .i64) (ofInt .i64) fun s a c objs => match schD objs s with
  | some (cols, K) => some (.bool (misB cols K a c), none)
  | none => none
noncomputable def T_misplaced : CallF := withF T_rKey 56 k_misplaced
theorem T_misplaced_ok : CallOk Tryd.prog T_misplaced := con_of (A := annOf [] [] [] false []) fit T_rKey_ok (fn := Tryd.f56) (by kernel_rfl) (by kernel_rfl) (by
  intro args objs r h0
  obtain ⟨s, _, _, _, a, c, rfl, hs, ha, hc, hR⟩ := con3_inv h0
  cases hs
  obtain rfl := ofInt_inv ha
  obtain rfl := ofInt_inv hc
  split at hR
  case h_2 => cases hR
  rename_i cols K hsc
  cases hR
  obtain ⟨v, rfl, hv, vd, vo, vf, vc, vn, vi, hc, hl⟩ := schF hsc
  refine .go _ rfl rfl ?_
  by_cases h1 : c ≤ a
  · have hg : misB cols K a c = true := decide_eq_true (.inl h1)
    simp -implicitDefEqProofs (disch := omega) [vd, vn, h1, hg]
  by_cases h2 : c < K
  · have hg : misB cols K a c = true := decide_eq_true (.inr (.inl h2))
    simp -implicitDefEqProofs (disch := omega) [vd, vn, h1, h2, hg]
  · have hg : misB cols K a c = decide ((cols.length : Int) ≤ c) := by simp [misB, h1, h2]
    rw [hg]
    simp -implicitDefEqProofs (disch := omega) [vd, vn, h1, h2])
def misP (cols : List Co) (K : Int) (sets : List Se) (i : Nat) : Prop := (nth sets i).c < K ∨ (cols.length : Int) ≤ (nth sets i).c ∨ (0 < i ∧ (nth sets i).c ≤ (nth sets (i - 1)).c)
instance {cols : List Co} {K : Int} {sets : List Se} {i : Nat} : Decidable (misP cols K sets i) := by unfold misP; infer_instance
def setE (objs : List AO) (cols : List Co) (K : Int) (sets : List Se) (i : Nat) : Int := if misP cols K sets i then 61 else chkC objs (nth cols (nth sets i).c.toNat) (nth sets i).x
def setsE (objs : List AO) (cols : List Co) (K : Int) (sets : List Se) : Int := if chkR cols K = 0 then (if sets.length = 0 then 61 else firstE (setE objs cols K sets) sets.length 0) else chkR cols K
theorem setE_old {objs O : List AO} {cols : List Co} {K : Int} {sets : List Se} {i : Nat} (hk : seOk objs (nth sets i) = true) (ho : Old objs O) : setE O cols K sets i = setE objs cols K sets i := by
  unfold setE
  rw [chkC_old _ (seOk_inv hk).2 ho]
theorem setsE_old {objs O : List AO} {cols : List Co} {K : Int} {sets : List Se} (hk : ∀ i, i < sets.length → seOk objs (nth sets i) = true) (ho : Old objs O) : setsE O cols K sets = setsE objs cols K sets := by
  unfold setsE
  rw [firstE_congr (g := setE objs cols K sets) fun j _ hj => setE_old (hk j (by omega)) ho]
def lastC (sets : List Se) (i : Nat) : Int := if i = 0 then -1 else (nth sets (i - 1)).c
theorem mis_last {cols : List Co} {K : Int} {sets : List Se} {i : Nat} (hK : 1 ≤ K) : ((nth sets i).c ≤ lastC sets i ∨ (nth sets i).c < K ∨ (cols.length : Int) ≤ (nth sets i).c) ↔ misP cols K sets i := by
  unfold misP lastC
  split <;> omega
noncomputable def k_Sets : Ab.Spec := con2 some some fun s w objs => match schD objs s, setsR objs w with
  | some (cols, K), some sets => bnd sets.length 140737488355328 (some (.int .i64 (setsE objs cols K sets), none))
  | _, _ => none
noncomputable def T_Sets : CallF := withF T_misplaced 20 k_Sets
theorem T_Sets_ok : CallOk Tryd.prog T_Sets := con_of (A := annOf [] [] [] false []) fit T_misplaced_ok (fn := Tryd.f20) (by kernel_rfl) (by kernel_rfl) (by
  intro args objs r h0
  have c_schCheck : ∀ a o, T_misplaced 12 a o = k_schCheck a o := fun _ _ => rfl
  have c_misplaced : ∀ a o, T_misplaced 56 a o = k_misplaced a o := fun _ _ => rfl
  have c_cCheck : ∀ a o, T_misplaced 57 a o = k_cCheck a o := fun _ _ => rfl
  obtain ⟨s, w, _, _, rfl, hs, hw, hR⟩ := con2_inv h0
  cases hs; cases hw
  split at hR
  case h_2 => cases hR
  rename_i cols K sets hsc hr
  obtain ⟨hsl, hR⟩ := bnd_inv hR
  cases hR
  obtain ⟨v, rfl, hv, vd, vo, vf, vc, vn, vi, hc, hl⟩ := schF hsc
  obtain ⟨hw, wd, wn, wi, wk⟩ := setsF hr
  obtain ⟨O0, hO0⟩ : ∃ O, O = objs ++ [.cells [v, .int .i64 K] 0] := ⟨_, rfl⟩
  have hold0 : Old objs O0 := by rw [hO0]; exact Old.ext _ _
  have s1 := (k_sch (schD_old hsc hold0)).1
  refine .go _ rfl rfl ?_
  rcases chk_or cols K with hg | hg
  case inr =>
    have he : setsE objs cols K sets = 60 := by unfold setsE; rw [hg]; rfl
    rw [hg, hO0] at s1
    simp -implicitDefEqProofs (disch := omega) [vd, c_schCheck, s1, he]
  have he : setsE objs cols K sets = if sets.length = 0 then 61 else firstE (setE objs cols K sets) sets.length 0 := by unfold setsE; rw [hg]; rfl
  rw [hg, hO0] at s1
  obtain ⟨p1, p2, p3, p4, p5⟩ := chk_pos hg
  by_cases hz : sets.length = 0
  · rw [if_pos hz] at he
    simp -implicitDefEqProofs (disch := omega) [vd, c_schCheck, s1, wn, hz, he]
  rw [if_neg hz] at he
  have hz' : ((sets.length : Int) == 0) = false := by simp; exact fun q => hz (by rw [q]; rfl)
  simp -implicitDefEqProofs (disch := omega) [vd, c_schCheck, s1, wn, hz']
  obtain ⟨I, hI⟩ : ∃ I : Nat → St → Prop, I = (fun (i : Nat) (z : St) => z.env 2 = .ptr objs.length 0 0 ∧ z.env 18 = w ∧ z.env 19 = .int .i64 sets.length ∧ z.env 20 = .int .i64 i ∧ z.env 6 = .int .i64 (lastC sets i) ∧ z.toks = [] ∧ z.low = objs.length ∧ Old objs z.objs ∧ Ab.getObj z.objs objs.length 0 = some [v, .int .i64 K] ∧ ∀ j, j < i → setE objs cols K sets j = 0) := ⟨_, rfl⟩
  refine .up sets.length I (by rw [hI]; exact ⟨by simp, by simp, by simp, by simp, by simp [lastC], rfl, rfl, Old.ext _ _, by simp, fun j hj => absurd hj (by omega)⟩) ?_
  intro i z hi hz
  rw [hI] at hz
  obtain ⟨e2, e18, e19, e20, e6, ht, hlo, hold, b1, hpre⟩ := hz
  obtain ⟨O, ho⟩ : ∃ O, O = z.objs := ⟨_, rfl⟩
  rw [← ho] at hold b1
  have ho := ho.symm
  rcases Nat.lt_or_ge i sets.length with h | h
  case inr =>
    obtain rfl : i = sets.length := by omega
    have hg : setsE objs cols K sets = 0 := by rw [he]; exact firstE_none fun j _ hj => hpre j (by omega)
    simp -implicitDefEqProofs (disch := omega) [e2, e18, e19, e20, e6, ht, ho, hlo, hg]
  have hOl : objs.length ≤ O.length := hold.1
  have hOl2 : ¬ O.length < objs.length := by omega
  have ix := wi i h
  obtain ⟨g1, -⟩ := set_at (hw.old hold) h
  have hsk := wk i h
  obtain ⟨S, hS⟩ : ∃ S, S = nth sets i := ⟨_, rfl⟩
  have hset : setE objs cols K sets i = if misP cols K sets i then 61 else chkC objs (nth cols S.c.toNat) S.x := by unfold setE; rw [← hS]
  have hml := mis_last (cols := cols) (sets := sets) (i := i) p3
  have hlast : lastC sets (i + 1) = S.c := by unfold lastC; rw [if_neg (by omega), Nat.add_sub_cancel, ← hS]
  have hbad : setE objs cols K sets i ≠ 0 → setsE objs cols K sets = setE objs cols K sets i := fun q => by
    rw [he]
    exact firstE_at (f := setE objs cols K sets) q (Nat.zero_le _) (by omega) fun m _ hm => hpre m hm
  have hgood : setE objs cols K sets i = 0 → ∀ j, j < i + 1 → setE objs cols K sets j = 0 := fun q j hj => by
    rcases Nat.lt_or_ge j i with hj2 | hj2
    · exact hpre j hj2
    · obtain rfl : j = i := by omega
      exact q
  rw [← hS] at g1 hsk hml
  obtain ⟨c, x⟩ := S
  obtain ⟨xn, xi, xv⟩ := x
  simp only at hset hml hlast
  obtain ⟨O2, hO2⟩ : ∃ O2, O2 = O ++ [.cells (seV ⟨c, xn, xi, xv⟩) 0] := ⟨_, rfl⟩
  have hold2 : Old objs O2 := by rw [hO2]; exact hold.app _
  have hO3 : Old O O2 := by rw [hO2]; exact Old.ext _ _
  have b2 : Ab.getObj O2 objs.length 0 = some [v, .int .i64 K] := by rw [hO3.2 _ _ (getObj_lt b1)]; exact b1
  have bx : Ab.getObj O2 O.length 0 = some (seV ⟨c, xn, xi, xv⟩) := by rw [hO2]; simp
  have hs2 := schD_old hsc hold2
  have hck := (seOk_inv hsk).2
  obtain ⟨k1, k2, k3, k4⟩ := ceOk_inv (ce_old hck hold2).1
  have hb := (ce_old hck hold2).2
  simp only at hb k1 k2 k3 k4
  rw [hb] at k2 k3 k4
  obtain ⟨a1, a2, a3, a4⟩ := one_ofR k2
  have hO2' : O ++ [.cells [.int .i64 c, .bool xn, .int .i64 xi, xv] 0] = O2 := hO2.symm
  simp only [seV, ceV] at g1 bx
  by_cases hmis : misP cols K sets i
  · rw [if_pos hmis] at hset
    have hg := hbad (by rw [hset]; decide)
    rw [hset] at hg
    have hm : misB cols K (lastC sets i) c = true := decide_eq_true (hml.2 hmis)
    simp -implicitDefEqProofs (disch := omega) [e2, e18, e19, e20, e6, ht, ho, hlo, h, ix, hOl2, g1, ceV, seV, setCells, a1, a2, a3, a4, hO2', b2, bx, vd, c_misplaced, k_misplaced, hs2, hm, hg]
  rw [if_neg hmis] at hset
  have hm : misB cols K (lastC sets i) c = false := decide_eq_false fun q => hmis (hml.1 q)
  have hm0 : ¬ (c ≤ lastC sets i ∨ c < K ∨ (cols.length : Int) ≤ c) := fun q => hmis (hml.1 q)
  obtain ⟨n, rfl⟩ := Int.eq_ofNat_of_zero_le (show 0 ≤ c by omega)
  have hnl : n < cols.length := by omega
  have jx := vi n hnl
  obtain ⟨-, -, g3, g4⟩ := col_get (hv.old hold2) (i := n) hnl
  rw [Int.toNat_natCast] at hset
  have hcx : chkC objs (nth cols n) ⟨xn, xi, xv⟩ = checkR (nth cols n).k (nth cols n).n xn xi (Ce.b ⟨xn, xi, xv⟩ objs) := rfl
  obtain ⟨C, hC⟩ : ∃ C, C = nth cols n := ⟨_, rfl⟩
  obtain ⟨B, hB⟩ : ∃ B, B = (⟨xn, xi, xv⟩ : Ce).b objs := ⟨_, rfl⟩
  rw [← hB] at k2 k3 k4 hcx
  rw [hcx] at hset
  rw [← hC] at g3 g4 hset
  obtain ⟨nm, k, nl⟩ := C
  simp only at g3 g4 hset
  obtain ⟨E, hE⟩ : ∃ E, E = checkR k nl xn xi B := ⟨_, rfl⟩
  rw [← hE] at hset
  rw [hset] at hbad hgood
  by_cases hz : E = 0
  · have hi3 := hgood hz
    rw [hz] at hE
    simp -implicitDefEqProofs (disch := omega) [e2, e18, e19, e20, e6, ht, ho, hlo, h, ix, hOl2, g1, ceV, seV, setCells, a1, a2, a3, a4, hO2', b2, bx, vd, c_misplaced, k_misplaced, hs2, hm, jx, g3, g4, col_f1, col_f2, c_cCheck, k_cCheck, k1, k2, k3, k4, ← hE, wrap_small]
    rw [hI]
    exact ⟨by simp [e2], by simp [e18], by simp [e19], by simp, by simp [hlast], rfl, rfl, hold2, b2, hi3⟩
  · have hg := hbad hz
    have hz2 : (E != 0) = true := by simpa using hz
    simp -implicitDefEqProofs (disch := omega) [e2, e18, e19, e20, e6, ht, ho, hlo, h, ix, hOl2, g1, ceV, seV, setCells, a1, a2, a3, a4, hO2', b2, bx, vd, c_misplaced, k_misplaced, hs2, hm, jx, g3, g4, col_f1, col_f2, c_cCheck, k_cCheck, k1, k2, k3, k4, ← hE, hz, hz2, hg])

end Go.Proofs.YtnbgmclbbkfhhaaDoor.B
set_option maxRecDepth 20000
set_option maxHeartbeats 1000000
namespace Go.Proofs.YtnbgmclbbkfhhaaDoor.B
open Go Go.Ab
noncomputable def k_rSets : Ab.Spec := con2 some some fun s w objs => match schD objs s, setsR objs w with
  | some (cols, K), some sets => bnd sets.length 140737488355328 (some (.int .i64 (setsE objs cols K sets), none))
  | _, _ => none
noncomputable def T_rSets : CallF := withF T_Sets 21 k_rSets
theorem T_rSets_ok : CallOk Tryd.prog T_rSets := con_of (A := annOf [] [] [] false []) fit T_Sets_ok (fn := Tryd.f21) (by kernel_rfl) (by kernel_rfl) (by
  intro args objs r h0
  have c_rSchema : ∀ a o, T_Sets 13 a o = k_rSchema a o := fun _ _ => rfl
  have c_rCheck : ∀ a o, T_Sets 58 a o = k_rCheck a o := fun _ _ => rfl
  obtain ⟨s, w, _, _, rfl, hs, hw, hR⟩ := con2_inv h0
  cases hs; cases hw
  split at hR
  case h_2 => cases hR
  rename_i cols K sets hsc hr
  obtain ⟨hsl, hR⟩ := bnd_inv hR
  cases hR
  obtain ⟨v, rfl, hv, vd, vo, vf, vc, vn, vi, hc, hl⟩ := schF hsc
  obtain ⟨hw, wd, wn, wi, wk⟩ := setsF hr
  obtain ⟨O, hO⟩ : ∃ O, O = objs ++ [.cells [v, .int .i64 K] 0] := ⟨_, rfl⟩
  have hold : Old objs O := by rw [hO]; exact Old.ext _ _
  have b1 : Ab.getObj O objs.length 0 = some [v, .int .i64 K] := by rw [hO]; simp
  have s1 := (k_sch (schD_old hsc hold)).2
  refine .go _ rfl rfl ?_
  rcases chk_or cols K with hg | hg
  case inr =>
    have he : setsE objs cols K sets = 60 := by unfold setsE; rw [hg]; rfl
    rw [hg, hO] at s1
    simp -implicitDefEqProofs (disch := omega) [vd, c_rSchema, s1, he]
  have he : setsE objs cols K sets = if sets.length = 0 then 61 else firstE (setE objs cols K sets) sets.length 0 := by unfold setsE; rw [hg]; rfl
  rw [hg, hO] at s1
  obtain ⟨p1, p2, p3, p4, p5⟩ := chk_pos hg
  by_cases hz : sets.length = 0
  · rw [if_pos hz] at he
    simp -implicitDefEqProofs (disch := omega) [vd, c_rSchema, s1, wn, hz, he]
  rw [if_neg hz] at he
  have hz' : ((sets.length : Int) == 0) = false := by simp; exact fun q => hz (by rw [q]; rfl)
  simp -implicitDefEqProofs (disch := omega) [vd, c_rSchema, s1, wn, hz']
  rw [← hO]
  obtain ⟨I, hI⟩ : ∃ I : Nat → St → Prop, I = (fun (i : Nat) (z : St) => z.env 1 = w ∧ z.env 2 = .ptr objs.length 0 0 ∧ z.env 6 = .int .i64 i ∧ z.toks = [] ∧ z.low = objs.length ∧ z.objs = O ∧ ∀ j, j < i → setE objs cols K sets j = 0) := ⟨_, rfl⟩
  refine .up sets.length I (by rw [hI]; exact ⟨by simp, by simp, by simp, rfl, rfl, rfl, fun j hj => absurd hj (by omega)⟩) ?_
  intro i z hi hz
  rw [hI] at hz
  obtain ⟨e1, e2, e6, ht, hlo, ho, hpre⟩ := hz
  rcases Nat.lt_or_ge i sets.length with h | h
  case inr =>
    obtain rfl : i = sets.length := by omega
    have hg : setsE objs cols K sets = 0 := by rw [he]; exact firstE_none fun j _ hj => hpre j (by omega)
    simp -implicitDefEqProofs (disch := omega) [e1, e2, e6, ht, ho, hlo, wn, hg]
  have ix := wi i h
  obtain ⟨-, g1, g2, -⟩ := set_at (hw.old hold) h
  have hsk := wk i h
  obtain ⟨S, hS⟩ : ∃ S, S = nth sets i := ⟨_, rfl⟩
  have hset : setE objs cols K sets i = if misP cols K sets i then 61 else chkC objs (nth cols S.c.toNat) S.x := by unfold setE; rw [← hS]
  have hmp : misP cols K sets i ↔ S.c < K ∨ (cols.length : Int) ≤ S.c ∨ (0 < i ∧ S.c ≤ (nth sets (i - 1)).c) := by unfold misP; rw [← hS]
  have hbad : setE objs cols K sets i ≠ 0 → setsE objs cols K sets = setE objs cols K sets i := fun q => by
    rw [he]
    exact firstE_at (f := setE objs cols K sets) q (Nat.zero_le _) (by omega) fun m _ hm => hpre m hm
  have hgood : setE objs cols K sets i = 0 → ∀ j, j < i + 1 → setE objs cols K sets j = 0 := fun q j hj => by
    rcases Nat.lt_or_ge j i with hj2 | hj2
    · exact hpre j hj2
    · obtain rfl : j = i := by omega
      exact q
  have hb61 : misP cols K sets i → setsE objs cols K sets = 61 := fun q => by
    have e : setE objs cols K sets i = 61 := by rw [hset, if_pos q]
    rw [hbad (by rw [e]; decide), e]
  rw [← hS] at g1 g2 hsk
  obtain ⟨c, x⟩ := S
  obtain ⟨xn, xi, xv⟩ := x
  simp only at hset hmp g1
  by_cases q1 : c < K
  · have hg := hb61 (hmp.2 (.inl q1))
    simp -implicitDefEqProofs (disch := omega) [e1, e2, e6, ht, ho, hlo, wn, h, ix, set_f0, g1, b1, vd, vn, q1, hg]
  by_cases q2 : (cols.length : Int) ≤ c
  · have hg := hb61 (hmp.2 (.inr (.inl q2)))
    simp -implicitDefEqProofs (disch := omega) [e1, e2, e6, ht, ho, hlo, wn, h, ix, set_f0, g1, b1, vd, vn, q1, q2, hg]
  have hck := (seOk_inv hsk).2
  obtain ⟨k1, k2, k3, k4⟩ := ceOk_inv (ce_old hck hold).1
  have hb := (ce_old hck hold).2
  simp only at hb k1 k2 k3 k4
  rw [hb] at k2 k3 k4
  obtain ⟨a1, a2, a3, a4⟩ := one_ofR k2
  obtain ⟨n, rfl⟩ := Int.eq_ofNat_of_zero_le (show 0 ≤ c by omega)
  have hnl : n < cols.length := by omega
  have jx := vi n hnl
  obtain ⟨-, -, g3, g4⟩ := col_get (hv.old hold) (i := n) hnl
  rw [Int.toNat_natCast] at hset
  have hcx : chkC objs (nth cols n) ⟨xn, xi, xv⟩ = checkR (nth cols n).k (nth cols n).n xn xi (Ce.b ⟨xn, xi, xv⟩ objs) := rfl
  obtain ⟨C, hC⟩ : ∃ C, C = nth cols n := ⟨_, rfl⟩
  obtain ⟨B, hB⟩ : ∃ B, B = (⟨xn, xi, xv⟩ : Ce).b objs := ⟨_, rfl⟩
  rw [← hB] at k2 k3 k4 hcx
  rw [hcx] at hset
  rw [← hC] at g3 g4 hset
  obtain ⟨nm, k, nl⟩ := C
  simp only at g3 g4 hset
  simp only [ceV] at g2
  obtain ⟨E, hE⟩ : ∃ E, E = checkR k nl xn xi B := ⟨_, rfl⟩
  rw [← hE] at hset
  by_cases hi0 : 0 < i
  · have px := wi (i - 1) (by omega)
    have w1 : IntKind.i64.wrap ((i : Int) - 1) = ((i - 1 : Nat) : Int) := by rw [wrap_small (by omega) (by omega)]; omega
    obtain ⟨-, g5, -⟩ := set_at (hw.old hold) (i := i - 1) (by omega)
    have hi0' : (0 : Int) < (i : Int) := by omega
    obtain ⟨pc, hpc⟩ : ∃ pc, pc = (nth sets (i - 1)).c := ⟨_, rfl⟩
    rw [← hpc] at g5 hmp
    by_cases q3 : (n : Int) ≤ pc
    · have hg := hb61 (hmp.2 (.inr (.inr ⟨hi0, q3⟩)))
      simp -implicitDefEqProofs (disch := omega) [e1, e2, e6, ht, ho, hlo, wn, h, ix, set_f0, g1, b1, vd, vn, q1, q2, hi0, hi0', w1, px, g5, q3, hg]
    · have hnm : ¬ misP cols K sets i := fun q => by rcases hmp.1 q with q | q | q <;> omega
      rw [if_neg hnm] at hset
      rw [hset] at hbad hgood
      by_cases hz : E = 0
      · have hi3 := hgood hz
        rw [hz] at hE
        simp -implicitDefEqProofs (disch := omega) [e1, e2, e6, ht, ho, hlo, wn, h, ix, set_f0, set_f1, g1, g2, b1, vd, vn, q1, q2, hi0, hi0', w1, px, g5, q3, jx, g3, g4, col_f1, col_f2, a1, a2, a3, a4, c_rCheck, k_rCheck, k1, k2, k3, k4, ← hE, wrap_small]
        rw [hI]
        exact ⟨by simp [e1], by simp [e2], by simp, rfl, rfl, rfl, hi3⟩
      · have hg := hbad hz
        have hz2 : (E != 0) = true := by simpa using hz
        simp -implicitDefEqProofs (disch := omega) [e1, e2, e6, ht, ho, hlo, wn, h, ix, set_f0, set_f1, g1, g2, b1, vd, vn, q1, q2, hi0, hi0', w1, px, g5, q3, jx, g3, g4, col_f1, col_f2, a1, a2, a3, a4, c_rCheck, k_rCheck, k1, k2, k3, k4, ← hE, hz, hz2, hg]
  · have hi0' : ¬ (0 : Int) < (i : Int) := by omega
    have hnm : ¬ misP cols K sets i := fun q => by rcases hmp.1 q with q | q | q <;> omega
    rw [if_neg hnm] at hset
    rw [hset] at hbad hgood
    by_cases hz : E = 0
    · have hi3 := hgood hz
      rw [hz] at hE
      simp -implicitDefEqProofs (disch := omega) [e1, e2, e6, ht, ho, hlo, wn, h, ix, set_f0, set_f1, g1, g2, b1, vd, vn, q1, q2, hi0, hi0', jx, g3, g4, col_f1, col_f2, a1, a2, a3, a4, c_rCheck, k_rCheck, k1, k2, k3, k4, ← hE, wrap_small]
      rw [hI]
      exact ⟨by simp [e1], by simp [e2], by simp, rfl, rfl, rfl, hi3⟩
    · have hg := hbad hz
      have hz2 : (E != 0) = true := by simpa using hz
      simp -implicitDefEqProofs (disch := omega) [e1, e2, e6, ht, ho, hlo, wn, h, ix, set_f0, set_f1, g1, g2, b1, vd, vn, q1, q2, hi0, hi0', jx, g3, g4, col_f1, col_f2, a1, a2, a3, a4, c_rCheck, k_rCheck, k1, k2, k3, k4, ← hE, hz, hz2, hg])
/-! operations -/
def opE (objs : List AO) (cols : List Co) (K kind : Int) (row : List Ce) (sets : List Se) : Int :=
  if chkR cols K = 0 then
    (if kind = 1 then (if rowE objs cols K row = 0 ∧ 0 < sets.length then 61 else rowE objs cols K row)
    else if kind = 2 then (if keyE objs cols K row = 0 then setsE objs cols K sets else keyE objs cols K row)
    else if kind = 3 then (if keyE objs cols K row = 0 ∧ 0 < sets.length then 61 else keyE objs cols K row) else 1)
  else chkR cols K
/-- An operation that is handed. -/
def opD (objs : List AO) (p : V) : Option (Int × List Ce × List Se) := match p with
  | .agg [.int .i64 k, r, s] => match rowR objs r, setsR objs s with
    | some row, some sets => if sets.length < 140737488355328 ∧ row.length < 140737488355328 then some (k, row, sets) else none
    | _, _ => none
  | _ => none
theorem opD_inv {objs : List AO} {p : V} {k : Int} {row : List Ce} {sets : List Se} (h : opD objs p = some (k, row, sets)) : ∃ r s, p = .agg [.int .i64 k, r, s] ∧ rowR objs r = some row ∧ setsR objs s = some sets ∧ sets.length < 140737488355328 ∧ row.length < 140737488355328 := by
  unfold opD at h
  split at h
  case h_2 => cases h
  split at h
  case h_2 => cases h
  rename_i row' sets' h1 h2
  split at h <;> cases h
  rename_i h3
  exact ⟨_, _, rfl, h1, h2, h3⟩
noncomputable def k_Op : Ab.Spec := con2 some some fun s p objs => match schD objs s, opD objs p with
  | some (cols, K), some (k, row, sets) => some (.int .i64 (opE objs cols K k row sets), none)
  | _, _ => none
noncomputable def T_Op : CallF := withF T_rSets 14 k_Op
theorem T_Op_ok : CallOk Tryd.prog T_Op := con_of (A := annOf [] [] [] false []) fit T_rSets_ok (fn := Tryd.f14) (by kernel_rfl) (by kernel_rfl) (by
  intro args objs r h0
  have c_schCheck : ∀ a o, T_rSets 12 a o = k_schCheck a o := fun _ _ => rfl
  have c_Row : ∀ a o, T_rSets 16 a o = k_Row a o := fun _ _ => rfl
  have c_Key : ∀ a o, T_rSets 18 a o = k_Key a o := fun _ _ => rfl
  have c_Sets : ∀ a o, T_rSets 20 a o = k_Sets a o := fun _ _ => rfl
  obtain ⟨s, p, _, _, rfl, hs, hw, hR⟩ := con2_inv h0
  cases hs; cases hw
  split at hR
  case h_2 => cases hR
  rename_i cols K k row sets hsc hop
  cases hR
  obtain ⟨v, rfl, hv, vd, vo, vf, vc, vn, vi, hc, hl⟩ := schF hsc
  obtain ⟨r, u, rfl, hr, hu, hul, -⟩ := opD_inv hop
  obtain ⟨hr1, rd, rn, ri, rk⟩ := rowF hr
  obtain ⟨hu1, ud, un, ui, uk⟩ := setsF hu
  obtain ⟨O, hO⟩ : ∃ O, O = objs ++ [.cells [v, .int .i64 K] 0, .cells [.int .i64 k, r, u] 0] := ⟨_, rfl⟩
  have hold : Old objs O := by rw [hO]; exact Old.ext _ _
  have hs2 := schD_old hsc hold
  have s1 := (k_sch hs2).1
  have hr2 := rowR_old hr hold
  have hu2 := setsR_old hu hold
  have er := rowE_old (cols := cols) (K := K) rk hold
  have ek := keyE_old (cols := cols) (K := K) rk hold
  have es := setsE_old (cols := cols) (K := K) uk hold
  rw [hO] at s1 hs2 hr2 hu2 er ek es
  refine .go _ rfl rfl ?_
  rcases chk_or cols K with hg | hg
  case inr =>
    have he : opE objs cols K k row sets = 60 := by unfold opE; rw [hg]; rfl
    rw [hg] at s1
    simp -implicitDefEqProofs (disch := omega) [vd, rd, ud, c_schCheck, s1, he]
  have he : opE objs cols K k row sets = (if k = 1 then (if rowE objs cols K row = 0 ∧ 0 < sets.length then 61 else rowE objs cols K row)
    else if k = 2 then (if keyE objs cols K row = 0 then setsE objs cols K sets else keyE objs cols K row)
    else if k = 3 then (if keyE objs cols K row = 0 ∧ 0 < sets.length then 61 else keyE objs cols K row) else 1) := by unfold opE; rw [hg]; rfl
  rw [hg] at s1
  obtain ⟨RE, hRE⟩ : ∃ e, e = rowE objs cols K row := ⟨_, rfl⟩
  obtain ⟨KE, hKE⟩ : ∃ e, e = keyE objs cols K row := ⟨_, rfl⟩
  obtain ⟨SE, hSE⟩ : ∃ e, e = setsE objs cols K sets := ⟨_, rfl⟩
  rw [← hRE] at er
  rw [← hKE] at ek
  rw [← hSE] at es
  rw [← hRE, ← hKE, ← hSE] at he
  by_cases k1 : k = 1
  · subst k1
    rw [if_pos rfl] at he
    by_cases z : RE = 0
    · by_cases y : 0 < sets.length
      · rw [if_pos ⟨z, y⟩] at he
        simp -implicitDefEqProofs (disch := omega) [vd, rd, ud, c_schCheck, s1, c_Row, k_Row, hs2, hr2, er, z, un, y, he]
      · rw [if_neg (fun q => y q.2), z] at he
        simp -implicitDefEqProofs (disch := omega) [vd, rd, ud, c_schCheck, s1, c_Row, k_Row, hs2, hr2, er, z, un, y, he]
    · rw [if_neg (fun q => z q.1)] at he
      have z2 : (RE == 0) = false := by simpa using z
      simp -implicitDefEqProofs (disch := omega) [vd, rd, ud, c_schCheck, s1, c_Row, k_Row, hs2, hr2, er, z, z2, un, he]
  rw [if_neg k1] at he
  have k1' : (k == 1) = false := by simpa using k1
  by_cases k2 : k = 2
  · subst k2
    rw [if_pos rfl] at he
    by_cases z : KE = 0
    · rw [if_pos z] at he
      simp -implicitDefEqProofs (disch := omega) [vd, rd, ud, c_schCheck, s1, c_Key, k_Key, c_Sets, k_Sets, hs2, hr2, hu2, hul, ek, es, z, he]
    · rw [if_neg z] at he
      have z2 : (KE == 0) = false := by simpa using z
      simp -implicitDefEqProofs (disch := omega) [vd, rd, ud, c_schCheck, s1, c_Key, k_Key, hs2, hr2, ek, z, z2, un, he]
  rw [if_neg k2] at he
  have k2' : (k == 2) = false := by simpa using k2
  by_cases k3 : k = 3
  · subst k3
    rw [if_pos rfl] at he
    by_cases z : KE = 0
    · by_cases y : 0 < sets.length
      · rw [if_pos ⟨z, y⟩] at he
        simp -implicitDefEqProofs (disch := omega) [vd, rd, ud, c_schCheck, s1, c_Key, k_Key, hs2, hr2, ek, z, un, y, he]
      · rw [if_neg (fun q => y q.2), z] at he
        simp -implicitDefEqProofs (disch := omega) [vd, rd, ud, c_schCheck, s1, c_Key, k_Key, hs2, hr2, ek, z, un, y, he]
    · rw [if_neg (fun q => z q.1)] at he
      have z2 : (KE == 0) = false := by simpa using z
      simp -implicitDefEqProofs (disch := omega) [vd, rd, ud, c_schCheck, s1, c_Key, k_Key, hs2, hr2, ek, z, z2, un, he]
  rw [if_neg k3] at he
  have k3' : (k == 3) = false := by simpa using k3
  simp -implicitDefEqProofs (disch := omega) [vd, rd, ud, c_schCheck, s1, k1, k1', k2, k2', k3, k3', he])
noncomputable def k_rOp : Ab.Spec := con2 some some fun s p objs => match schD objs s, opD objs p with
  | some (cols, K), some (k, row, sets) => some (.int .i64 (opE objs cols K k row sets), none)
  | _, _ => none
noncomputable def T_rOp : CallF := withF T_Op 15 k_rOp
theorem T_rOp_ok : CallOk Tryd.prog T_rOp := con_of (A := annOf [] [] [] false []) fit T_Op_ok (fn := Tryd.f15) (by kernel_rfl) (by kernel_rfl) (by
  intro args objs r h0
  have c_rSchema : ∀ a o, T_Op 13 a o = k_rSchema a o := fun _ _ => rfl
  have c_rRow : ∀ a o, T_Op 17 a o = k_rRow a o := fun _ _ => rfl
  have c_rKey : ∀ a o, T_Op 19 a o = k_rKey a o := fun _ _ => rfl
  have c_rSets : ∀ a o, T_Op 21 a o = k_rSets a o := fun _ _ => rfl
  obtain ⟨s, p, _, _, rfl, hs, hw, hR⟩ := con2_inv h0
  cases hs; cases hw
  split at hR
  case h_2 => cases hR
  rename_i cols K k row sets hsc hop
  cases hR
  obtain ⟨v, rfl, hv, vd, vo, vf, vc, vn, vi, hc, hl⟩ := schF hsc
  obtain ⟨r, u, rfl, hr, hu, hul, -⟩ := opD_inv hop
  obtain ⟨hr1, rd, rn, ri, rk⟩ := rowF hr
  obtain ⟨hu1, ud, un, ui, uk⟩ := setsF hu
  obtain ⟨O, hO⟩ : ∃ O, O = objs ++ [.cells [v, .int .i64 K] 0, .cells [.int .i64 k, r, u] 0] := ⟨_, rfl⟩
  have hold : Old objs O := by rw [hO]; exact Old.ext _ _
  have hs2 := schD_old hsc hold
  have s1 := (k_sch hs2).2
  have hr2 := rowR_old hr hold
  have hu2 := setsR_old hu hold
  have er := rowE_old (cols := cols) (K := K) rk hold
  have ek := keyE_old (cols := cols) (K := K) rk hold
  have es := setsE_old (cols := cols) (K := K) uk hold
  rw [hO] at s1 hs2 hr2 hu2 er ek es
  refine .go _ rfl rfl ?_
  rcases chk_or cols K with hg | hg
  case inr =>
    have he : opE objs cols K k row sets = 60 := by unfold opE; rw [hg]; rfl
    rw [hg] at s1
    simp -implicitDefEqProofs (disch := omega) [vd, rd, ud, c_rSchema, s1, he]
  have he : opE objs cols K k row sets = (if k = 1 then (if rowE objs cols K row = 0 ∧ 0 < sets.length then 61 else rowE objs cols K row)
    else if k = 2 then (if keyE objs cols K row = 0 then setsE objs cols K sets else keyE objs cols K row)
    else if k = 3 then (if keyE objs cols K row = 0 ∧ 0 < sets.length then 61 else keyE objs cols K row) else 1) := by unfold opE; rw [hg]; rfl
  rw [hg] at s1
  obtain ⟨RE, hRE⟩ : ∃ e, e = rowE objs cols K row := ⟨_, rfl⟩
  obtain ⟨KE, hKE⟩ : ∃ e, e = keyE objs cols K row := ⟨_, rfl⟩
  obtain ⟨SE, hSE⟩ : ∃ e, e = setsE objs cols K sets := ⟨_, rfl⟩
  rw [← hRE] at er
  rw [← hKE] at ek
  rw [← hSE] at es
  rw [← hRE, ← hKE, ← hSE] at he
  by_cases k0 : k < 1
  · rw [if_neg (by omega), if_neg (by omega), if_neg (by omega)] at he
    simp -implicitDefEqProofs (disch := omega) [vd, rd, ud, c_rSchema, s1, k0, he]
  by_cases k4 : 3 < k
  · rw [if_neg (by omega), if_neg (by omega), if_neg (by omega)] at he
    simp -implicitDefEqProofs (disch := omega) [vd, rd, ud, c_rSchema, s1, k0, k4, he]
  obtain rfl | rfl | rfl : k = 1 ∨ k = 2 ∨ k = 3 := by omega
  · rw [if_pos rfl] at he
    by_cases z : RE = 0
    · by_cases y : 0 < sets.length
      · rw [if_pos ⟨z, y⟩] at he
        simp -implicitDefEqProofs (disch := omega) [vd, rd, ud, c_rSchema, s1, c_rRow, k_rRow, hs2, hr2, er, z, un, y, he]
      · rw [if_neg (fun q => y q.2), z] at he
        simp -implicitDefEqProofs (disch := omega) [vd, rd, ud, c_rSchema, s1, c_rRow, k_rRow, hs2, hr2, er, z, un, y, he]
    · rw [if_neg (fun q => z q.1)] at he
      have z2 : (RE != 0) = true := by simpa using z
      simp -implicitDefEqProofs (disch := omega) [vd, rd, ud, c_rSchema, s1, c_rRow, k_rRow, hs2, hr2, er, z, z2, un, he]
  · rw [if_neg (by decide), if_pos rfl] at he
    by_cases z : KE = 0
    · rw [if_pos z] at he
      simp -implicitDefEqProofs (disch := omega) [vd, rd, ud, c_rSchema, s1, c_rKey, k_rKey, c_rSets, k_rSets, hs2, hr2, hu2, hul, ek, es, z, he]
    · rw [if_neg z] at he
      have z2 : (KE != 0) = true := by simpa using z
      simp -implicitDefEqProofs (disch := omega) [vd, rd, ud, c_rSchema, s1, c_rKey, k_rKey, hs2, hr2, ek, z, z2, un, he]
  · rw [if_neg (by decide), if_neg (by decide), if_pos rfl] at he
    by_cases z : KE = 0
    · by_cases y : 0 < sets.length
      · rw [if_pos ⟨z, y⟩] at he
        simp -implicitDefEqProofs (disch := omega) [vd, rd, ud, c_rSchema, s1, c_rKey, k_rKey, hs2, hr2, ek, z, un, y, he]
      · rw [if_neg (fun q => y q.2), z] at he
        simp -implicitDefEqProofs (disch := omega) [vd, rd, ud, c_rSchema, s1, c_rKey, k_rKey, hs2, hr2, ek, z, un, y, he]
    · rw [if_neg (fun q => z q.1)] at he
      have z2 : (KE != 0) = true := by simpa using z
      simp -implicitDefEqProofs (disch := omega) [vd, rd, ud, c_rSchema, s1, c_rKey, k_rKey, hs2, hr2, ek, z, z2, un, he])

end Go.Proofs.YtnbgmclbbkfhhaaDoor.B
set_option maxRecDepth 20000
set_option maxHeartbeats 1000000
namespace Go.Proofs.YtnbgmclbbkfhhaaDoor.B
open Go Go.Ab
theorem bytesV {k : IntKind} {objs : List AO} {v : V} {l : List Int} (h : ofIntsR k objs v = some l) : RowV objs 1 v (ints k l) l.length := by
  refine ⟨by simp, ?_⟩
  rcases ofIntsR_inv h with h | ⟨id, ver, off, cs, rfl, hg, hrow, hfit⟩
  · exact .inl (ofInts_inv h)
  · exact .inr ⟨id, ver, off, cs, rfl, hg, by rw [Nat.mul_one]; exact hrow, by omega⟩
theorem bytesF {objs : List AO} {v : V} {l : List Int} (h : ofIntsR .u8 objs v = some l) : RowV objs 1 v (ints .u8 l) l.length ∧ demote v = v ∧ lenV Tryd.prog 59 v = some (.int .i64 l.length) ∧ ∀ i : Nat, i < l.length → indexV Tryd.prog 59 v (.int .i64 i) = some (ptAt v (ints .u8 l) i) := by
  have hv := bytesV h
  refine ⟨hv, hv.dem, hv.size (P := Tryd.prog) u59, fun i hi => ?_⟩
  have := hv.idx (P := Tryd.prog) u59 z5 .i64 i (by omega) (by omega)
  rwa [Int.toNat_natCast, Nat.mul_one] at this
theorem byte_at {objs : List AO} {v : V} {l : List Int} (h : RowV objs 1 v (ints .u8 l) l.length) {i : Nat} (hi : i < l.length) : loadV Tryd.prog 5 objs (ptAt v (ints .u8 l) i) = some (.int .u8 (nth l i)) := h.get g5 (ints_nth hi)
theorem v_noref {objs : List AO} {k : IntKind} {v : V} {l : List Int} (h : ofIntsR k objs v = some l) {b : Nat} (hb : objs.length ≤ b) : Ab.noref b v = true := (bytesV h).noref hb (by simp)
noncomputable def k_CopyR : Ab.Spec := con1 some fun v objs => match ofIntsR .u8 objs v with | some l => bnd l.length 140737488355300 (some (.lst (.fresh 1 true) (ints .u8 l) l.length, none)) | none => none
noncomputable def T_CopyR : CallF := withF T_rOp 48 k_CopyR
theorem T_CopyR_ok : CallOk Tryd.prog T_CopyR := con_of (A := annOf [] [5,18] [] false []) fit T_rOp_ok (fn := Tryd.f48) (by kernel_rfl) (by kernel_rfl) (by
  intro args objs r h0
  obtain ⟨v, _, rfl, hv, hR⟩ := con1_inv h0
  cases hv
  split at hR
  case h_2 => cases hR
  rename_i l ha
  obtain ⟨hl, hR⟩ := bnd_inv hR
  cases hR
  obtain ⟨hv, vd, vn, vi⟩ := bytesF ha
  refine .go _ rfl rfl ?_
  simp [blit0]
  refine .up l.length (fun i s => s.env 0 = v ∧ s.env 3 = .ref objs.length i 0 i 1 ∧ s.env 4 = .int .i64 i ∧ s.toks = [] ∧ s.objs = objs ++ [.cells (ints .u8 (l.take i)) i] ∧ s.low = objs.length) (by simp [ints_nil]) ?_
  rintro i s hi ⟨h0, h3, h4, ht, ho, hlo⟩
  rcases Nat.lt_or_ge i l.length with h | h
  · have e := take_nth h
    have ix := vi i h
    have g := byte_at (hv.app [.cells (ints .u8 (l.take i)) i]) h
    simp (disch := omega) [h0, h3, h4, ht, ho, hlo, vn, ix, g, h, blit1, e, wrap_small, getObj_last, Nat.mod_one]
  · obtain rfl : i = l.length := by omega
    simp [h0, h3, h4, ht, ho, hlo, vn, getObj_last])
/-! twins -/
def tw (objs : List AO) (x : Ce) : Ce := ⟨x.n, x.i, .lst .frozen (ints .u8 (x.b objs)) (x.b objs).length⟩
theorem tw_ok {objs O : List AO} {x : Ce} (h : ceOk objs x = true) : ceOk O (tw objs x) = true ∧ (tw objs x).b O = x.b objs := by
  obtain ⟨h1, h2, h3, h4⟩ := ceOk_inv h
  exact ceOk_of (x := tw objs x) h1 (ofIntsR_of (ofInts_lst rfl)) h3 h4
theorem tw_refs (objs : List AO) (row : List Ce) (b : Nat) : norefs b (flatV ceV (row.map (tw objs))) = true := norefs_iff.2 fun v hv => by
  obtain ⟨c, hc, h⟩ := List.mem_flatMap.1 hv
  obtain ⟨x, -, rfl⟩ := List.mem_map.1 hc
  simp only [ceV, tw, List.mem_cons, List.not_mem_nil, or_false] at h
  rcases h with rfl | rfl | rfl <;> simp
theorem tw_row {objs O : List AO} {row : List Ce} (h : ∀ x ∈ row, ceOk objs x = true) : rowR O (.lst .frozen (flatV ceV (row.map (tw objs))) row.length) = some (row.map (tw objs)) := by
  have hl : row.length = (row.map (tw objs)).length := by simp
  rw [hl]
  exact recR_lst ceV_len fun x hx => by
    obtain ⟨y, hy, rfl⟩ := List.mem_map.1 hx
    exact ceD_ok.2 (tw_ok (h y hy)).1
theorem clit0 : listV Tryd.prog 25 0 [] = some ([], 3) := by simp [listV, fillV, zeros]
theorem clit1 (a b c : V) : listV Tryd.prog 25 1 [(0, .agg [a, b, c])] = some ([a, b, c], 3) := by simp [listV, fillV, zeros, setCells]
theorem fitC (a b c : V) (ha : isDef a = true) (hb : isDef b = true) (hc : isDef c = true) (ha' : cellsOf a = [a]) (hb' : cellsOf b = [b]) (hc' : cellsOf c = [c]) : fillV (placeOf Tryd.prog 82) [.bool false, .int .i64 0, .nils] [(0, a), (1, b), (2, c)] = some [a, b, c] := by simp [-isDef_eq, -cellsOf_eq, fillV, setCells, ha, hb, hc, ha', hb', hc']
noncomputable def k_Twin : Ab.Spec := con1 some fun v objs => match v with
  | .agg [.bool n, .int .i64 i, a] => match ofIntsR .u8 objs a with
    | some l => bnd l.length 140737488355000 (some (.agg [.bool n, .int .i64 i, .lst .frozen (ints .u8 l) l.length], none))
    | none => none
  | _ => none
noncomputable def T_Twin : CallF := withF T_CopyR 59 k_Twin
theorem T_Twin_ok : CallOk Tryd.prog T_Twin := con_of (A := annOf [] [] [] false []) fit T_CopyR_ok (fn := Tryd.f59) (by kernel_rfl) (by kernel_rfl) (by
  intro args objs r h0
  have c_CopyR : ∀ a o, T_CopyR 48 a o = k_CopyR a o := fun _ _ => rfl
  obtain ⟨v, _, rfl, hv, hR⟩ := con1_inv h0
  cases hv
  split at hR
  case h_2 => cases hR
  rename_i n i a
  split at hR
  case h_2 => cases hR
  rename_i l ha
  obtain ⟨hl, hR⟩ := bnd_inv hR
  cases hR
  obtain ⟨a1, a2, a3, a4⟩ := one_ofR ha
  have ha' : ∀ M, ofIntsR .u8 (objs ++ M) a = some l := fun M => ofIntsR_app ha
  have hf := fitC (.bool n) (.int .i64 i) (.lst .frozen (ints .u8 l) l.length) rfl rfl rfl rfl rfl rfl
  refine .go _ rfl rfl ?_
  simp -implicitDefEqProofs (disch := omega) [a1, a2, a3, a4, c_CopyR, k_CopyR, ha', hf, setCells])
noncomputable def k_TwinRow : Ab.Spec := con1 some fun v objs => match rowR objs v with | some row => bnd (row.length * 40) 140737488355328 (some (.lst (.fresh 3 true) (flatV ceV (row.map (tw objs))) row.length, none)) | none => none
noncomputable def T_TwinRow : CallF := withF T_Twin 24 k_TwinRow
theorem T_TwinRow_ok : CallOk Tryd.prog T_TwinRow := con_of (A := annOf [] [5,19] [] false []) fit T_Twin_ok (fn := Tryd.f24) (by kernel_rfl) (by kernel_rfl) (by
  intro args objs r h0
  have c_Twin : ∀ a o, T_Twin 59 a o = k_Twin a o := fun _ _ => rfl
  obtain ⟨v, _, rfl, hv, hR⟩ := con1_inv h0
  cases hv
  split at hR
  case h_2 => cases hR
  rename_i row hr
  obtain ⟨hl, hR⟩ := bnd_inv hR
  cases hR
  obtain ⟨hw, vd, vn, vi, vk⟩ := rowF hr
  refine .go _ rfl rfl ?_
  simp -implicitDefEqProofs [clit0]
  obtain ⟨I, hI⟩ : ∃ I : Nat → St → Prop, I = (fun (i : Nat) (z : St) => z.env 0 = v ∧ z.env 3 = .ref objs.length i 0 i 3 ∧ z.env 4 = .int .i64 i ∧ z.toks = [] ∧ z.objs = objs ++ [.cells (flatV ceV ((row.map (tw objs)).take i)) i] ∧ z.low = objs.length) := ⟨_, rfl⟩
  refine .up row.length I (by rw [hI]; exact ⟨by simp, by simp, by simp, rfl, by simp [flatV], rfl⟩) ?_
  intro i z hi hz
  rw [hI] at hz
  obtain ⟨e0, e3, e4, ht, ho, hlo⟩ := hz
  have hml : (row.map (tw objs)).length = row.length := by simp
  have hfl : (flatV ceV ((row.map (tw objs)).take i)).length = i * 3 := by rw [flatV_len ceV_len, List.length_take, hml]; omega
  rcases Nat.lt_or_ge i row.length with h | h
  case inr =>
    obtain rfl : i = row.length := by omega
    rw [List.take_of_length_le (by omega)] at ho hfl
    have hrf := tw_refs objs row objs.length
    simp -implicitDefEqProofs (disch := omega) [e0, e3, e4, ht, ho, hlo, vn, hfl, hrf]
  have ix := vi i h
  have hold := Old.ext objs [.cells (flatV ceV ((row.map (tw objs)).take i)) i]
  obtain ⟨g1, -⟩ := row_at (hw.old hold) h
  obtain ⟨k1, k2, k3, k4⟩ := ceOk_inv (ce_old (vk i h) hold).1
  have hb := (ce_old (vk i h) hold).2
  rw [hb] at k2 k3 k4
  have hs := take_nth (l := row.map (tw objs)) (i := i) (by omega)
  rw [nth_map h] at hs
  have hs2 : flatV ceV ((row.map (tw objs)).take i) ++ ceV (tw objs (nth row i)) = flatV ceV ((row.map (tw objs)).take (i + 1)) := by rw [flatV_snoc, ← hs]
  obtain ⟨x, hxx⟩ : ∃ x, x = nth row i := ⟨_, rfl⟩
  rw [← hxx] at g1 k1 k2 k3 k4 hs2
  obtain ⟨B, hB⟩ : ∃ B, B = x.b objs := ⟨_, rfl⟩
  have htw : ceV (tw objs x) = [.bool x.n, .int .i64 x.i, .lst .frozen (ints .u8 B) B.length] := by rw [hB]; rfl
  rw [htw] at hs2
  rw [← hB] at k2 k3 k4
  obtain ⟨xn, xi, xv⟩ := x
  simp only at k1 k2 k3 k4 hs2 g1
  obtain ⟨a1, a2, a3, a4⟩ := one_ofR k2
  have hm : (i * 3 + 3) = (i + 1) * 3 := by omega
  simp -implicitDefEqProofs (disch := omega) [e0, e3, e4, ht, ho, hlo, vn, ix, h, g1, ceV, a1, a2, a3, a4, c_Twin, k_Twin, k2, k4, clit1, hfl, hs2, hm, wrap_small]
  rw [hI]
  exact ⟨by simp [e0], by simp, by simp, rfl, by simp, by simp⟩)
def twS (objs : List AO) (s : Se) : Se := ⟨s.c, tw objs s.x⟩
theorem twS_ok {objs O : List AO} {s : Se} (h : seOk objs s = true) : seOk O (twS objs s) = true := by
  obtain ⟨h1, h2⟩ := seOk_inv h
  unfold seOk
  rw [show (twS objs s).x = tw objs s.x from rfl, (tw_ok h2).1, show (twS objs s).c = s.c from rfl, h1]; rfl
theorem twS_refs (objs : List AO) (l : List Se) (b : Nat) : norefs b (flatV seV (l.map (twS objs))) = true := norefs_iff.2 fun v hv => by
  obtain ⟨c, hc, h⟩ := List.mem_flatMap.1 hv
  obtain ⟨x, -, rfl⟩ := List.mem_map.1 hc
  simp only [seV, ceV, twS, tw, List.mem_cons, List.not_mem_nil, or_false] at h
  rcases h with rfl | rfl | rfl | rfl <;> simp
theorem twS_row {objs O : List AO} {l : List Se} (h : ∀ x ∈ l, seOk objs x = true) : setsR O (.lst .frozen (flatV seV (l.map (twS objs))) l.length) = some (l.map (twS objs)) := by
  have hl : l.length = (l.map (twS objs)).length := by simp
  rw [hl]
  exact recR_lst seV_len fun x hx => by
    obtain ⟨y, hy, rfl⟩ := List.mem_map.1 hx
    exact seD_ok.2 (twS_ok (h y hy))
theorem slit0 : listV Tryd.prog 26 0 [] = some ([], 4) := by simp [listV, fillV, zeros]
theorem slit1 (a b c d : V) : listV Tryd.prog 26 1 [(0, .agg [a, b, c, d])] = some ([a, b, c, d], 4) := by simp [listV, fillV, zeros, setCells]
theorem fitS (a b c d : V) (ha : isDef a = true) (ha' : cellsOf a = [a]) : fillV (placeOf Tryd.prog 84) [.int .i64 0, .bool false, .int .i64 0, .nils] [(0, a), (1, .agg [b, c, d])] = some [a, b, c, d] := by simp [-isDef_eq, -cellsOf_eq, fillV, setCells, ha, ha', show isDef (.agg [b, c, d]) = true from rfl, show cellsOf (.agg [b, c, d]) = [b, c, d] from rfl]
noncomputable def k_TwinSets : Ab.Spec := con1 some fun v objs => match setsR objs v with | some l => bnd (l.length * 48) 140737488355328 (some (.lst (.fresh 4 false) (flatV seV (l.map (twS objs))) l.length, none)) | none => none
noncomputable def T_TwinSets : CallF := withF T_TwinRow 25 k_TwinSets
theorem T_TwinSets_ok : CallOk Tryd.prog T_TwinSets := con_of (A := annOf [5] [] [] false []) fit T_TwinRow_ok (fn := Tryd.f25) (by kernel_rfl) (by kernel_rfl) (by
  intro args objs r h0
  have c_Twin : ∀ a o, T_TwinRow 59 a o = k_Twin a o := fun _ _ => rfl
  obtain ⟨v, _, rfl, hv, hR⟩ := con1_inv h0
  cases hv
  split at hR
  case h_2 => cases hR
  rename_i row hr
  obtain ⟨hl, hR⟩ := bnd_inv hR
  cases hR
  obtain ⟨hw, vd, vn, vi, vk⟩ := setsF hr
  refine .go _ rfl rfl ?_
  simp -implicitDefEqProofs [slit0]
  obtain ⟨I, hI⟩ : ∃ I : Nat → St → Prop, I = (fun (i : Nat) (z : St) => z.env 0 = v ∧ z.env 3 = .lst (.tok 0 4) (flatV seV ((row.map (twS objs)).take i)) i ∧ z.env 4 = .int .i64 i ∧ z.toks = [i * 4] ∧ z.objs = objs ∧ z.low = objs.length) := ⟨_, rfl⟩
  refine .up row.length I (by rw [hI]; exact ⟨by simp, by simp [flatV], by simp, by simp, rfl, rfl⟩) ?_
  intro i z hi hz
  rw [hI] at hz
  obtain ⟨e0, e3, e4, ht, ho, hlo⟩ := hz
  have hml : (row.map (twS objs)).length = row.length := by simp
  have hfl : (flatV seV ((row.map (twS objs)).take i)).length = i * 4 := by rw [flatV_len seV_len, List.length_take, hml]; omega
  rcases Nat.lt_or_ge i row.length with h | h
  case inr =>
    obtain rfl : i = row.length := by omega
    rw [List.take_of_length_le (by omega)] at e3 hfl
    have hrf := twS_refs objs row objs.length
    simp -implicitDefEqProofs (disch := omega) [e0, e3, e4, ht, ho, hlo, vn, hfl, hrf]
  have ix := vi i h
  obtain ⟨-, g1, g2, -⟩ := set_at hw h
  obtain ⟨k1, k2, k3, k4⟩ := ceOk_inv (seOk_inv (vk i h)).2
  have hs := take_nth (l := row.map (twS objs)) (i := i) (by omega)
  rw [nth_map h] at hs
  have hs2 : flatV seV ((row.map (twS objs)).take i) ++ seV (twS objs (nth row i)) = flatV seV ((row.map (twS objs)).take (i + 1)) := by rw [flatV_snoc, ← hs]
  obtain ⟨S, hxx⟩ : ∃ x, x = nth row i := ⟨_, rfl⟩
  rw [← hxx] at g1 g2 k1 k2 k3 k4 hs2
  obtain ⟨c, x⟩ := S
  simp only at g1 g2 k1 k2 k3 k4
  obtain ⟨B, hB⟩ : ∃ B, B = x.b objs := ⟨_, rfl⟩
  have htw : seV (twS objs ⟨c, x⟩) = [.int .i64 c, .bool x.n, .int .i64 x.i, .lst .frozen (ints .u8 B) B.length] := by rw [hB]; rfl
  rw [htw] at hs2
  rw [← hB] at k2 k3 k4
  obtain ⟨xn, xi, xv⟩ := x
  simp only at k1 k2 k3 k4 hs2 g2
  obtain ⟨a1, a2, a3, a4⟩ := one_ofR k2
  have hm : (i * 4 + 4) = (i + 1) * 4 := by omega
  have hfit := fitS (.int .i64 c) (.bool xn) (.int .i64 xi) (.lst .frozen (ints .u8 B) B.length) rfl rfl
  simp -implicitDefEqProofs (disch := omega) [e0, e3, e4, ht, ho, hlo, vn, ix, h, g1, g2, set_f0, set_f1, ceV, a1, a2, a3, a4, c_Twin, k_Twin, k2, k4, hfit, slit1, hfl, hs2, hm, wrap_small]
  rw [hI]
  exact ⟨by simp [e0], by simp, by simp, rfl, rfl, rfl⟩)

end Go.Proofs.YtnbgmclbbkfhhaaDoor.B
set_option maxRecDepth 20000
set_option maxHeartbeats 1000000
namespace Go.Proofs.YtnbgmclbbkfhhaaDoor.B
open Go Go.Ab
theorem fitO (k : Int) (a b : V) (ha : isDef a = true) (hb : isDef b = true) (ha' : cellsOf a = [a]) (hb' : cellsOf b = [b]) : fillV (placeOf Tryd.prog 28) [.int .i64 0, .nils, .nils] [(0, .int .i64 k), (1, a), (2, b)] = some [.int .i64 k, a, b] := by simp [-isDef_eq, -cellsOf_eq, fillV, setCells, ha, hb, ha', hb', show isDef (.int .i64 k) = true from rfl, show cellsOf (.int .i64 k) = [.int .i64 k] from rfl]
def twL (objs : List AO) (row : List Ce) : V := .lst .frozen (flatV ceV (row.map (tw objs))) row.length
def twSL (objs : List AO) (l : List Se) : V := .lst .frozen (flatV seV (l.map (twS objs))) l.length
noncomputable def k_TwinOp : Ab.Spec := con1 some fun p objs => match opD objs p with
  | some (k, row, sets) => bnd (row.length * 40) 140737488355328 (bnd (sets.length * 48) 140737488355328 (some (.agg [.int .i64 k, twL objs row, twSL objs sets], none)))
  | none => none
noncomputable def T_TwinOp : CallF := withF T_TwinSets 11 k_TwinOp
theorem T_TwinOp_ok : CallOk Tryd.prog T_TwinOp := con_of (A := annOf [] [] [] false []) fit T_TwinSets_ok (fn := Tryd.f11) (by kernel_rfl) (by kernel_rfl) (by
  intro args objs r h0
  have c_TwinRow : ∀ a o, T_TwinSets 24 a o = k_TwinRow a o := fun _ _ => rfl
  have c_TwinSets : ∀ a o, T_TwinSets 25 a o = k_TwinSets a o := fun _ _ => rfl
  obtain ⟨p, _, rfl, hp, hR⟩ := con1_inv h0
  cases hp
  split at hR
  case h_2 => cases hR
  rename_i k row sets hop
  obtain ⟨hl1, hR⟩ := bnd_inv hR
  obtain ⟨hl2, hR⟩ := bnd_inv hR
  cases hR
  obtain ⟨r, u, rfl, hr, hu, hul, -⟩ := opD_inv hop
  obtain ⟨hr1, rd, rn, ri, rk⟩ := rowF hr
  obtain ⟨hu1, ud, un, ui, uk⟩ := setsF hu
  have ra := hr1.isDef
  have rc := hr1.cells
  have ro := hr1.one
  have ua := hu1.isDef
  have uc := hu1.cells
  have uo := hu1.one
  have hold := Old.ext objs [.cells [.int .i64 k, r, u] 0, .cells [.int .i64 0, .nils, .nils] 0]
  have hr2 := rowR_old hr hold
  have hu2 := setsR_old hu hold
  have e1 : ∀ O, Old objs O → row.map (tw O) = row.map (tw objs) := fun O ho => List.map_congr_left fun x hx => by
    have hk : ceOk objs x = true := (rowR_inv hr).2 x hx
    unfold tw; rw [(ce_old hk ho).2]
  have e2 : ∀ O, Old objs O → sets.map (twS O) = sets.map (twS objs) := fun O ho => List.map_congr_left fun s hs => by
    have hk := seOk_inv ((setsR_inv hu).2 s hs)
    unfold twS tw; rw [(ce_old hk.2 ho).2]
  have e1' := e1 _ hold
  have e2' := e2 _ hold
  have f1 := tw_refs objs row objs.length
  have f2 := twS_refs objs sets objs.length
  have hf := fitO k (twL objs row) (twSL objs sets) rfl rfl rfl rfl
  unfold twL twSL at hf
  refine .go _ rfl rfl ?_
  simp -implicitDefEqProofs (disch := omega) [rd, ud, ra, rc, ro, ua, uc, uo, c_TwinRow, k_TwinRow, hr2, c_TwinSets, k_TwinSets, hu2, e1', e2', hf, setCells, twL, twSL, f1, f2])
/-! what stands still -/
section
variable {b n : Nat} {O : List AO}
theorem still_agg {cs : List V} : stillV b O (n + 1) (.agg cs) = (stillL (stillV b O n) cs).map .agg := rfl
theorem still_int {k : IntKind} {i : Int} : stillV b O (n + 1) (.int k i) = some (.int k i) := rfl
theorem still_bool {i : Bool} : stillV b O (n + 1) (.bool i) = some (.bool i) := rfl
theorem still_str {i : ByteArray} : stillV b O (n + 1) (.str i) = some (.str i) := rfl
theorem still_nils : stillV b O (n + 1) .nils = some .nils := rfl
theorem still_ref {id ver off len e : Nat} : stillV b O (n + 1) (.ref id ver off len e) = if id < b then some (.ref id ver off len e) else match Ab.getObj O id ver with
      | some cs => if off + len * e ≤ cs.length then (stillL (stillV b O n) ((cs.drop off).take (len * e))).map fun cs => .lst .frozen cs len else none
      | none => none := rfl
theorem still_lst {k : LK} {cs : List V} {len : Nat} : stillV b O (n + 1) (.lst k cs len) = (stillL (stillV b O n) cs).map fun cs => .lst .frozen cs len := rfl
theorem stillL_nil {g : V → Option V} : stillL g [] = some [] := rfl
theorem stillL_cons {g : V → Option V} {v : V} {vs : List V} : stillL g (v :: vs) = match g v, stillL g vs with | some a, some b => some (a :: b) | _, _ => none := rfl
end
attribute [simp] still_agg still_int still_bool still_str still_nils still_ref still_lst stillL_nil stillL_cons
/-! schemas as new memory -/
theorem llitCo (a b c : V) : listV Tryd.prog 22 1 [(0, .agg [a, b, c])] = some ([a, b, c], 3) := by simp [listV, fillV, zeros, setCells]
theorem still_scal {base n : Nat} {objs : List AO} : ∀ {cs : List V}, cs.all scalar = true → stillL (stillV base objs (n + 1)) cs = some cs
  | [], _ => rfl
  | v :: vs, h => by
    simp only [List.all_cons, Bool.and_eq_true] at h
    have e : stillV base objs (n + 1) v = some v := by
      have := h.1
      unfold stillV
      cases v <;> first | (simp [scalar] at this; done) | rfl
    unfold stillL
    rw [e, still_scal h.2]
theorem coV_scal (cols : List Co) : (flatV coV cols).all scalar = true := List.all_eq_true.2 fun v hv => by
  obtain ⟨c, -, h⟩ := List.mem_flatMap.1 hv
  simp only [coV, List.mem_cons, List.not_mem_nil, or_false] at h
  rcases h with rfl | rfl | rfl <;> rfl
theorem coV_one (cols : List Co) : (flatV coV cols).all oneCell = true := List.all_eq_true.2 fun v hv => by
  obtain ⟨c, -, h⟩ := List.mem_flatMap.1 hv
  simp only [coV, List.mem_cons, List.not_mem_nil, or_false] at h
  rcases h with rfl | rfl | rfl <;> rfl
def colsOut (cols : List Co) : V := if cols = [] then .nils else .lst .frozen (flatV coV cols) cols.length
theorem colsOut_rec (objs : List AO) (cols : List Co) : recR coD 3 objs (colsOut cols) = some cols := by
  unfold colsOut
  split
  · rename_i h; rw [h]; rfl
  · exact recR_lst coV_len fun a _ => coD_coV a
theorem fitSc (K : Int) : fillV (placeOf Tryd.prog 24) [.nils, .int .i64 0] [(1, .int .i64 K)] = some [.nils, .int .i64 K] := by simp [fillV, setCells]
def outV (n i : Nat) : V := if i = 0 then .nils else .ref (n + 3) (i - 1) 0 i 3
def outO (cols : List Co) (i : Nat) : List AO := if i = 0 then [] else [.cells (flatV coV (cols.take i)) (i - 1)]
noncomputable def k_TwinSchema : Ab.Spec := con1 some fun s objs => match schD objs s with
  | some (cols, K) => bnd (cols.length * 32) 140737488355328 (some (.agg [colsOut cols, .int .i64 K], none))
  | none => none
noncomputable def T_TwinSchema : CallF := withF T_TwinOp 10 k_TwinSchema
theorem T_TwinSchema_ok : CallOk Tryd.prog T_TwinSchema := con_of (A := annOf [] [23] [] false [] false true) fit T_TwinOp_ok (fn := Tryd.f10) (by kernel_rfl) (by kernel_rfl) (by
  intro args objs r h0
  obtain ⟨s, _, rfl, hs, hR⟩ := con1_inv h0
  cases hs
  split at hR
  case h_2 => cases hR
  rename_i cols K hsc
  obtain ⟨hl4, hR⟩ := bnd_inv hR
  cases hR
  obtain ⟨v, rfl, hv, vd, vo, vf, vc, vn, vi, hc, hl⟩ := schF hsc
  have hfit := fitSc K
  refine .go _ rfl rfl ?_
  simp -implicitDefEqProofs (disch := omega) [vd, hfit, setCells]
  obtain ⟨I, hI⟩ : ∃ I : Nat → St → Prop, I = (fun (i : Nat) (z : St) => z.env 1 = .ptr objs.length 0 0 ∧ z.env 2 = .ptr (objs.length + 1) 0 0 ∧ z.env 3 = .ptr (objs.length + 2) 0 0 ∧ z.env 4 = .int .i64 i ∧ z.toks = [] ∧ z.low = objs.length ∧
    z.objs = objs ++ (.cells [v, .int .i64 K] 0 :: .cells [.nils, .int .i64 0] 0 :: .cells [outV objs.length i, .int .i64 K] 0 :: outO cols i)) := ⟨_, rfl⟩
  refine .up cols.length I (by rw [hI]; exact ⟨by simp, by simp, by simp, by simp, rfl, rfl, by simp [outV, outO]⟩) ?_
  intro i z hi hz
  rw [hI] at hz
  obtain ⟨e1, e2, e3, e4, ht, hlo, ho⟩ := hz
  rcases Nat.lt_or_ge i cols.length with h | h
  case inr =>
    obtain rfl : i = cols.length := by omega
    rcases Nat.eq_zero_or_pos cols.length with z0 | z0
    · have hnil := List.eq_nil_of_length_eq_zero z0
      simp only [outV, outO, z0, if_true] at ho e4
      have hco : colsOut cols = .nils := if_pos hnil
      simp -implicitDefEqProofs (disch := omega) [e1, e2, e3, e4, ht, ho, hlo, vd, vn, z0, hco, setCells]
    · have hz0 : ¬ cols.length = 0 := by omega
      have hnn : ¬ cols = [] := fun q => hz0 (by rw [q]; rfl)
      simp only [outV, outO, if_neg hz0, List.take_length] at ho
      have hco : colsOut cols = .lst .frozen (flatV coV cols) cols.length := if_neg hnn
      have hfl := flatV_len coV_len cols
      have hst := fun O => still_scal (base := objs.length) (n := 6) (objs := O) (coV_scal cols)
      have htk : (flatV coV cols).take (cols.length * 3) = flatV coV cols := List.take_of_length_le (by omega)
      simp -implicitDefEqProofs (disch := omega) [e1, e2, e3, e4, ht, ho, hlo, vd, vn, hco, setCells, hst, hfl, htk]
  have ix := vi i h
  obtain ⟨g1, -⟩ := col_get (hv.old (Old.ext objs (.cells [v, .int .i64 K] 0 :: .cells [.nils, .int .i64 0] 0 :: .cells [outV objs.length i, .int .i64 K] 0 :: outO cols i))) h
  have hsn := take_nth h
  have hs2 : flatV coV (cols.take i) ++ coV (nth cols i) = flatV coV (cols.take (i + 1)) := by rw [flatV_snoc, ← hsn]
  obtain ⟨c, hcc⟩ : ∃ c, c = nth cols i := ⟨_, rfl⟩
  rw [← hcc] at g1 hs2
  obtain ⟨nm, k, nl⟩ := c
  have hw : IntKind.i64.wrap ((i : Int) + 1) = (i : Int) + 1 := wrap_small (by omega) (by omega)
  have hfl : (flatV coV (cols.take i)).length = i * 3 := by rw [flatV_len coV_len, List.length_take]; omega
  simp only [coV] at g1 hs2
  have hl1 := llitCo (.str nm) (.int .i64 k) (.bool nl)
  rcases Nat.eq_zero_or_pos i with z0 | z0
  · subst z0
    simp only [outV, outO, if_true] at ho g1
    have hs3 : flatV coV (cols.take 1) = [.str nm, .int .i64 k, .bool nl] := by rw [← hs2]; simp [flatV]
    have ix0 : indexV Tryd.prog 22 v (.int .i64 0) = some (ptAt v (flatV coV cols) 0) := by simpa using ix
    rw [Nat.zero_mul] at g1
    simp -implicitDefEqProofs (disch := omega) [e1, e2, e3, e4, ht, ho, hlo, vd, vn, h, ix0, g1, hl1, setCells, show IntKind.i64.wrap 1 = 1 from rfl]
    rw [hI]
    exact ⟨by simp [e1], by simp [e2], by simp [e3], by simp, rfl, by simp, by simp [outV, outO, hs3]⟩
  · have hz0 : ¬ i = 0 := by omega
    simp only [outV, outO, if_neg hz0] at ho g1
    have hver : i - 1 + 1 = i := by omega
    have hm : i * 3 + 3 = (i + 1) * 3 := by omega
    simp -implicitDefEqProofs (disch := omega) [e1, e2, e3, e4, ht, ho, hlo, vd, vn, h, ix, g1, hl1, setCells, hw, hfl, hs2, hver, hm]
    rw [hI]
    exact ⟨by simp [e1], by simp [e2], by simp [e3], by simp, rfl, by simp, by simp [outV, outO, hs2, hver]⟩)

end Go.Proofs.YtnbgmclbbkfhhaaDoor.B
set_option maxRecDepth 20000
set_option maxHeartbeats 1000000
namespace Go.Proofs.YtnbgmclbbkfhhaaDoor.B
open Go Go.Ab
def Ce.t (objs : List AO) (x : Ce) : Bool × Int × List Int := (x.n, x.i, x.b objs)
def Se.t (objs : List AO) (s : Se) : Int × Bool × Int × List Int := (s.c, s.x.t objs)
theorem Ce.t_old {objs O : List AO} {x : Ce} (h : ceOk objs x = true) (ho : Old objs O) : x.t O = x.t objs := by unfold Ce.t; rw [(ce_old h ho).2]
theorem t_tw {objs O : List AO} {x : Ce} (h : ceOk objs x = true) : (tw objs x).t O = x.t objs := by unfold Ce.t; rw [(tw_ok h).2]; rfl
theorem tm_tw {objs O : List AO} {row : List Ce} (h : ∀ x ∈ row, ceOk objs x = true) : (row.map (tw objs)).map (Ce.t O) = row.map (Ce.t objs) := by
  rw [List.map_map]; exact List.map_congr_left fun x hx => t_tw (h x hx)
theorem tm_twS {objs O : List AO} {l : List Se} (h : ∀ x ∈ l, seOk objs x = true) : (l.map (twS objs)).map (Se.t O) = l.map (Se.t objs) := by
  rw [List.map_map]; exact List.map_congr_left fun x hx => by show (_, _) = (_, _); rw [show (twS objs x).x = tw objs x.x from rfl, t_tw (seOk_inv (h x hx)).2]; rfl
noncomputable def k_AlikeRow : Ab.Spec := con2 some some fun v w objs => match rowR objs v, rowR objs w with
  | some a, some b => bnd a.length 140737488355328 (pre (a.map (Ce.t objs) = b.map (Ce.t objs)) (some (.bool true, none)))
  | _, _ => none
noncomputable def T_AlikeRow : CallF := withF T_TwinSchema 28 k_AlikeRow
theorem T_AlikeRow_ok : CallOk Tryd.prog T_AlikeRow := con_of (A := annOf [] [] [] false []) fit T_TwinSchema_ok (fn := Tryd.f28) (by kernel_rfl) (by kernel_rfl) (by
  intro args objs r h0
  have c_Alike : ∀ a o, T_TwinSchema 47 a o = k_Alike a o := fun _ _ => rfl
  obtain ⟨v, w, _, _, rfl, hv, hw, hR⟩ := con2_inv h0
  cases hv; cases hw
  split at hR
  case h_2 => cases hR
  rename_i a b ha hb
  obtain ⟨hl, hR⟩ := bnd_inv hR
  obtain ⟨he, hR⟩ := pre_inv hR
  cases hR
  obtain ⟨ha1, ad, an, ai, ak⟩ := rowF ha
  obtain ⟨hb1, bd, bn, bi, bk⟩ := rowF hb
  have hn : a.length = b.length := by have := congrArg List.length he; simpa using this
  have hat : ∀ i, i < a.length → (nth a i).t objs = (nth b i).t objs := fun i hi => by
    have h1 := nth_map (g := Ce.t objs) hi
    have h2 := nth_map (g := Ce.t objs) (l := b) (i := i) (by omega)
    rw [he, h2] at h1
    exact h1.symm
  refine .go _ rfl rfl ?_
  simp -implicitDefEqProofs (disch := omega) [an, bn, hn]
  obtain ⟨I, hI⟩ : ∃ I : Nat → St → Prop, I = (fun (i : Nat) (z : St) => z.env 0 = v ∧ z.env 1 = w ∧ z.env 5 = .int .i64 i ∧ z.toks = [] ∧ z.objs = objs ∧ z.low = objs.length) := ⟨_, rfl⟩
  refine .up a.length I (by rw [hI]; exact ⟨by simp, by simp, by simp, rfl, rfl, rfl⟩) ?_
  intro i z hi hz
  rw [hI] at hz
  obtain ⟨e0, e1, e5, ht, ho, hlo⟩ := hz
  rcases Nat.lt_or_ge i a.length with h | h
  case inr =>
    have hnl : ¬ i < b.length := by omega
    have hnl2 : ¬ i < a.length := by omega
    simp -implicitDefEqProofs (disch := omega) [e0, e1, e5, ht, ho, hlo, an, bn, hn, hnl, hnl2]
  have hib : i < b.length := by omega
  have ix := ai i h
  have jx := bi i hib
  obtain ⟨g1, -⟩ := row_at ha1 h
  obtain ⟨g2, -⟩ := row_at hb1 hib
  obtain ⟨k1, k2, k3, k4⟩ := ceOk_inv (ak i h)
  obtain ⟨l1, l2, l3, l4⟩ := ceOk_inv (bk i hib)
  have hq := hat i h
  obtain ⟨x, hx⟩ : ∃ x, x = nth a i := ⟨_, rfl⟩
  obtain ⟨y, hy⟩ : ∃ y, y = nth b i := ⟨_, rfl⟩
  rw [← hx] at g1 k1 k2 k3 k4 hq
  rw [← hy] at g2 l1 l2 l3 l4 hq
  obtain ⟨B, hB⟩ : ∃ B, B = x.b objs := ⟨_, rfl⟩
  obtain ⟨C, hC⟩ : ∃ C, C = y.b objs := ⟨_, rfl⟩
  unfold Ce.t at hq
  rw [← hB, ← hC] at hq
  rw [← hB] at k2 k4
  rw [← hC] at l2 l4
  obtain ⟨xn, xi, xv⟩ := x
  obtain ⟨yn, yi, yv⟩ := y
  simp only [Prod.mk.injEq] at hq
  obtain ⟨rfl, rfl, rfl⟩ := hq
  obtain ⟨a1, a2, a3, a4⟩ := one_ofR k2
  obtain ⟨c1, c2, c3, c4⟩ := one_ofR l2
  have hil : i < b.length := hib
  simp -implicitDefEqProofs (disch := omega) [e0, e1, e5, ht, ho, hlo, an, bn, hn, h, hil, ix, jx, g1, g2, ceV, a1, a2, a3, a4, c1, c2, c3, c4, c_Alike, k_Alike, k2, l2, k4, wrap_small]
  rw [hI]
  exact ⟨by simp [e0], by simp [e1], by simp, rfl, rfl, rfl⟩)
noncomputable def k_AlikeSets : Ab.Spec := con2 some some fun v w objs => match setsR objs v, setsR objs w with
  | some a, some b => bnd a.length 140737488355328 (pre (a.map (Se.t objs) = b.map (Se.t objs)) (some (.bool true, none)))
  | _, _ => none
noncomputable def T_AlikeSets : CallF := withF T_AlikeRow 31 k_AlikeSets
theorem T_AlikeSets_ok : CallOk Tryd.prog T_AlikeSets := con_of (A := annOf [] [] [] false []) fit T_AlikeRow_ok (fn := Tryd.f31) (by kernel_rfl) (by kernel_rfl) (by
  intro args objs r h0
  have c_Alike : ∀ a o, T_AlikeRow 47 a o = k_Alike a o := fun _ _ => rfl
  obtain ⟨v, w, _, _, rfl, hv, hw, hR⟩ := con2_inv h0
  cases hv; cases hw
  split at hR
  case h_2 => cases hR
  rename_i a b ha hb
  obtain ⟨hl, hR⟩ := bnd_inv hR
  obtain ⟨he, hR⟩ := pre_inv hR
  cases hR
  obtain ⟨ha1, ad, an, ai, ak⟩ := setsF ha
  obtain ⟨hb1, bd, bn, bi, bk⟩ := setsF hb
  have hn : a.length = b.length := by have := congrArg List.length he; simpa using this
  have hat : ∀ i, i < a.length → (nth a i).t objs = (nth b i).t objs := fun i hi => by
    have h1 := nth_map (g := Se.t objs) hi
    have h2 := nth_map (g := Se.t objs) (l := b) (i := i) (by omega)
    rw [he, h2] at h1
    exact h1.symm
  refine .go _ rfl rfl ?_
  simp -implicitDefEqProofs (disch := omega) [an, bn, hn]
  obtain ⟨I, hI⟩ : ∃ I : Nat → St → Prop, I = (fun (i : Nat) (z : St) => z.env 0 = v ∧ z.env 1 = w ∧ z.env 5 = .int .i64 i ∧ z.toks = [] ∧ z.objs = objs ∧ z.low = objs.length) := ⟨_, rfl⟩
  refine .up a.length I (by rw [hI]; exact ⟨by simp, by simp, by simp, rfl, rfl, rfl⟩) ?_
  intro i z hi hz
  rw [hI] at hz
  obtain ⟨e0, e1, e5, ht, ho, hlo⟩ := hz
  rcases Nat.lt_or_ge i a.length with h | h
  case inr =>
    have hnl : ¬ i < b.length := by omega
    have hnl2 : ¬ i < a.length := by omega
    simp -implicitDefEqProofs (disch := omega) [e0, e1, e5, ht, ho, hlo, an, bn, hn, hnl, hnl2]
  have hib : i < b.length := by omega
  have ix := ai i h
  have jx := bi i hib
  obtain ⟨-, g1, g1', -⟩ := set_at ha1 h
  obtain ⟨-, g2, g2', -⟩ := set_at hb1 hib
  obtain ⟨k1, k2, k3, k4⟩ := ceOk_inv (seOk_inv (ak i h)).2
  obtain ⟨l1, l2, l3, l4⟩ := ceOk_inv (seOk_inv (bk i hib)).2
  have hq := hat i h
  obtain ⟨x, hx⟩ : ∃ x, x = nth a i := ⟨_, rfl⟩
  obtain ⟨y, hy⟩ : ∃ y, y = nth b i := ⟨_, rfl⟩
  rw [← hx] at g1 g1' k1 k2 k3 k4 hq
  rw [← hy] at g2 g2' l1 l2 l3 l4 hq
  obtain ⟨xc, x⟩ := x
  obtain ⟨yc, y⟩ := y
  simp only at g1 g1' k1 k2 k3 k4 g2 g2' l1 l2 l3 l4
  obtain ⟨B, hB⟩ : ∃ B, B = x.b objs := ⟨_, rfl⟩
  obtain ⟨C, hC⟩ : ∃ C, C = y.b objs := ⟨_, rfl⟩
  unfold Se.t Ce.t at hq
  simp only at hq
  rw [← hB, ← hC] at hq
  rw [← hB] at k2 k4
  rw [← hC] at l2 l4
  obtain ⟨xn, xi, xv⟩ := x
  obtain ⟨yn, yi, yv⟩ := y
  simp only [Prod.mk.injEq] at hq
  obtain ⟨rfl, rfl, rfl, rfl⟩ := hq
  obtain ⟨a1, a2, a3, a4⟩ := one_ofR k2
  obtain ⟨c1, c2, c3, c4⟩ := one_ofR l2
  have hil : i < b.length := hib
  simp -implicitDefEqProofs (disch := omega) [e0, e1, e5, ht, ho, hlo, an, bn, hn, h, hil, ix, jx, g1, g1', g2, g2', set_f0, set_f1, ceV, a1, a2, a3, a4, c1, c2, c3, c4, c_Alike, k_Alike, k2, l2, k4, wrap_small]
  rw [hI]
  exact ⟨by simp [e0], by simp [e1], by simp, rfl, rfl, rfl⟩)
noncomputable def k_AlikeOp : Ab.Spec := con2 some some fun p q objs => match opD objs p, opD objs q with
  | some (k, a, s), some (k', b, u) => pre (k = k' ∧ a.map (Ce.t objs) = b.map (Ce.t objs) ∧ s.map (Se.t objs) = u.map (Se.t objs)) (some (.bool true, none))
  | _, _ => none
noncomputable def T_AlikeOp : CallF := withF T_AlikeSets 23 k_AlikeOp
theorem T_AlikeOp_ok : CallOk Tryd.prog T_AlikeOp := con_of (A := annOf [] [] [] false []) fit T_AlikeSets_ok (fn := Tryd.f23) (by kernel_rfl) (by kernel_rfl) (by
  intro args objs r h0
  have c_AlikeRow : ∀ a o, T_AlikeSets 28 a o = k_AlikeRow a o := fun _ _ => rfl
  have c_AlikeSets : ∀ a o, T_AlikeSets 31 a o = k_AlikeSets a o := fun _ _ => rfl
  obtain ⟨p, q, _, _, rfl, hp, hq, hR⟩ := con2_inv h0
  cases hp; cases hq
  split at hR
  case h_2 => cases hR
  rename_i k a s k' b u hop hop2
  obtain ⟨hk, hR2⟩ := pre_inv hR
  cases hR2
  obtain ⟨rfl, he1, he2⟩ := hk
  obtain ⟨r1, u1, rfl, hr1, hu1, hs1, hq1⟩ := opD_inv hop
  obtain ⟨r2, u2, rfl, hr2, hu2, hs2, hq2⟩ := opD_inv hop2
  have rd1 := (rowF hr1).2.1
  have rd2 := (rowF hr2).2.1
  have ud1 := (setsF hu1).2.1
  have ud2 := (setsF hu2).2.1
  have hold := Old.ext objs [.cells [.int .i64 k, r1, u1] 0, .cells [.int .i64 k, r2, u2] 0]
  have x1 := rowR_old hr1 hold
  have x2 := rowR_old hr2 hold
  have y1 := setsR_old hu1 hold
  have y2 := setsR_old hu2 hold
  have m1 : ∀ {w : V} {l : List Ce}, rowR objs w = some l → l.map (Ce.t (objs ++ [.cells [.int .i64 k, r1, u1] 0, .cells [.int .i64 k, r2, u2] 0])) = l.map (Ce.t objs) := fun h => List.map_congr_left fun x hx => Ce.t_old ((rowR_inv h).2 x hx) hold
  have m2 : ∀ {w : V} {l : List Se}, setsR objs w = some l → l.map (Se.t (objs ++ [.cells [.int .i64 k, r1, u1] 0, .cells [.int .i64 k, r2, u2] 0])) = l.map (Se.t objs) := fun h => List.map_congr_left fun x hx => by unfold Se.t; rw [Ce.t_old (seOk_inv ((setsR_inv h).2 x hx)).2 hold]
  have n1 := m1 hr1
  have n2 := m1 hr2
  have n3 := m2 hu1
  have n4 := m2 hu2
  refine .go _ rfl rfl ?_
  simp -implicitDefEqProofs (disch := omega) [rd1, rd2, ud1, ud2, c_AlikeRow, k_AlikeRow, c_AlikeSets, k_AlikeSets, x1, x2, y1, y2, n1, n2, n3, n4, he1, he2, hq1, hs1])
noncomputable def k_AlikeSchema : Ab.Spec := con2 some some fun s u objs => match schD objs s, schD objs u with
  | some (a, K), some (b, K') => pre (a = b ∧ K = K') (some (.bool true, none))
  | _, _ => none
noncomputable def T_AlikeSchema : CallF := withF T_AlikeOp 22 k_AlikeSchema
theorem T_AlikeSchema_ok : CallOk Tryd.prog T_AlikeSchema := con_of (A := annOf [] [] [] false []) fit T_AlikeOp_ok (fn := Tryd.f22) (by kernel_rfl) (by kernel_rfl) (by
  intro args objs r h0
  obtain ⟨s, u, _, _, rfl, hs, hu, hR⟩ := con2_inv h0
  cases hs; cases hu
  split at hR
  case h_2 => cases hR
  rename_i a K b K' hsc hsc2
  obtain ⟨hk, hR2⟩ := pre_inv hR
  cases hR2
  obtain ⟨rfl, rfl⟩ := hk
  obtain ⟨v, rfl, hv, vd, vo, vf, vc, vn, vi, hc, hl⟩ := schF hsc
  obtain ⟨w, rfl, hw, wd, wo, wf, wc, wn, wi, hc2, hl2⟩ := schF hsc2
  obtain ⟨O, hO⟩ : ∃ O, O = objs ++ [.cells [v, .int .i64 K] 0, .cells [w, .int .i64 K] 0] := ⟨_, rfl⟩
  have hold : Old objs O := by rw [hO]; exact Old.ext _ _
  have b1 : Ab.getObj O objs.length 0 = some [v, .int .i64 K] := by rw [hO]; simp
  have b2 : Ab.getObj O (objs.length + 1) 0 = some [w, .int .i64 K] := by rw [hO]; simp
  refine .go _ rfl rfl ?_
  simp -implicitDefEqProofs (disch := omega) [vd, wd, vn, wn]
  rw [← hO]
  obtain ⟨I, hI⟩ : ∃ I : Nat → St → Prop, I = (fun (i : Nat) (z : St) => z.env 2 = .ptr objs.length 0 0 ∧ z.env 3 = .ptr (objs.length + 1) 0 0 ∧ z.env 5 = .int .i64 i ∧ z.toks = [] ∧ z.objs = O ∧ z.low = objs.length) := ⟨_, rfl⟩
  refine .up a.length I (by rw [hI]; exact ⟨by simp, by simp, by simp, rfl, rfl, rfl⟩) ?_
  intro i z hi hz
  rw [hI] at hz
  obtain ⟨e2, e3, e5, ht, ho, hlo⟩ := hz
  rcases Nat.lt_or_ge i a.length with h | h
  case inr =>
    have hnl : ¬ i < a.length := by omega
    simp -implicitDefEqProofs (disch := omega) [e2, e3, e5, ht, ho, hlo, b1, b2, vd, wd, vn, wn, hnl]
  have ix := vi i h
  have jx := wi i h
  obtain ⟨g1, -⟩ := col_get (hv.old hold) h
  obtain ⟨g2, -⟩ := col_get (hw.old hold) h
  obtain ⟨c, hcc⟩ : ∃ c, c = nth a i := ⟨_, rfl⟩
  rw [← hcc] at g1 g2
  obtain ⟨nm, k, nl⟩ := c
  simp -implicitDefEqProofs (disch := omega) [e2, e3, e5, ht, ho, hlo, b1, b2, vd, wd, vn, wn, h, ix, jx, g1, g2, coV, eqCells, str_beq, wrap_small]
  rw [hI]
  exact ⟨by simp [e2], by simp [e3], by simp, rfl, rfl, rfl⟩)
/-! texts -/
theorem tlit0 : listV Tryd.prog 53 0 [] = some ([], 1) := by simp [listV, fillV, zeros]
theorem tlit1 {v : V} (h : isDef v = true) (hc : cellsOf v = [v]) : listV Tryd.prog 53 1 [(0, v)] = some ([v], 1) := by simp [-isDef_eq, -cellsOf_eq, listV, fillV, zeros, setCells, h, hc]
noncomputable def k_Texts : Ab.Spec := con1 some fun v objs => match rowR objs v with | some row => bnd (row.length * 24) 140737488355328 (some (.lst (.fresh 1 false) (row.map (·.v)) row.length, none)) | none => none
noncomputable def T_Texts : CallF := withF T_AlikeSchema 30 k_Texts
theorem T_Texts_ok : CallOk Tryd.prog T_Texts := con_of (A := annOf [5] [] [] false []) fit T_AlikeSchema_ok (fn := Tryd.f30) (by kernel_rfl) (by kernel_rfl) (by
  intro args objs r h0
  obtain ⟨v, _, rfl, hv, hR⟩ := con1_inv h0
  cases hv
  split at hR
  case h_2 => cases hR
  rename_i row hr
  obtain ⟨hl, hR⟩ := bnd_inv hR
  cases hR
  obtain ⟨hw, vd, vn, vi, vk⟩ := rowF hr
  refine .go _ rfl rfl ?_
  simp -implicitDefEqProofs [tlit0]
  obtain ⟨I, hI⟩ : ∃ I : Nat → St → Prop, I = (fun (i : Nat) (z : St) => z.env 0 = v ∧ z.env 3 = .lst (.tok 0 1) ((row.map (·.v)).take i) i ∧ z.env 4 = .int .i64 i ∧ z.toks = [i] ∧ z.objs = objs ∧ z.low = objs.length) := ⟨_, rfl⟩
  refine .up row.length I (by rw [hI]; exact ⟨by simp, by simp, by simp, by simp, rfl, rfl⟩) ?_
  intro i z hi hz
  rw [hI] at hz
  obtain ⟨e0, e3, e4, ht, ho, hlo⟩ := hz
  have hml : (row.map (·.v)).length = row.length := by simp
  have hfl : ((row.map (·.v)).take i).length = i := by rw [List.length_take, hml]; omega
  rcases Nat.lt_or_ge i row.length with h | h
  case inr =>
    obtain rfl : i = row.length := by omega
    rw [List.take_of_length_le (by omega)] at e3 hfl
    have hrf : norefs objs.length (row.map (·.v)) = true := norefs_iff.2 fun u hu => by
      obtain ⟨x, hx, rfl⟩ := List.mem_map.1 hu
      exact v_noref (ceOk_inv ((rowR_inv hr).2 x hx)).2.1 (Nat.le_refl _)
    simp -implicitDefEqProofs (disch := omega) [e0, e3, e4, ht, ho, hlo, vn, hfl, hrf]
  have ix := vi i h
  obtain ⟨-, g1⟩ := row_at hw h
  obtain ⟨k1, k2, k3, k4⟩ := ceOk_inv (vk i h)
  have hs := take_nth (l := row.map (·.v)) (i := i) (by omega)
  rw [nth_map h] at hs
  obtain ⟨x, hxx⟩ : ∃ x, x = nth row i := ⟨_, rfl⟩
  rw [← hxx] at g1 k2 hs
  obtain ⟨a1, a2, a3, a4⟩ := one_ofR k2
  obtain ⟨xn, xi, xv⟩ := x
  simp only at g1 hs a1 a2 a3 a4
  have hl1 := tlit1 a3 a4
  rw [a1] at g1
  simp -implicitDefEqProofs (disch := omega) [e0, e3, e4, ht, ho, hlo, vn, ix, h, cell_f2, g1, a1, a2, a3, a4, hl1, hfl, ← hs, Nat.mod_one, wrap_small]
  rw [hI]
  exact ⟨by simp [e0], by simp, by simp, rfl, rfl, rfl⟩)
noncomputable def k_SetTexts : Ab.Spec := con1 some fun v objs => match setsR objs v with | some row => bnd (row.length * 24) 140737488355328 (some (.lst (.fresh 1 false) (row.map (·.x.v)) row.length, none)) | none => none
noncomputable def T_SetTexts : CallF := withF T_Texts 44 k_SetTexts
theorem T_SetTexts_ok : CallOk Tryd.prog T_SetTexts := con_of (A := annOf [5] [] [] false []) fit T_Texts_ok (fn := Tryd.f44) (by kernel_rfl) (by kernel_rfl) (by
  intro args objs r h0
  obtain ⟨v, _, rfl, hv, hR⟩ := con1_inv h0
  cases hv
  split at hR
  case h_2 => cases hR
  rename_i row hr
  obtain ⟨hl, hR⟩ := bnd_inv hR
  cases hR
  obtain ⟨hw, vd, vn, vi, vk⟩ := setsF hr
  refine .go _ rfl rfl ?_
  simp -implicitDefEqProofs [tlit0]
  obtain ⟨I, hI⟩ : ∃ I : Nat → St → Prop, I = (fun (i : Nat) (z : St) => z.env 0 = v ∧ z.env 3 = .lst (.tok 0 1) ((row.map (·.x.v)).take i) i ∧ z.env 4 = .int .i64 i ∧ z.toks = [i] ∧ z.objs = objs ∧ z.low = objs.length) := ⟨_, rfl⟩
  refine .up row.length I (by rw [hI]; exact ⟨by simp, by simp, by simp, by simp, rfl, rfl⟩) ?_
  intro i z hi hz
  rw [hI] at hz
  obtain ⟨e0, e3, e4, ht, ho, hlo⟩ := hz
  have hml : (row.map (·.x.v)).length = row.length := by simp
  have hfl : ((row.map (·.x.v)).take i).length = i := by rw [List.length_take, hml]; omega
  rcases Nat.lt_or_ge i row.length with h | h
  case inr =>
    obtain rfl : i = row.length := by omega
    rw [List.take_of_length_le (by omega)] at e3 hfl
    have hrf : norefs objs.length (row.map (·.x.v)) = true := norefs_iff.2 fun u hu => by
      obtain ⟨x, hx, rfl⟩ := List.mem_map.1 hu
      exact v_noref (ceOk_inv (seOk_inv ((setsR_inv hr).2 x hx)).2).2.1 (Nat.le_refl _)
    simp -implicitDefEqProofs (disch := omega) [e0, e3, e4, ht, ho, hlo, vn, hfl, hrf]
  have ix := vi i h
  obtain ⟨-, -, -, g1⟩ := set_at hw h
  obtain ⟨k1, k2, k3, k4⟩ := ceOk_inv (seOk_inv (vk i h)).2
  have hs := take_nth (l := row.map (·.x.v)) (i := i) (by omega)
  rw [nth_map h] at hs
  obtain ⟨S, hxx⟩ : ∃ x, x = nth row i := ⟨_, rfl⟩
  rw [← hxx] at g1 k2 hs
  obtain ⟨a1, a2, a3, a4⟩ := one_ofR k2
  obtain ⟨c, xn, xi, xv⟩ := S
  simp only at g1 hs a1 a2 a3 a4
  have hl1 := tlit1 a3 a4
  rw [a1] at g1
  have hadd : i * 4 + 1 + 2 = i * 4 + 3 := rfl
  simp -implicitDefEqProofs (disch := omega) [e0, e3, e4, ht, ho, hlo, vn, ix, h, set_f1, cell_f2, hadd, g1, a1, a2, a3, a4, hl1, hfl, ← hs, Nat.mod_one, wrap_small]
  rw [hI]
  exact ⟨by simp [e0], by simp, by simp, rfl, rfl, rfl⟩)

end Go.Proofs.YtnbgmclbbkfhhaaDoor.B
set_option maxRecDepth 20000
set_option maxHeartbeats 1000000
namespace Go.Proofs.YtnbgmclbbkfhhaaDoor.B
open Go Go.Ab
def AG : Ann := ⟨fun f d => if f = 10 then (annOf [] [23] [] false [] false true).mode f d else if f = 11 then (annOf [] [] [] false []).mode f d else if f = 12 then (annOf [] [] [] false []).mode f d else if f = 13 then (annOf [] [] [] false []).mode f d else if f = 14 then (annOf [] [] [] false []).mode f d else if f = 15 then (annOf [] [] [] false []).mode f d else if f = 16 then (annOf [] [] [] false []).mode f d else if f = 17 then (annOf [] [] [] false []).mode f d else if f = 18 then (annOf [] [] [] false []).mode f d else if f = 19 then (annOf [] [] [] false []).mode f d else if f = 20 then (annOf [] [] [] false []).mode f d else if f = 21 then (annOf [] [] [] false []).mode f d else if f = 22 then (annOf [] [] [] false []).mode f d else if f = 23 then (annOf [] [] [] false []).mode f d else if f = 24 then (annOf [] [5,19] [] false []).mode f d else if f = 25 then (annOf [5] [] [] false []).mode f d else if f = 26 then (annOf [] [28] [] false []).mode f d else if f = 28 then (annOf [] [] [] false []).mode f d else if f = 29 then (annOf [] [] [] true [63]).mode f d else if f = 30 then (annOf [5] [] [] false []).mode f d else if f = 31 then (annOf [] [] [] false []).mode f d else if f = 32 then (annOf [18] [] [] false []).mode f d else if f = 37 then (annOf [21] [] [] false []).mode f d else if f = 38 then (annOf [] [] [] false [63]).mode f d else if f = 39 then (annOf [] [17] [(6, [.ref])] false []).mode f d else if f = 44 then (annOf [5] [] [] false []).mode f d else if f = 45 then (annOf [] [] [] false []).mode f d else if f = 46 then (annOf [8] [] [] false []).mode f d else if f = 47 then (annOf [] [] [] false []).mode f d else if f = 48 then (annOf [] [5,18] [] false []).mode f d else if f = 49 then (annOf [] [] [] false []).mode f d else if f = 50 then (annOf [9] [] [] false []).mode f d else if f = 52 then (annOf [] [] [] false []).mode f d else if f = 53 then (annOf [] [] [] false []).mode f d else if f = 54 then (annOf [] [] [] false []).mode f d else if f = 55 then (annOf [] [] [] false []).mode f d else if f = 56 then (annOf [] [] [] false []).mode f d else if f = 57 then (annOf [] [] [] false []).mode f d else if f = 58 then (annOf [] [] [] false []).mode f d else if f = 59 then (annOf [] [] [] false []).mode f d else if f = 60 then (annOf [] [5,7] [] false []).mode f d else if f = 63 then (annOf [] [] [] false []).mode f d else if f = 64 then (annOf [] [] [] false []).mode f d else if f = 66 then (annOf [20,26] [] [] false []).mode f d else if f = 67 then (annOf [] [4,13,20] [] false []).mode f d else if f = 68 then (annOf [999] [] [] false []).mode f d else if f = 71 then (annOf [] [] [] false []).mode f d else if f = 72 then (annOf [] [] [] false []).mode f d else if f = 73 then (annOf [] [] [] false []).mode f d else if f = 74 then (annOf [] [] [] false []).mode f d else if f = 75 then (annOf [] [] [] false []).mode f d else if f = 76 then (annOf [] [] [] false []).mode f d else if f = 77 then (annOf [] [] [] false []).mode f d else if f = 78 then (annOf [] [] [] false []).mode f d else if f = 79 then (annOf [] [] [] false []).mode f d else if f = 80 then (annOf [] [] [] false []).mode f d else if f = 81 then (annOf [5] [] [] false []).mode f d else if f = 82 then (annOf [] [] [] false []).mode f d else if f = 83 then (annOf [] [] [] false []).mode f d else if f = 84 then (annOf [999] [] [] false []).mode f d else if f = 85 then (annOf [] [] [] false []).mode f d else if f = 88 then (annOf [] [] [] false []).mode f d else if f = 89 then (annOf [] [] [] false []).mode f d else if f = 90 then (annOf [] [] [] false []).mode f d else if f = 93 then (annOf [] [] [] false []).mode f d else if f = 94 then (annOf [] [] [] false []).mode f d else if f = 95 then (annOf [] [] [] false []).mode f d else if f = 96 then (annOf [] [] [] false []).mode f d else if f = 97 then (annOf [] [] [] false []).mode f d else [], fun f => if f = 10 then (annOf [] [23] [] false [] false true).keep f else if f = 11 then (annOf [] [] [] false []).keep f else if f = 12 then (annOf [] [] [] false []).keep f else if f = 13 then (annOf [] [] [] false []).keep f else if f = 14 then (annOf [] [] [] false []).keep f else if f = 15 then (annOf [] [] [] false []).keep f else if f = 16 then (annOf [] [] [] false []).keep f else if f = 17 then (annOf [] [] [] false []).keep f else if f = 18 then (annOf [] [] [] false []).keep f else if f = 19 then (annOf [] [] [] false []).keep f else if f = 20 then (annOf [] [] [] false []).keep f else if f = 21 then (annOf [] [] [] false []).keep f else if f = 22 then (annOf [] [] [] false []).keep f else if f = 23 then (annOf [] [] [] false []).keep f else if f = 24 then (annOf [] [5,19] [] false []).keep f else if f = 25 then (annOf [5] [] [] false []).keep f else if f = 26 then (annOf [] [28] [] false []).keep f else if f = 28 then (annOf [] [] [] false []).keep f else if f = 29 then (annOf [] [] [] true [63]).keep f else if f = 30 then (annOf [5] [] [] false []).keep f else if f = 31 then (annOf [] [] [] false []).keep f else if f = 32 then (annOf [18] [] [] false []).keep f else if f = 37 then (annOf [21] [] [] false []).keep f else if f = 38 then (annOf [] [] [] false [63]).keep f else if f = 39 then (annOf [] [17] [(6, [.ref])] false []).keep f else if f = 44 then (annOf [5] [] [] false []).keep f else if f = 45 then (annOf [] [] [] false []).keep f else if f = 46 then (annOf [8] [] [] false []).keep f else if f = 47 then (annOf [] [] [] false []).keep f else if f = 48 then (annOf [] [5,18] [] false []).keep f else if f = 49 then (annOf [] [] [] false []).keep f else if f = 50 then (annOf [9] [] [] false []).keep f else if f = 52 then (annOf [] [] [] false []).keep f else if f = 53 then (annOf [] [] [] false []).keep f else if f = 54 then (annOf [] [] [] false []).keep f else if f = 55 then (annOf [] [] [] false []).keep f else if f = 56 then (annOf [] [] [] false []).keep f else if f = 57 then (annOf [] [] [] false []).keep f else if f = 58 then (annOf [] [] [] false []).keep f else if f = 59 then (annOf [] [] [] false []).keep f else if f = 60 then (annOf [] [5,7] [] false []).keep f else if f = 63 then (annOf [] [] [] false []).keep f else if f = 64 then (annOf [] [] [] false []).keep f else if f = 66 then (annOf [20,26] [] [] false []).keep f else if f = 67 then (annOf [] [4,13,20] [] false []).keep f else if f = 68 then (annOf [999] [] [] false []).keep f else if f = 71 then (annOf [] [] [] false []).keep f else if f = 72 then (annOf [] [] [] false []).keep f else if f = 73 then (annOf [] [] [] false []).keep f else if f = 74 then (annOf [] [] [] false []).keep f else if f = 75 then (annOf [] [] [] false []).keep f else if f = 76 then (annOf [] [] [] false []).keep f else if f = 77 then (annOf [] [] [] false []).keep f else if f = 78 then (annOf [] [] [] false []).keep f else if f = 79 then (annOf [] [] [] false []).keep f else if f = 80 then (annOf [] [] [] false []).keep f else if f = 81 then (annOf [5] [] [] false []).keep f else if f = 82 then (annOf [] [] [] false []).keep f else if f = 83 then (annOf [] [] [] false []).keep f else if f = 84 then (annOf [999] [] [] false []).keep f else if f = 85 then (annOf [] [] [] false []).keep f else if f = 88 then (annOf [] [] [] false []).keep f else if f = 89 then (annOf [] [] [] false []).keep f else if f = 90 then (annOf [] [] [] false []).keep f else if f = 93 then (annOf [] [] [] false []).keep f else if f = 94 then (annOf [] [] [] false []).keep f else if f = 95 then (annOf [] [] [] false []).keep f else if f = 96 then (annOf [] [] [] false []).keep f else if f = 97 then (annOf [] [] [] false []).keep f else false, fun g => [29, 63].contains g, fun _ => false, fun _ => false⟩
noncomputable def XF : FuncId → Option (List V → List AO → Option V) := fun f => if f = 101 then some (fun a o => resOf (k_bIndexByte a o)) else none
theorem xok : XOk Tryd.prog XF := xok_of (T := T_bIndexByte) T_bIndexByte_ok (by
  intro f g args objs v h1 h2
  unfold XF at h1
  split at h1
  · rename_i hf; subst hf; cases h1; exact resOf_inv h2
  cases h1)
theorem alive_run : runF Tryd.prog AG (callA Tryd.prog AG XF 600) 600 9 Tryd.f9 [] [] = some (.bool true, none) := by kernel_rfl
def k_alive : Ab.Spec := con0 fun objs => match objs with | [] => some (.bool true, none) | _ => none
noncomputable def T_alive : CallF := withF T_SetTexts 9 k_alive
theorem T_alive_ok : CallOk Tryd.prog T_alive := con_by (A := AG) fit T_SetTexts_ok (callA_ok (A := AG) fit xok 600) (fn := Tryd.f9) (by kernel_rfl) (by kernel_rfl) (by
  intro args objs r h0
  obtain ⟨rfl, hR⟩ := con0_inv h0
  split at hR <;> cases hR
  exact .run 600 alive_run)

end Go.Proofs.YtnbgmclbbkfhhaaDoor.B
