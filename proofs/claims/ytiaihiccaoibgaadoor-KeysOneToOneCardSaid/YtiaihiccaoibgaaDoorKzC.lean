import Derived.Test.YtiaihiccaoibgaaDoorKzB
set_option linter.unusedSimpArgs false
set_option linter.unusedVariables false
set_option linter.unusedSectionVars false
set_option maxRecDepth 20000
set_option maxHeartbeats 1000000
namespace Go.Proofs.YtiaihiccaoibgaaDoor.B
open Go Go.Ab
/-! joined pieces -/
def catZ (f : Nat → List Int) : Nat → List Int
  | 0 => []
  | n + 1 => catZ f n ++ f n
theorem catZ_succ {f : Nat → List Int} {n : Nat} : catZ f (n + 1) = catZ f n ++ f n := rfl
theorem catZ_le {f : Nat → List Int} {m : Nat} : ∀ {n : Nat}, (∀ i, i < n → (f i).length ≤ m) → (catZ f n).length ≤ n * m
  | 0, _ => by simp [catZ]
  | n + 1, h => by
    have ih := catZ_le (n := n) fun i hi => h i (by omega)
    have := h n (by omega)
    rw [catZ_succ, List.length_append, Nat.succ_mul]; omega
theorem catZ_congr {f g : Nat → List Int} : ∀ {n : Nat}, (∀ i, i < n → f i = g i) → catZ f n = catZ g n
  | 0, _ => rfl
  | n + 1, h => by rw [catZ_succ, catZ_succ, catZ_congr fun i hi => h i (by omega), h n (by omega)]
def cputV (e : Int) (o : LK) (l : List Int) : V := if e = 0 then .tup [.lst o (ints .u8 l) l.length, .int .i64 0] else .tup [.nils, .int .i64 e]

/-! the cells of a key written -/
def chkK (objs : List AO) (c : Co) (x : Ce) : Int := checkR c.k false x.n x.i (x.b objs)
def encE (objs : List AO) (cols : List Co) (K : Int) (row : List Ce) : Int := if chkR cols K = 0 then (if 1 ≤ row.length ∧ (row.length : Int) ≤ K then firstE (fun i => chkK objs (nth cols i) (nth row i)) row.length 0 else 61) else chkR cols K
def kcell (objs : List AO) (c : Co) (x : Ce) : List Int := kput c.k x.i (x.b objs)
def encF (objs : List AO) (cols : List Co) (row : List Ce) : Nat → List Int := fun i => kcell objs (nth cols i) (nth row i)
def encZ (objs : List AO) (cols : List Co) (row : List Ce) : List Int := catZ (encF objs cols row) row.length
theorem chkK_old {objs O : List AO} {x : Ce} (c : Co) (h : ceOk objs x = true) (ho : Old objs O) : chkK O c x = chkK objs c x := by unfold chkK; rw [(ce_old h ho).2]
theorem kcell_old {objs O : List AO} {x : Ce} (c : Co) (h : ceOk objs x = true) (ho : Old objs O) : kcell O c x = kcell objs c x := by unfold kcell; rw [(ce_old h ho).2]
theorem encE_old {objs O : List AO} {cols : List Co} {K : Int} {row : List Ce} (hk : ∀ i, i < row.length → ceOk objs (nth row i) = true) (ho : Old objs O) : encE O cols K row = encE objs cols K row := by
  unfold encE
  rw [firstE_congr (f := fun i => chkK O (nth cols i) (nth row i)) (g := fun i => chkK objs (nth cols i) (nth row i)) fun j _ hj => chkK_old _ (hk j (by omega)) ho]
theorem encZ_old {objs O : List AO} {cols : List Co} {row : List Ce} (hk : ∀ i, i < row.length → ceOk objs (nth row i) = true) (ho : Old objs O) : encZ O cols row = encZ objs cols row := catZ_congr fun i hi => kcell_old _ (hk i hi) ho
theorem firstE_zero {f : Nat → Int} : ∀ {n i : Nat}, firstE f n i = 0 → ∀ j, i ≤ j → j < i + n → f j = 0
  | 0, _, _, j, h1, h2 => by omega
  | n + 1, i, h, j, h1, h2 => by
    unfold firstE at h
    split at h
    · rename_i h0
      rcases Nat.eq_or_lt_of_le h1 with rfl | h3
      · exact h0
      · exact firstE_zero h j h3 (by omega)
    · rename_i h0; exact absurd h h0
theorem encE_zero {objs : List AO} {cols : List Co} {K : Int} {row : List Ce} (h : encE objs cols K row = 0) : chkR cols K = 0 ∧ 1 ≤ row.length ∧ (row.length : Int) ≤ K ∧ ∀ i, i < row.length → chkK objs (nth cols i) (nth row i) = 0 := by
  unfold encE at h
  split at h
  · rename_i h1
    split at h
    · rename_i h2
      exact ⟨h1, h2.1, h2.2, fun i hi => firstE_zero h i (Nat.zero_le _) (by omega)⟩
    · cases h
  · rename_i h1; exact absurd h h1
theorem encF_len {objs : List AO} {cols : List Co} {row : List Ce} {i : Nat} (h : chkK objs (nth cols i) (nth row i) = 0) : 1 ≤ (encF objs cols row i).length ∧ (encF objs cols row i).length ≤ 402 := kput_len h
theorem encZ_len {objs : List AO} {cols : List Co} {K : Int} {row : List Ce} (h : encE objs cols K row = 0) : 1 ≤ (encZ objs cols row).length ∧ (encZ objs cols row).length ≤ 1206 := by
  obtain ⟨h1, h2, h3, h4⟩ := encE_zero h
  obtain ⟨p1, p2, p3, p4, p5⟩ := chk_pos h1
  have h5 := catZ_le (f := encF objs cols row) (m := 402) (n := row.length) fun i hi => (encF_len (h4 i hi)).2
  unfold encZ
  refine ⟨?_, by omega⟩
  obtain ⟨m, hm⟩ : ∃ m, row.length = m + 1 := ⟨row.length - 1, by omega⟩
  rw [hm, catZ_succ, List.length_append]
  have := (encF_len (h4 m (by omega))).1
  omega
noncomputable def k_rEnc : Ab.Spec := con2 some some fun s w objs => match schD objs s, rowR objs w with
  | some (cols, K), some row => some (cputV (encE objs cols K row) .frozen (encZ objs cols row), none)
  | _, _ => none
noncomputable def T_rEnc : CallF := withF T_Kput 12 k_rEnc
theorem T_rEnc_ok : CallOk Tryd.prog T_rEnc := con_of (A := annOf [] [] [] false []) fit T_Kput_ok (fn := Tryd.f12) (by kernel_rfl) (by kernel_rfl) (by
  intro args objs r h0
  have c_rSchema : ∀ a o, T_Kput 36 a o = k_rSchema a o := fun _ _ => rfl
  have c_rCheck : ∀ a o, T_Kput 37 a o = k_rCheck a o := fun _ _ => rfl
  have c_rKput : ∀ a o, T_Kput 38 a o = k_rKput a o := fun _ _ => rfl
  have c_CatR : ∀ a o, T_Kput 21 a o = k_CatR a o := fun _ _ => rfl
  obtain ⟨s, w, _, _, rfl, hs, hw, hR⟩ := con2_inv h0
  cases hs; cases hw
  split at hR
  case h_2 => cases hR
  rename_i cols K row hsc hr
  cases hR
  obtain ⟨v, rfl, hv, vd, vo, vf, vc, vn, vi, hc, hl⟩ := schF hsc
  obtain ⟨hw, wd, wn, wi, wk⟩ := rowF hr
  obtain ⟨O0, hO0⟩ : ∃ O, O = objs ++ [.cells [v, .int .i64 K] 0] := ⟨_, rfl⟩
  have hold0 : Old objs O0 := by rw [hO0]; exact Old.ext _ _
  have b1 : Ab.getObj O0 objs.length 0 = some [v, .int .i64 K] := by rw [hO0]; simp
  have s1 := (k_sch (schD_old hsc hold0)).2
  obtain ⟨E, hE⟩ : ∃ E, E = encE objs cols K row := ⟨_, rfl⟩
  obtain ⟨F, hF⟩ : ∃ F, F = encF objs cols row := ⟨_, rfl⟩
  have hEZ : encZ objs cols row = catZ F row.length := by rw [hF]; rfl
  rw [← hE, hEZ]
  unfold encE at hE
  refine .go _ rfl rfl ?_
  rcases chk_or cols K with hg | hg
  case inr =>
    rw [hg] at s1 hE
    rw [if_neg (by decide)] at hE
    simp -implicitDefEqProofs (disch := omega) [vd, c_rSchema, ← hO0, b1, s1, hE, cputV]
  rw [hg] at s1
  rw [if_pos hg] at hE
  obtain ⟨p1, p2, p3, p4, p5⟩ := chk_pos hg
  by_cases hn : 1 ≤ row.length ∧ (row.length : Int) ≤ K
  case neg =>
    rw [if_neg hn] at hE
    by_cases h1 : row.length < 1
    · have h1' : ((row.length : Int) < 1) := by omega
      simp -implicitDefEqProofs (disch := omega) [vd, wd, wn, c_rSchema, ← hO0, b1, s1, h1', hE, cputV]
    · have h1' : ¬ ((row.length : Int) < 1) := by omega
      have h2' : K < (row.length : Int) := by omega
      simp -implicitDefEqProofs (disch := omega) [vd, wd, wn, c_rSchema, ← hO0, b1, s1, h1', h2', hE, cputV]
  rw [if_pos hn] at hE
  obtain ⟨n1, n2⟩ := hn
  have h1' : ¬ ((row.length : Int) < 1) := by omega
  have h2' : ¬ (K < (row.length : Int)) := by omega
  simp -implicitDefEqProofs (disch := omega) [vd, wd, wn, c_rSchema, ← hO0, b1, s1, h1', h2', blit0]
  obtain ⟨I, hI⟩ : ∃ I : Nat → St → Prop, I = (fun (i : Nat) (z : St) => z.env 1 = w ∧ z.env 2 = .ptr objs.length 0 0 ∧ z.env 8 = .int .i64 i ∧ z.toks = [] ∧ z.low = objs.length ∧ z.objs = O0 ∧ (∀ j, j < i → chkK objs (nth cols j) (nth row j) = 0) ∧ ∃ lk, z.env 7 = .lst lk (ints .u8 (catZ F i)) (catZ F i).length ∧ (i = 0 ∧ lk = .lit ∨ lk = .frozen)) := ⟨_, rfl⟩
  refine .up row.length I (by rw [hI]; exact ⟨by simp, by simp, by simp, rfl, rfl, rfl, fun j hj => absurd hj (by omega), .lit, by simp [catZ, ints], .inl ⟨rfl, rfl⟩⟩) ?_
  intro i z hi hz
  rw [hI] at hz
  obtain ⟨e1, e2, e8, ht, hlo, ho, hpre, lk, e7, hlk⟩ := hz
  rcases Nat.lt_or_ge i row.length with h | h
  case inr =>
    obtain rfl : i = row.length := by omega
    obtain rfl : lk = .frozen := hlk.resolve_left fun q => by omega
    have hE0 : E = 0 := by rw [hE]; exact firstE_none fun j _ hj => hpre j (by omega)
    simp -implicitDefEqProofs (disch := omega) [e1, e2, e8, e7, ht, ho, hlo, wn, cputV, hE0]
  have ix := wi i h
  obtain ⟨g1, -⟩ := row_at (hw.old hold0) h
  have hck := wk i h
  have hcl : (catZ F i).length ≤ i * 402 := catZ_le fun j hj => by rw [hF]; exact (encF_len (hpre j hj)).2
  have hcx : chkK objs (nth cols i) (nth row i) = checkR (nth cols i).k false (nth row i).n (nth row i).i ((nth row i).b objs) := rfl
  have hFi : F i = kput (nth cols i).k (nth row i).i ((nth row i).b objs) := by rw [hF]; rfl
  have hi2 := fun (q : chkK objs (nth cols i) (nth row i) = 0) (j : Nat) (hj : j < i + 1) => show chkK objs (nth cols j) (nth row j) = 0 from by
    rcases Nat.lt_or_ge j i with hj2 | hj2
    · exact hpre j hj2
    · obtain rfl : j = i := by omega
      exact q
  have hbad := fun (q : chkK objs (nth cols i) (nth row i) ≠ 0) => show E = chkK objs (nth cols i) (nth row i) from by
    rw [hE]
    exact firstE_at (f := fun i => chkK objs (nth cols i) (nth row i)) q (Nat.zero_le _) (by omega) fun m _ hm => hpre m hm
  obtain ⟨x, hxx⟩ : ∃ x, x = nth row i := ⟨_, rfl⟩
  obtain ⟨C, hC⟩ : ∃ C, C = nth cols i := ⟨_, rfl⟩
  obtain ⟨-, -, g3, g4⟩ := col_get (hv.old hold0) (i := i) (by omega)
  rw [← hxx] at g1 hck hcx hFi hi2 hbad
  rw [← hC] at g3 g4 hcx hFi hi2 hbad
  obtain ⟨xn, xi, xv⟩ := x
  obtain ⟨nm, k, nl⟩ := C
  obtain ⟨k1, k2, k3, k4⟩ := ceOk_inv (ce_old hck hold0).1
  have hb := (ce_old hck hold0).2
  simp only at hb k1 k2 k3 k4 g3 g4 hcx hFi
  rw [hb] at k2 k3 k4
  obtain ⟨a1, a2, a3, a4⟩ := one_ofR k2
  obtain ⟨B, hB⟩ : ∃ B, B = (⟨xn, xi, xv⟩ : Ce).b objs := ⟨_, rfl⟩
  rw [← hB] at k2 k3 k4 hcx hFi
  obtain ⟨X, hX⟩ : ∃ X, X = checkR k false xn xi B := ⟨_, rfl⟩
  rw [← hX] at hcx
  rw [hcx] at hi2 hbad
  have jx := vi i (by omega)
  obtain ⟨c, hc'⟩ : ∃ c, c = catZ F i := ⟨_, rfl⟩
  rw [← hc'] at hcl e7
  have f1 : ∀ (O : List AO) (x : List Int), ofIntsR .u8 O (.lst .frozen (ints .u8 x) x.length) = some x := fun O x => ofIntsR_of (ofInts_lst rfl)
  by_cases hX0 : X = 0
  case neg =>
    have hX2 : (X != 0) = true := by simpa using hX0
    have hEX := hbad hX0
    simp -implicitDefEqProofs (disch := omega) [e1, e2, e8, e7, ht, ho, hlo, wn, h, ix, g1, ceV, a1, a2, a3, a4, b1, vd, wd, jx, g3, g4, col_f1, col_f2, c_rCheck, k_rCheck, k1, k2, k3, k4, ← hX, hX0, hX2, hEX, cputV]
  rw [hX0] at hX
  have hi3 := hi2 hX0
  obtain ⟨rfl, -⟩ := chk_key hX.symm
  obtain ⟨z1, z2⟩ := kput_len hX.symm
  obtain ⟨Z, hZ⟩ : ∃ Z, Z = kput k xi B := ⟨_, rfl⟩
  rw [← hZ] at z1 z2 hFi
  have hsucc : catZ F (i + 1) = c ++ Z := by rw [catZ_succ, hFi, hc']
  rcases hlk with ⟨-, rfl⟩ | rfl
  all_goals
    simp -implicitDefEqProofs (disch := omega) [e1, e2, e8, e7, ht, ho, hlo, wn, h, ix, g1, ceV, a1, a2, a3, a4, b1, vd, wd, jx, g3, g4, col_f1, col_f2, c_rCheck, k_rCheck, k1, k2, k3, k4, ← hX, c_rKput, k_rKput, kputV, ← hZ, c_CatR, k_CatR, f1, wrap_small]
    rw [hI]
    exact ⟨by simp [e1], by simp [e2], by simp, rfl, rfl, rfl, hi3, .frozen, by simp [hsucc], .inr rfl⟩)

end Go.Proofs.YtiaihiccaoibgaaDoor.B
set_option maxRecDepth 20000
set_option maxHeartbeats 1000000
namespace Go.Proofs.YtiaihiccaoibgaaDoor.B
open Go Go.Ab
noncomputable def k_Enc : Ab.Spec := con2 some some fun s w objs => match schD objs s, rowR objs w with
  | some (cols, K), some row => some (cputV (encE objs cols K row) (.fresh 1 true) (encZ objs cols row), none)
  | _, _ => none
noncomputable def T_Enc : CallF := withF T_rEnc 13 k_Enc
theorem T_Enc_ok : CallOk Tryd.prog T_Enc := con_of (A := annOf [] [53] [] false []) fit T_rEnc_ok (fn := Tryd.f13) (by kernel_rfl) (by kernel_rfl) (by
  intro args objs r h0
  have c_schCheck : ∀ a o, T_rEnc 39 a o = k_schCheck a o := fun _ _ => rfl
  have c_cCheck : ∀ a o, T_rEnc 40 a o = k_cCheck a o := fun _ _ => rfl
  have c_Kput : ∀ a o, T_rEnc 41 a o = k_Kput a o := fun _ _ => rfl
  obtain ⟨s, w, _, _, rfl, hs, hw, hR⟩ := con2_inv h0
  cases hs; cases hw
  split at hR
  case h_2 => cases hR
  rename_i cols K row hsc hr
  cases hR
  obtain ⟨v, rfl, hv, vd, vo, vf, vc, vn, vi, hc, hl⟩ := schF hsc
  obtain ⟨hw, wd, wn, wi, wk⟩ := rowF hr
  obtain ⟨O0, hO0⟩ : ∃ O, O = objs ++ [.cells [v, .int .i64 K] 0] := ⟨_, rfl⟩
  have hold0 : Old objs O0 := by rw [hO0]; exact Old.ext _ _
  have b1 : Ab.getObj O0 objs.length 0 = some [v, .int .i64 K] := by rw [hO0]; simp
  have s1 := (k_sch (schD_old hsc hold0)).1
  obtain ⟨E, hE⟩ : ∃ E, E = encE objs cols K row := ⟨_, rfl⟩
  obtain ⟨F, hF⟩ : ∃ F, F = encF objs cols row := ⟨_, rfl⟩
  have hEZ : encZ objs cols row = catZ F row.length := by rw [hF]; rfl
  rw [← hE, hEZ]
  unfold encE at hE
  refine .go _ rfl rfl ?_
  rcases chk_or cols K with hg | hg
  case inr =>
    rw [hg] at s1 hE
    rw [if_neg (by decide)] at hE
    simp -implicitDefEqProofs (disch := omega) [vd, c_schCheck, ← hO0, b1, s1, hE, cputV]
  rw [hg] at s1
  rw [if_pos hg] at hE
  obtain ⟨p1, p2, p3, p4, p5⟩ := chk_pos hg
  by_cases hn : 1 ≤ row.length ∧ (row.length : Int) ≤ K
  case neg =>
    rw [if_neg hn] at hE
    by_cases h1 : row.length < 1
    · have h1' : ((row.length : Int) < 1) := by omega
      simp -implicitDefEqProofs (disch := omega) [vd, wd, wn, c_schCheck, ← hO0, b1, s1, h1', hE, cputV]
    · have h1' : ¬ ((row.length : Int) < 1) := by omega
      have h2' : K < (row.length : Int) := by omega
      simp -implicitDefEqProofs (disch := omega) [vd, wd, wn, c_schCheck, ← hO0, b1, s1, h1', h2', hE, cputV]
  rw [if_pos hn] at hE
  obtain ⟨n1, n2⟩ := hn
  have h1' : ¬ ((row.length : Int) < 1) := by omega
  have h2' : ¬ (K < (row.length : Int)) := by omega
  simp -implicitDefEqProofs (disch := omega) [vd, wd, wn, c_schCheck, ← hO0, b1, s1, h1', h2']
  obtain ⟨I, hI⟩ : ∃ I : Nat → St → Prop, I = (fun (i : Nat) (z : St) => z.env 2 = .ptr objs.length 0 0 ∧ z.env 26 = w ∧ z.env 27 = .int .i64 row.length ∧ z.env 28 = .int .i64 i ∧ z.toks = [] ∧ z.low = objs.length ∧ Old objs z.objs ∧ Ab.getObj z.objs objs.length 0 = some [v, .int .i64 K] ∧ (∀ j, j < i → chkK objs (nth cols j) (nth row j) = 0) ∧ (i = 0 ∧ z.env 7 = .nils ∨ 0 < i ∧ ∃ id ver, objs.length < id ∧ z.env 7 = .ref id ver 0 (catZ F i).length 1 ∧ Ab.getObj z.objs id ver = some (ints .u8 (catZ F i)))) := ⟨_, rfl⟩
  refine .up row.length I (by rw [hI]; exact ⟨by simp, by simp, by simp, by simp, rfl, rfl, hold0, by simpa using b1, fun j hj => absurd hj (by omega), .inl ⟨rfl, by simp⟩⟩) ?_
  intro i z hi hz
  rw [hI] at hz
  obtain ⟨e2, e26, e27, e28, ht, hlo, hold, b1, hpre, h7⟩ := hz
  obtain ⟨O, ho⟩ : ∃ O, O = z.objs := ⟨_, rfl⟩
  rw [← ho] at hold b1 h7
  have ho := ho.symm
  have hcl : (catZ F i).length ≤ i * 402 := catZ_le fun j hj => by rw [hF]; exact (encF_len (hpre j hj)).2
  rcases Nat.lt_or_ge i row.length with h | h
  case inr =>
    obtain rfl : i = row.length := by omega
    rcases h7 with ⟨h7, -⟩ | ⟨-, id, ver, hid, e7, b7⟩
    · omega
    have hid2 : ¬ id < objs.length := by omega
    have hE0 : E = 0 := by rw [hE]; exact firstE_none fun j _ hj => hpre j (by omega)
    simp -implicitDefEqProofs (disch := omega) [e2, e26, e27, e28, e7, b7, ht, ho, hlo, hid2, cputV, hE0]
  have hOl : objs.length ≤ O.length := hold.1
  have hOl1 : objs.length < O.length := getObj_lt b1
  have hOl2 : ¬ O.length < objs.length := by omega
  have ix := wi i h
  obtain ⟨g1, -⟩ := row_at (hw.old hold) h
  have hck := wk i h
  have hcx : chkK objs (nth cols i) (nth row i) = checkR (nth cols i).k false (nth row i).n (nth row i).i ((nth row i).b objs) := rfl
  have hFi : F i = kput (nth cols i).k (nth row i).i ((nth row i).b objs) := by rw [hF]; rfl
  have hi2 := fun (q : chkK objs (nth cols i) (nth row i) = 0) (j : Nat) (hj : j < i + 1) => show chkK objs (nth cols j) (nth row j) = 0 from by
    rcases Nat.lt_or_ge j i with hj2 | hj2
    · exact hpre j hj2
    · obtain rfl : j = i := by omega
      exact q
  have hbad := fun (q : chkK objs (nth cols i) (nth row i) ≠ 0) => show E = chkK objs (nth cols i) (nth row i) from by
    rw [hE]
    exact firstE_at (f := fun i => chkK objs (nth cols i) (nth row i)) q (Nat.zero_le _) (by omega) fun m _ hm => hpre m hm
  obtain ⟨x, hxx⟩ : ∃ x, x = nth row i := ⟨_, rfl⟩
  obtain ⟨C, hC⟩ : ∃ C, C = nth cols i := ⟨_, rfl⟩
  obtain ⟨-, -, g3, g4⟩ := col_get (hv.old (hold.app [.cells (ceV x) 0])) (i := i) (by omega)
  rw [← hxx] at g1 hck hcx hFi hi2 hbad
  rw [← hC] at g3 g4 hcx hFi hi2 hbad
  obtain ⟨xn, xi, xv⟩ := x
  obtain ⟨nm, k, nl⟩ := C
  obtain ⟨O2, hO2⟩ : ∃ O2, O2 = O ++ [.cells (ceV ⟨xn, xi, xv⟩) 0] := ⟨_, rfl⟩
  rw [← hO2] at g3 g4
  have hold2 : Old objs O2 := by rw [hO2]; exact hold.app _
  have hO3 : Old O O2 := by rw [hO2]; exact Old.ext _ _
  have hO2l : O2.length = O.length + 1 := by rw [hO2]; simp
  have b2 : Ab.getObj O2 objs.length 0 = some [v, .int .i64 K] := by rw [hO3.2 _ _ (getObj_lt b1)]; exact b1
  have bx : Ab.getObj O2 O.length 0 = some (ceV ⟨xn, xi, xv⟩) := by rw [hO2]; simp
  obtain ⟨k1, k2, k3, k4⟩ := ceOk_inv (ce_old hck hold2).1
  have hb := (ce_old hck hold2).2
  simp only at hb k1 k2 k3 k4 g3 g4 hcx hFi
  rw [hb] at k2 k3 k4
  obtain ⟨a1, a2, a3, a4⟩ := one_ofR k2
  obtain ⟨B, hB⟩ : ∃ B, B = (⟨xn, xi, xv⟩ : Ce).b objs := ⟨_, rfl⟩
  rw [← hB] at k2 k3 k4 hcx hFi
  obtain ⟨X, hX⟩ : ∃ X, X = checkR k false xn xi B := ⟨_, rfl⟩
  rw [← hX] at hcx
  rw [hcx] at hi2 hbad
  have hO2' : O ++ [.cells [.bool xn, .int .i64 xi, xv] 0] = O2 := hO2.symm
  have jx := vi i (by omega)
  simp only [ceV] at g1 bx
  by_cases hX0 : X = 0
  case neg =>
    have hX2 : (X != 0) = true := by simpa using hX0
    have hEX := hbad hX0
    simp -implicitDefEqProofs (disch := omega) [e2, e26, e27, e28, ht, ho, hlo, h, ix, hOl2, g1, ceV, setCells, a1, a2, a3, a4, hO2', b2, bx, vd, jx, g3, g4, col_f1, col_f2, c_cCheck, k_cCheck, k1, k2, k3, k4, ← hX, hX0, hX2, hEX, cputV]
  rw [hX0] at hX
  have hi3 := hi2 hX0
  obtain ⟨rfl, -⟩ := chk_key hX.symm
  obtain ⟨z1, z2⟩ := kput_len hX.symm
  obtain ⟨Z, hZ⟩ : ∃ Z, Z = kput k xi B := ⟨_, rfl⟩
  rw [← hZ] at z1 z2 hFi
  have hsucc : catZ F (i + 1) = catZ F i ++ Z := by rw [catZ_succ, hFi]
  have hz0 : Z ≠ [] := by rintro rfl; simp at z1
  have hzl : ints .u8 Z ≠ [] := by simpa [ints] using hz0
  rcases h7 with ⟨hi0, e7⟩ | ⟨hpos, id, ver, hid, e7, b7⟩
  · simp -implicitDefEqProofs (disch := omega) [e2, e26, e27, e28, e7, ht, ho, hlo, h, ix, hOl2, g1, ceV, setCells, a1, a2, a3, a4, hO2', b2, bx, vd, jx, g3, g4, col_f1, col_f2, c_cCheck, k_cCheck, k1, k2, k3, k4, ← hX, c_Kput, k_Kput, kputV, ← hZ, hzl, hO2l, wrap_small, Nat.mod_one]
    rw [hI]
    exact ⟨by simp [e2], by simp [e26], by simp [e27], by simp, rfl, rfl, hold2.app _, by rw [getObj_app (by omega)]; exact b2, hi3, .inr ⟨by omega, O2.length, 0, by omega, by rw [hsucc, hi0]; simp [catZ, hO2l], by rw [hsucc, hi0]; simp [catZ]⟩⟩
  · have hidO := getObj_lt b7
    have b7' : Ab.getObj O2 id ver = some (ints .u8 (catZ F i)) := by rw [hO3.2 _ _ hidO]; exact b7
    have hid2 : ¬ id < objs.length := by omega
    have hst : ints .u8 (catZ F i) ++ ints .u8 Z = ints .u8 (catZ F i ++ Z) := by simp [ints]
    simp -implicitDefEqProofs (disch := omega) [e2, e26, e27, e28, e7, ht, ho, hlo, h, ix, hOl2, g1, ceV, setCells, a1, a2, a3, a4, hO2', b2, bx, vd, jx, g3, g4, col_f1, col_f2, c_cCheck, k_cCheck, k1, k2, k3, k4, ← hX, c_Kput, k_Kput, kputV, ← hZ, hzl, hO2l, b7', hid2, hst, wrap_small, Nat.mod_one]
    rw [hI]
    exact ⟨by simp [e2], by simp [e26], by simp [e27], by simp, rfl, by simp, hold2.set (by omega), by rw [getObj_set_ne (by omega)]; exact b2, hi3, .inr ⟨by omega, id, ver + 1, hid, by simp [hsucc], by rw [hsucc, getObj_set (by omega)]⟩⟩)

end Go.Proofs.YtiaihiccaoibgaaDoor.B
