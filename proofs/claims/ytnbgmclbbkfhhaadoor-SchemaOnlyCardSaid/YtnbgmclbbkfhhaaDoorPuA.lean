import Derived.Test.YtnbgmclbbkfhhaaDoorScE
set_option linter.unusedSimpArgs false
set_option linter.unusedVariables false
set_option linter.unusedSectionVars false
set_option maxRecDepth 20000
set_option maxHeartbeats 1000000
namespace Go.Proofs.YtnbgmclbbkfhhaaDoor.B
open Go Go.Ab
/-! putting a cell -/
def cputZ (k : Int) (n : Bool) (i : Int) (b : List Int) : List Int := if n = true then [0] else if k ≤ 6 then 1 :: M.putL (M.foldI i).toNat else 1 :: (M.putL b.length ++ b)
def cputV (e : Int) (o : LK) (l : List Int) : V := if e = 0 then .tup [.lst o (ints .u8 l) l.length, .int .i64 0] else .tup [.nils, .int .i64 e]
theorem checkR_kind {k : Int} {nl n : Bool} {i : Int} {b : List Int} (h : checkR k nl n i b = 0) : 1 ≤ k ∧ k ≤ 8 := by
  by_cases q : k < 1 ∨ k > 8
  · have : checkR k nl n i b = 1 := if_pos q
    rw [this] at h; cases h
  · omega
theorem checkR_text {k : Int} {nl : Bool} {i : Int} {b : List Int} (h : checkR k nl false i b = 0) (h6 : ¬ k ≤ 6) : b.length ≤ 200 := by
  obtain ⟨k1, k8⟩ := checkR_kind h
  unfold checkR at h
  rw [if_neg (by omega), if_neg (by simp), if_neg h6] at h
  split at h
  case isFalse => cases h
  unfold textR at h
  split at h
  · cases h
  · omega
theorem foldI_nn {i : Int} (h : i64B i = true) : 0 ≤ M.foldI i ∧ M.foldI i < 18446744073709551616 := by
  obtain ⟨v0, v1⟩ := i64B_iff.1 h
  unfold M.foldI
  split <;> omega
noncomputable def k_CPut : Ab.Spec := con2 (ofInt .i64) some fun k v objs => match v with
  | .agg [.bool n, .int .i64 i, a] => match ofIntsR .u8 objs a with
    | some l => bnd l.length 140737488355000 (if i64B i = true ∧ b8 l = true then some (cputV (checkR k true n i l) (.fresh 1 false) (cputZ k n i l), none) else none)
    | none => none
  | _ => none
noncomputable def T_CPut : CallF := withF T_SchemaApplies 66 k_CPut
theorem T_CPut_ok : CallOk Tryd.prog T_CPut := con_of (A := annOf [16,20,25,26,32,35] [] [] false []) fit T_SchemaApplies_ok (fn := Tryd.f66) (by kernel_rfl) (by kernel_rfl) (by
  intro args objs r h0
  have c_cCheck : ∀ a o, T_SchemaApplies 57 a o = k_cCheck a o := fun _ _ => rfl
  have c_Number : ∀ a o, T_SchemaApplies 75 a o = k_Number a o := fun _ _ => rfl
  have c_VPut : ∀ a o, T_SchemaApplies 68 a o = k_VPut a o := fun _ _ => rfl
  have c_Fold : ∀ a o, T_SchemaApplies 83 a o = k_Fold a o := fun _ _ => rfl
  obtain ⟨_, v, k, _, rfl, hk, hv, hR⟩ := con2_inv h0
  obtain rfl := ofInt_inv hk
  cases hv
  split at hR
  case h_2 => cases hR
  rename_i n i a
  split at hR
  case h_2 => cases hR
  rename_i l ha
  obtain ⟨hl, hR⟩ := bnd_inv hR
  split at hR
  case isFalse => cases hR
  rename_i hib
  obtain ⟨hib, h8⟩ := hib
  cases hR
  obtain ⟨a1, a2, a3, a4⟩ := one_ofR ha
  obtain ⟨P, -, vn, -⟩ := bsR ha
  have ha' : ∀ M, ofIntsR .u8 (objs ++ M) a = some l := fun M => ofIntsR_app ha
  obtain ⟨v0, v1⟩ := i64B_iff.1 hib
  obtain ⟨E, hE⟩ : ∃ E, E = checkR k true n i l := ⟨_, rfl⟩
  have nlo : ∀ m, ¬ objs.length + m < objs.length := fun m => by omega
  have i0 : ints .u8 [0] = [.int .u8 0] := rfl
  have ic : ∀ W : List Int, ints .u8 (1 :: W) = .int .u8 1 :: ints .u8 W := fun _ => rfl
  have hc : ∀ W : List Int, 1 + W.length = W.length + 1 := fun W => Nat.add_comm ..
  have hd : ∀ W X : List Int, W.length + 1 + X.length = W.length + X.length + 1 := fun W X => by omega
  refine .go _ rfl rfl ?_
  by_cases he : E = 0
  case neg =>
    have he2 : (E != 0) = true := by simpa using he
    simp -implicitDefEqProofs (disch := omega) [a1, a2, a3, a4, c_cCheck, k_cCheck, ha', hib, h8, ← hE, he, he2, cputV, setCells, getObj_last]
  rw [he] at hE
  cases n with
  | true =>
    simp -implicitDefEqProofs (disch := omega) [a1, a2, a3, a4, c_cCheck, k_cCheck, ha', hib, h8, ← hE, cputV, cputZ, setCells, getObj_last, blit1, nlo, i0]
  | false =>
    obtain ⟨k1, k8⟩ := checkR_kind hE.symm
    by_cases k6 : k ≤ 6
    · have hnd : numB k = true := decide_eq_true ⟨k1, k6⟩
      have hf : foldVR i = some (.int .u64 (M.foldI i), none) := if_pos ⟨by omega, by omega⟩
      have hp : putVR (M.foldI i) = some (.lst (.fresh 1 true) (ints .u8 (M.putL (M.foldI i).toNat)) (M.putL (M.foldI i).toNat).length, none) := if_pos (foldI_nn hib)
      have hpl := M.putL_len10 (u := (M.foldI i).toNat) (by have := foldI_nn hib; omega)
      obtain ⟨W, hW⟩ : ∃ W, W = M.putL (M.foldI i).toNat := ⟨_, rfl⟩
      rw [← hW] at hp hpl
      simp -implicitDefEqProofs (disch := omega) [a1, a2, a3, a4, c_cCheck, k_cCheck, ha', hib, h8, ← hE, c_Number, k_Number, hnd, k6, c_VPut, k_VPut, c_Fold, k_Fold, hf, hp, cputV, cputZ, setCells, getObj_last, set_last, blit1, nlo, Nat.mod_one, i0, ic, hc, hd, ← hW]
    · have hnd : numB k = false := decide_eq_false fun q => k6 q.2
      have h200 := checkR_text hE.symm k6
      have hp := putVR_nat (u := l.length) (by omega)
      have hpl := M.putL_len10 (u := l.length) (by omega)
      obtain ⟨W, hW⟩ : ∃ W, W = M.putL l.length := ⟨_, rfl⟩
      rw [← hW] at hp hpl
      have hone : (ints .u8 l).all oneCell = true := by simp [ints]
      have hsrc := fun m => ((bytesV ha).app m).src hone 5
      have wl : IntKind.u64.wrap (l.length : Int) = l.length := wrap_u64 (by omega) (by omega)
      simp -implicitDefEqProofs (disch := omega) [a1, a2, a3, a4, c_cCheck, k_cCheck, ha', hib, h8, ← hE, c_Number, k_Number, hnd, k6, c_VPut, k_VPut, hp, convV, wl, vn, cputV, cputZ, setCells, getObj_last, set_last, blit1, nlo, Nat.mod_one, i0, ic, hc, hd, ← hW, hsrc])

noncomputable def k_CatR : Ab.Spec := con2 some some fun v w objs => match ofIntsR .u8 objs v, ofIntsR .u8 objs w with | some a, some b => bnd (a.length + b.length) 140737488355300 (some (.lst (.fresh 1 false) (ints .u8 (a ++ b)) (a.length + b.length), none)) | _, _ => none
noncomputable def T_CatR : CallF := withF T_CPut 46 k_CatR
theorem T_CatR_ok : CallOk Tryd.prog T_CatR := con_of (A := annOf [8] [] [] false []) fit T_CPut_ok (fn := Tryd.f46) (by kernel_rfl) (by kernel_rfl) (by
  intro args objs r h0
  obtain ⟨v, w, _, _, rfl, hv, hw, hR⟩ := con2_inv h0
  cases hv; cases hw
  split at hR
  case h_2 => cases hR
  rename_i a b ha hb
  obtain ⟨hl, hR⟩ := bnd_inv hR
  cases hR
  obtain ⟨hv, vd, vn, vi⟩ := bytesF ha
  obtain ⟨hw, wd, wn, wi⟩ := bytesF hb
  refine .go _ rfl rfl ?_
  simp [blit0]
  refine .up a.length (fun i s => s.env 0 = v ∧ s.env 1 = w ∧ s.env 5 = .lst (.tok 0 1) (ints .u8 (a.take i)) i ∧ s.env 6 = .int .i64 i ∧ s.toks = [i] ∧ s.objs = objs ∧ s.low = objs.length) (by simp [ints_nil]) ?_
  rintro i s hi ⟨h0, h1, h5, h6, ht, ho, hlo⟩
  rcases Nat.lt_or_ge i a.length with h | h
  · have e := take_nth h
    have hm : min i a.length = i := by omega
    have ix := vi i h
    have g := byte_at hv h
    simp (disch := omega) [h0, h1, h5, h6, ht, ho, hlo, vn, ix, g, h, blit1, e, wrap_small, Nat.mod_one, hm]
  · obtain rfl : i = a.length := by omega
    simp [h0, h1, h5, h6, ht, ho, hlo, vn]
    refine .up b.length (fun i s => s.env 1 = w ∧ s.env 5 = .lst (.tok 0 1) (ints .u8 (a ++ b.take i)) (a.length + i) ∧ s.env 7 = .int .i64 i ∧ s.toks = [a.length + i] ∧ s.objs = objs ∧ s.low = objs.length) (by simp [h0, h1, h5, h6, ht, ho, hlo]) ?_
    rintro i s hi ⟨h1, h5, h7, ht, ho, hlo⟩
    rcases Nat.lt_or_ge i b.length with h | h
    · have e := take_nth h
      have hm : min i b.length = i := by omega
      have ix := wi i h
      have g := byte_at hw h
      simp (disch := omega) [h1, h5, h7, ht, ho, hlo, wn, ix, g, h, blit1, e, wrap_small, Nat.mod_one, hm, Nat.add_assoc]
    · obtain rfl : i = b.length := by omega
      simp [h1, h5, h7, ht, ho, hlo, wn])

noncomputable def k_rCPut : Ab.Spec := con2 (ofInt .i64) some fun k v objs => match v with
  | .agg [.bool n, .int .i64 i, a] => match ofIntsR .u8 objs a with
    | some l => bnd l.length 140737488355000 (if i64B i = true then some (cputV (checkR k true n i l) .frozen (cputZ k n i l), none) else none)
    | none => none
  | _ => none
noncomputable def T_rCPut : CallF := withF T_CatR 65 k_rCPut
theorem T_rCPut_ok : CallOk Tryd.prog T_rCPut := con_of (A := annOf [] [] [] false []) fit T_CatR_ok (fn := Tryd.f65) (by kernel_rfl) (by kernel_rfl) (by
  intro args objs r h0
  have c_rCheck : ∀ a o, T_CatR 58 a o = k_rCheck a o := fun _ _ => rfl
  have c_RPut : ∀ a o, T_CatR 67 a o = k_RPut a o := fun _ _ => rfl
  have c_RFold : ∀ a o, T_CatR 82 a o = k_RFold a o := fun _ _ => rfl
  have c_CatR : ∀ a o, T_CatR 46 a o = k_CatR a o := fun _ _ => rfl
  obtain ⟨_, v, k, _, rfl, hk, hv, hR⟩ := con2_inv h0
  obtain rfl := ofInt_inv hk
  cases hv
  split at hR
  case h_2 => cases hR
  rename_i n i a
  split at hR
  case h_2 => cases hR
  rename_i l ha
  obtain ⟨hl, hR⟩ := bnd_inv hR
  split at hR
  case isFalse => cases hR
  rename_i hib
  cases hR
  obtain ⟨a1, a2, a3, a4⟩ := one_ofR ha
  obtain ⟨P, -, vn, -⟩ := bsR ha
  have ha' : ∀ M, ofIntsR .u8 (objs ++ M) a = some l := fun M => ofIntsR_app ha
  obtain ⟨v0, v1⟩ := i64B_iff.1 hib
  obtain ⟨E, hE⟩ : ∃ E, E = checkR k true n i l := ⟨_, rfl⟩
  have i0 : ints .u8 [0] = [.int .u8 0] := rfl
  have ic : ∀ W : List Int, ints .u8 (1 :: W) = .int .u8 1 :: ints .u8 W := fun _ => rfl
  have hc : ∀ W : List Int, 1 + W.length = W.length + 1 := fun W => Nat.add_comm ..
  have hd : ∀ W X : List Int, W.length + 1 + X.length = W.length + X.length + 1 := fun W X => by omega
  refine .go _ rfl rfl ?_
  by_cases he : E = 0
  case neg =>
    have he2 : (E != 0) = true := by simpa using he
    simp -implicitDefEqProofs (disch := omega) [a1, a2, a3, a4, c_rCheck, k_rCheck, ha', hib, ← hE, he, he2, cputV, setCells, getObj_last]
  rw [he] at hE
  have e1 : ∀ (O : List AO) (x : List Int), ofIntsR .u8 O (.lst .frozen (ints .u8 x) x.length) = some x := fun O x => ofIntsR_of (ofInts_lst rfl)
  have e2 : ∀ O : List AO, ofIntsR .u8 O (.lst .frozen [.int .u8 1] 1) = some [1] := fun O => e1 O [1]
  cases n with
  | true =>
    simp -implicitDefEqProofs (disch := omega) [a1, a2, a3, a4, c_rCheck, k_rCheck, ha', hib, ← hE, cputV, cputZ, setCells, getObj_last, blit1, i0]
  | false =>
    obtain ⟨k1, k8⟩ := checkR_kind hE.symm
    by_cases k6 : k ≤ 6
    · have hf : foldVR i = some (.int .u64 (M.foldI i), none) := if_pos ⟨by omega, by omega⟩
      have hp : putVR (M.foldI i) = some (.lst (.fresh 1 true) (ints .u8 (M.putL (M.foldI i).toNat)) (M.putL (M.foldI i).toNat).length, none) := if_pos (foldI_nn hib)
      have hpl := M.putL_len10 (u := (M.foldI i).toNat) (by have := foldI_nn hib; omega)
      simp -implicitDefEqProofs (disch := omega) [a1, a2, a3, a4, c_rCheck, k_rCheck, ha', hib, ← hE, k6, c_RPut, k_RPut, c_RFold, k_RFold, hf, hp, c_CatR, k_CatR, e1, e2, cputV, cputZ, setCells, getObj_last, blit1, i0, ic, hc, hd]
    · have h200 := checkR_text hE.symm k6
      have hp := putVR_nat (u := l.length) (by omega)
      have hpl := M.putL_len10 (u := l.length) (by omega)
      have e3 : ∀ (O : List AO) (W : List Int), ofIntsR .u8 O (.lst .frozen (.int .u8 1 :: ints .u8 W) (W.length + 1)) = some (1 :: W) := fun O W => e1 O (1 :: W)
      have wl : IntKind.u64.wrap (l.length : Int) = l.length := wrap_u64 (by omega) (by omega)
      simp -implicitDefEqProofs (disch := omega) [a1, a2, a3, a4, c_rCheck, k_rCheck, ha', hib, ← hE, k6, c_RPut, k_RPut, hp, c_CatR, k_CatR, e1, e2, e3, convV, wl, vn, cputV, cputZ, setCells, getObj_last, blit1, i0, ic, hc, hd])

end Go.Proofs.YtnbgmclbbkfhhaaDoor.B
set_option maxRecDepth 20000
set_option maxHeartbeats 1000000
namespace Go.Proofs.YtnbgmclbbkfhhaaDoor.B
open Go Go.Ab
/-! putting rows -/
def cputC (objs : List AO) (c : Co) (x : Ce) : List Int := cputZ c.k x.n x.i (x.b objs)
def catZ (f : Nat → List Int) : Nat → List Int
  | 0 => []
  | n + 1 => catZ f n ++ f n
theorem catZ_succ {f : Nat → List Int} {n : Nat} : catZ f (n + 1) = catZ f n ++ f n := rfl
theorem catZ_le {f : Nat → List Int} {m : Nat} : ∀ {n : Nat}, (∀ i, i < n → (f i).length ≤ m) → (catZ f n).length ≤ n * m
  | 0, _ => by simp [catZ]
  | n + 1, h => by
    have ih := catZ_le (n := n) fun i hi => h i (by omega)
    have := h n (by omega)
    rw [catZ_succ, List.length_append, Nat.succ_mul]; omega
theorem catZ_congr {f g : Nat → List Int} : ∀ {n : Nat}, (∀ i, i < n → f i = g i) → catZ f n = catZ g n
  | 0, _ => rfl
  | n + 1, h => by rw [catZ_succ, catZ_succ, catZ_congr fun i hi => h i (by omega), h n (by omega)]
theorem checkR_null {k : Int} {nl n : Bool} {i : Int} {b : List Int} (h : checkR k nl n i b = 0) : checkR k true n i b = 0 := by
  cases nl with
  | true => exact h
  | false =>
    unfold checkR at h ⊢
    cases n with
    | true =>
      split at h
      · cases h
      · rw [if_pos rfl, if_neg (by simp)] at h; cases h
    | false => exact h
theorem chk_len {k i : Int} {nl n : Bool} {l : List Int} (h : checkR k nl n i l = 0) : l.length ≤ 200 := by
  unfold checkR at h
  split at h
  · cases h
  split at h
  · split at h
    · split at h
      · rename_i h2; rw [h2.2]; simp
      · cases h
    · cases h
  split at h
  · split at h
    · rename_i h2; rw [h2]; simp
    · cases h
  · split at h
    · unfold textR at h
      split at h
      · cases h
      · omega
    · cases h
theorem cput_len {k : Int} {nl n : Bool} {i : Int} {b : List Int} (h : checkR k nl n i b = 0) (hi : i64B i = true) : 1 ≤ (cputZ k n i b).length ∧ (cputZ k n i b).length ≤ 211 := by
  have h200 := chk_len h
  unfold cputZ
  split
  · simp
  · split
    · have := M.putL_len10 (u := (M.foldI i).toNat) (by have := foldI_nn hi; omega)
      rw [List.length_cons]; omega
    · have := M.putL_len10 (u := b.length) (by omega)
      rw [List.length_cons, List.length_append]; omega
theorem cput_old {objs O : List AO} {c : Co} {x : Ce} (h : ceOk objs x = true) (ho : Old objs O) : cputC O c x = cputC objs c x := by unfold cputC; rw [(ce_old h ho).2]
def rowZ (objs : List AO) (cols : List Co) (row : List Ce) : Nat → List Int := fun i => cputC objs (nth cols i) (nth row i)
noncomputable def k_PutRow : Ab.Spec := con2 some some fun s w objs => match schD objs s, rowR objs w with
  | some (cols, K), some row => some (cputV (rowE objs cols K row) (.fresh 1 true) (catZ (rowZ objs cols row) row.length), none)
  | _, _ => none
noncomputable def T_PutRow : CallF := withF T_rCPut 35 k_PutRow
theorem T_PutRow_ok : CallOk Tryd.prog T_PutRow := con_of (A := annOf [] [38] [] false []) fit T_rCPut_ok (fn := Tryd.f35) (by kernel_rfl) (by kernel_rfl) (by
  intro args objs r h0
  have c_Row : ∀ a o, T_rCPut 16 a o = k_Row a o := fun _ _ => rfl
  have c_CPut : ∀ a o, T_rCPut 66 a o = k_CPut a o := fun _ _ => rfl
  obtain ⟨s, w, _, _, rfl, hs, hw, hR⟩ := con2_inv h0
  cases hs; cases hw
  split at hR
  case h_2 => cases hR
  rename_i cols K row hsc hr
  cases hR
  obtain ⟨v, rfl, hv, vd, vo, vf, vc, vn, vi, hc, hl⟩ := schF hsc
  obtain ⟨hw, wd, wn, wi, wk⟩ := rowF hr
  obtain ⟨O0, hO0⟩ : ∃ O, O = objs ++ [.cells [v, .int .i64 K] 0] := ⟨_, rfl⟩
  have hold0 : Old objs O0 := by rw [hO0]; exact Old.ext _ _
  obtain ⟨E, hE⟩ : ∃ E, E = rowE objs cols K row := ⟨_, rfl⟩
  have s1 : k_Row [.agg [v, .int .i64 K], w] O0 = some (.int .i64 E, none) := by simp [k_Row, schD_old hsc hold0, rowR_old hr hold0, rowE_old wk hold0, ← hE]
  rw [hO0] at s1
  rw [← hE]
  refine .go _ rfl rfl ?_
  by_cases he : E = 0
  case neg =>
    have he2 : (E != 0) = true := by simpa using he
    simp -implicitDefEqProofs (disch := omega) [vd, wd, c_Row, s1, he, he2, cputV]
  rw [he] at hE s1
  obtain ⟨hg, hlen, hch⟩ := row_len hE.symm
  obtain ⟨p1, p2, p3, p4, p5⟩ := chk_pos hg
  have hfl : ∀ i, i < row.length → 1 ≤ (rowZ objs cols row i).length ∧ (rowZ objs cols row i).length ≤ 211 := fun i hi => cput_len (hch i hi) (ceOk_inv (wk i hi)).1
  obtain ⟨F, hF⟩ : ∃ F, F = rowZ objs cols row := ⟨_, rfl⟩
  rw [← hF] at hfl ⊢
  have hcl : ∀ i, i ≤ row.length → (catZ F i).length ≤ i * 211 := fun i hi => catZ_le fun j hj => (hfl j (by omega)).2
  simp -implicitDefEqProofs (disch := omega) [vd, wd, c_Row, s1, wn, he]
  obtain ⟨I, hI⟩ : ∃ I : Nat → St → Prop, I = (fun (i : Nat) (z : St) => z.env 2 = .ptr objs.length 0 0 ∧ z.env 18 = w ∧ z.env 19 = .int .i64 row.length ∧ z.env 20 = .int .i64 i ∧ z.toks = [] ∧ z.low = objs.length ∧ Old objs z.objs ∧ Ab.getObj z.objs objs.length 0 = some [v, .int .i64 K] ∧ (i = 0 ∧ z.env 7 = .nils ∨ 0 < i ∧ ∃ id ver, objs.length < id ∧ z.env 7 = .ref id ver 0 (catZ F i).length 1 ∧ Ab.getObj z.objs id ver = some (ints .u8 (catZ F i)))) := ⟨_, rfl⟩
  refine .up row.length I (by rw [hI]; exact ⟨by simp, by simp, by simp, by simp, rfl, rfl, Old.ext _ _, by simp, .inl ⟨rfl, by simp⟩⟩) ?_
  intro i z hi hz
  rw [hI] at hz
  obtain ⟨e2, e18, e19, e20, ht, hlo, hold, b1, h7⟩ := hz
  obtain ⟨O, ho⟩ : ∃ O, O = z.objs := ⟨_, rfl⟩
  rw [← ho] at hold b1 h7
  have ho := ho.symm
  rcases Nat.lt_or_ge i row.length with h | h
  case inr =>
    obtain rfl : i = row.length := by omega
    rcases h7 with ⟨h7, -⟩ | ⟨-, id, ver, hid, e7, b7⟩
    · omega
    have hid2 : ¬ id < objs.length := by omega
    have hb := hcl row.length (Nat.le_refl _)
    simp -implicitDefEqProofs (disch := omega) [e2, e18, e19, e20, e7, b7, ht, ho, hlo, hid2, cputV]
  have hOl : objs.length ≤ O.length := hold.1
  have hOl1 : objs.length < O.length := getObj_lt b1
  have hOl2 : ¬ O.length < objs.length := by omega
  have ix := wi i h
  obtain ⟨g1, -⟩ := row_at (hw.old hold) h
  have hck := wk i h
  obtain ⟨Z, hZ⟩ : ∃ Z, Z = F i := ⟨_, rfl⟩
  have hsucc : catZ F (i + 1) = catZ F i ++ Z := by rw [catZ_succ, hZ]
  obtain ⟨z1, z2⟩ := hfl i h
  rw [← hZ] at z1 z2
  have hb0 := hcl i (by omega)
  have hz0 : Z ≠ [] := by rintro rfl; simp at z1
  rw [hF] at hZ
  have hZ' : Z = cputC objs (nth cols i) (nth row i) := hZ
  have hcx : chkC objs (nth cols i) (nth row i) = checkR (nth cols i).k (nth cols i).n (nth row i).n (nth row i).i ((nth row i).b objs) := rfl
  rw [hch i h] at hcx
  obtain ⟨x, hxx⟩ : ∃ x, x = nth row i := ⟨_, rfl⟩
  obtain ⟨C, hC⟩ : ∃ C, C = nth cols i := ⟨_, rfl⟩
  obtain ⟨-, -, g3, g4⟩ := col_get (hv.old (hold.app [.cells (ceV x) 0])) (i := i) (by omega)
  rw [← hxx] at g1 hck hZ' hcx
  rw [← hC] at g3 g4 hZ' hcx
  obtain ⟨xn, xi, xv⟩ := x
  obtain ⟨nm, k, nl⟩ := C
  obtain ⟨O2, hO2⟩ : ∃ O2, O2 = O ++ [.cells (ceV ⟨xn, xi, xv⟩) 0] := ⟨_, rfl⟩
  rw [← hO2] at g3 g4
  have hold2 : Old objs O2 := by rw [hO2]; exact hold.app _
  have hO3 : Old O O2 := by rw [hO2]; exact Old.ext _ _
  have hO2l : O2.length = O.length + 1 := by rw [hO2]; simp
  have b2 : Ab.getObj O2 objs.length 0 = some [v, .int .i64 K] := by rw [hO3.2 _ _ (getObj_lt b1)]; exact b1
  have bx : Ab.getObj O2 O.length 0 = some (ceV ⟨xn, xi, xv⟩) := by rw [hO2]; simp
  obtain ⟨k1, k2, k3, k4⟩ := ceOk_inv (ce_old hck hold2).1
  have hb := (ce_old hck hold2).2
  simp only at hb k1 k2 k3 k4 g3 g4 hcx
  rw [hb] at k2 k3 k4
  obtain ⟨a1, a2, a3, a4⟩ := one_ofR k2
  obtain ⟨B, hB⟩ : ∃ B, B = (⟨xn, xi, xv⟩ : Ce).b objs := ⟨_, rfl⟩
  have hZ2 : cputZ k xn xi B = Z := by rw [hZ', hB]; rfl
  rw [← hB] at k2 k3 k4 hcx
  have hck2 := checkR_null hcx.symm
  have hO2' : O ++ [.cells [.bool xn, .int .i64 xi, xv] 0] = O2 := hO2.symm
  have jx := vi i (by omega)
  simp only [ceV] at g1 bx
  have hzl : ints .u8 Z ≠ [] := by simpa [ints] using hz0
  rcases h7 with ⟨hi0, e7⟩ | ⟨hpos, id, ver, hid, e7, b7⟩
  · simp -implicitDefEqProofs (disch := omega) [e2, e18, e19, e20, e7, ht, ho, hlo, h, ix, hOl2, g1, ceV, setCells, a1, a2, a3, a4, hO2', b2, bx, vd, jx, g3, g4, col_f1, col_f2, c_CPut, k_CPut, k1, k2, k3, k4, hck2, cputV, hZ2, hzl, hO2l, wrap_small, Nat.mod_one]
    rw [hI]
    exact ⟨by simp [e2], by simp [e18], by simp [e19], by simp, rfl, rfl, hold2.app _, by rw [getObj_app (by omega)]; exact b2, .inr ⟨by omega, O2.length, 0, by omega, by rw [hsucc, hi0]; simp [catZ, hO2l], by rw [hsucc, hi0]; simp [catZ]⟩⟩
  · have hidO := getObj_lt b7
    have b7' : Ab.getObj O2 id ver = some (ints .u8 (catZ F i)) := by rw [hO3.2 _ _ hidO]; exact b7
    have hid2 : ¬ id < objs.length := by omega
    have hst : ints .u8 (catZ F i) ++ ints .u8 Z = ints .u8 (catZ F i ++ Z) := by simp [ints]
    simp -implicitDefEqProofs (disch := omega) [e2, e18, e19, e20, e7, ht, ho, hlo, h, ix, hOl2, g1, ceV, setCells, a1, a2, a3, a4, hO2', b2, bx, vd, jx, g3, g4, col_f1, col_f2, c_CPut, k_CPut, k1, k2, k3, k4, hck2, cputV, hZ2, hzl, hO2l, b7', hid2, hst, wrap_small, Nat.mod_one]
    rw [hI]
    exact ⟨by simp [e2], by simp [e18], by simp [e19], by simp, rfl, by simp, hold2.set (by omega), by rw [getObj_set_ne (by omega)]; exact b2, .inr ⟨by omega, id, ver + 1, hid, by simp [hsucc], by rw [hsucc, getObj_set (by omega)]⟩⟩)

end Go.Proofs.YtnbgmclbbkfhhaaDoor.B
set_option maxRecDepth 20000
set_option maxHeartbeats 1000000
namespace Go.Proofs.YtnbgmclbbkfhhaaDoor.B
open Go Go.Ab
noncomputable def k_rPutRow : Ab.Spec := con2 some some fun s w objs => match schD objs s, rowR objs w with
  | some (cols, K), some row => some (cputV (rowE objs cols K row) .frozen (catZ (rowZ objs cols row) row.length), none)
  | _, _ => none
noncomputable def T_rPutRow : CallF := withF T_PutRow 34 k_rPutRow
theorem T_rPutRow_ok : CallOk Tryd.prog T_rPutRow := con_of (A := annOf [] [] [] false []) fit T_PutRow_ok (fn := Tryd.f34) (by kernel_rfl) (by kernel_rfl) (by
  intro args objs r h0
  have c_rRow : ∀ a o, T_PutRow 17 a o = k_rRow a o := fun _ _ => rfl
  have c_rCPut : ∀ a o, T_PutRow 65 a o = k_rCPut a o := fun _ _ => rfl
  have c_CatR : ∀ a o, T_PutRow 46 a o = k_CatR a o := fun _ _ => rfl
  obtain ⟨s, w, _, _, rfl, hs, hw, hR⟩ := con2_inv h0
  cases hs; cases hw
  split at hR
  case h_2 => cases hR
  rename_i cols K row hsc hr
  cases hR
  obtain ⟨v, rfl, hv, vd, vo, vf, vc, vn, vi, hc, hl⟩ := schF hsc
  obtain ⟨hw, wd, wn, wi, wk⟩ := rowF hr
  obtain ⟨O0, hO0⟩ : ∃ O, O = objs ++ [.cells [v, .int .i64 K] 0] := ⟨_, rfl⟩
  have hold0 : Old objs O0 := by rw [hO0]; exact Old.ext _ _
  have b1 : Ab.getObj O0 objs.length 0 = some [v, .int .i64 K] := by rw [hO0]; simp
  obtain ⟨E, hE⟩ : ∃ E, E = rowE objs cols K row := ⟨_, rfl⟩
  have s1 : k_rRow [.agg [v, .int .i64 K], w] O0 = some (.int .i64 E, none) := by simp [k_rRow, schD_old hsc hold0, rowR_old hr hold0, rowE_old wk hold0, ← hE]
  rw [hO0] at s1
  rw [← hE]
  refine .go _ rfl rfl ?_
  by_cases he : E = 0
  case neg =>
    have he2 : (E != 0) = true := by simpa using he
    simp -implicitDefEqProofs (disch := omega) [vd, wd, c_rRow, s1, he, he2, cputV]
  rw [he] at hE s1
  obtain ⟨hg, hlen, hch⟩ := row_len hE.symm
  obtain ⟨p1, p2, p3, p4, p5⟩ := chk_pos hg
  have hfl : ∀ i, i < row.length → 1 ≤ (rowZ objs cols row i).length ∧ (rowZ objs cols row i).length ≤ 211 := fun i hi => cput_len (hch i hi) (ceOk_inv (wk i hi)).1
  obtain ⟨F, hF⟩ : ∃ F, F = rowZ objs cols row := ⟨_, rfl⟩
  rw [← hF] at hfl ⊢
  have hcl : ∀ i, i ≤ row.length → (catZ F i).length ≤ i * 211 := fun i hi => catZ_le fun j hj => (hfl j (by omega)).2
  simp -implicitDefEqProofs (disch := omega) [vd, wd, c_rRow, s1, he, blit0]
  rw [← hO0]
  obtain ⟨I, hI⟩ : ∃ I : Nat → St → Prop, I = (fun (i : Nat) (z : St) => z.env 1 = w ∧ z.env 2 = .ptr objs.length 0 0 ∧ z.env 8 = .int .i64 i ∧ z.toks = [] ∧ z.low = objs.length ∧ z.objs = O0 ∧ ∃ lk, z.env 7 = .lst lk (ints .u8 (catZ F i)) (catZ F i).length ∧ (i = 0 ∧ lk = .lit ∨ lk = .frozen)) := ⟨_, rfl⟩
  refine .up row.length I (by rw [hI]; exact ⟨by simp, by simp, by simp, rfl, rfl, rfl, .lit, by simp [catZ, ints], .inl ⟨rfl, rfl⟩⟩) ?_
  intro i z hi hz
  rw [hI] at hz
  obtain ⟨e1, e2, e8, ht, hlo, ho, lk, e7, hlk⟩ := hz
  rcases Nat.lt_or_ge i row.length with h | h
  case inr =>
    obtain rfl : i = row.length := by omega
    obtain rfl : lk = .frozen := hlk.resolve_left fun q => by omega
    simp -implicitDefEqProofs (disch := omega) [e1, e2, e8, e7, ht, ho, hlo, wn, cputV]
  have ix := wi i h
  obtain ⟨g1, -⟩ := row_at (hw.old hold0) h
  have hck := wk i h
  obtain ⟨Z, hZ⟩ : ∃ Z, Z = F i := ⟨_, rfl⟩
  have hsucc : catZ F (i + 1) = catZ F i ++ Z := by rw [catZ_succ, hZ]
  obtain ⟨z1, z2⟩ := hfl i h
  rw [← hZ] at z1 z2
  have hb0 := hcl i (by omega)
  rw [hF] at hZ
  have hZ' : Z = cputC objs (nth cols i) (nth row i) := hZ
  have hcx : chkC objs (nth cols i) (nth row i) = checkR (nth cols i).k (nth cols i).n (nth row i).n (nth row i).i ((nth row i).b objs) := rfl
  rw [hch i h] at hcx
  obtain ⟨x, hxx⟩ : ∃ x, x = nth row i := ⟨_, rfl⟩
  obtain ⟨C, hC⟩ : ∃ C, C = nth cols i := ⟨_, rfl⟩
  obtain ⟨-, -, g3, g4⟩ := col_get (hv.old hold0) (i := i) (by omega)
  rw [← hxx] at g1 hck hZ' hcx
  rw [← hC] at g3 g4 hZ' hcx
  obtain ⟨xn, xi, xv⟩ := x
  obtain ⟨nm, k, nl⟩ := C
  obtain ⟨k1, k2, k3, k4⟩ := ceOk_inv (ce_old hck hold0).1
  have hb := (ce_old hck hold0).2
  simp only at hb k1 k2 k3 k4 g3 g4 hcx
  rw [hb] at k2 k3 k4
  obtain ⟨a1, a2, a3, a4⟩ := one_ofR k2
  obtain ⟨B, hB⟩ : ∃ B, B = (⟨xn, xi, xv⟩ : Ce).b objs := ⟨_, rfl⟩
  have hZ2 : cputZ k xn xi B = Z := by rw [hZ', hB]; rfl
  rw [← hB] at k2 k3 k4 hcx
  have hck2 := checkR_null hcx.symm
  have jx := vi i (by omega)
  obtain ⟨c, hc'⟩ : ∃ c, c = catZ F i := ⟨_, rfl⟩
  rw [← hc'] at hsucc hb0 e7
  have f1 : ∀ (O : List AO) (x : List Int), ofIntsR .u8 O (.lst .frozen (ints .u8 x) x.length) = some x := fun O x => ofIntsR_of (ofInts_lst rfl)
  rcases hlk with ⟨-, rfl⟩ | rfl
  · simp -implicitDefEqProofs (disch := omega) [e1, e2, e8, e7, ht, ho, hlo, wn, h, ix, g1, ceV, a1, a2, a3, a4, b1, vd, wd, jx, g3, g4, col_f1, col_f2, c_rCPut, k_rCPut, k1, k2, k3, k4, hck2, cputV, hZ2, c_CatR, k_CatR, f1, wrap_small]
    rw [hI]
    exact ⟨by simp [e1], by simp [e2], by simp, rfl, rfl, rfl, .frozen, by simp [hsucc], .inr rfl⟩
  · simp -implicitDefEqProofs (disch := omega) [e1, e2, e8, e7, ht, ho, hlo, wn, h, ix, g1, ceV, a1, a2, a3, a4, b1, vd, wd, jx, g3, g4, col_f1, col_f2, c_rCPut, k_rCPut, k1, k2, k3, k4, hck2, cputV, hZ2, c_CatR, k_CatR, f1, wrap_small]
    rw [hI]
    exact ⟨by simp [e1], by simp [e2], by simp, rfl, rfl, rfl, .frozen, by simp [hsucc], .inr rfl⟩)

end Go.Proofs.YtnbgmclbbkfhhaaDoor.B
set_option maxRecDepth 20000
set_option maxHeartbeats 1000000
namespace Go.Proofs.YtnbgmclbbkfhhaaDoor.B
open Go Go.Ab
/-! putting sets -/
theorem sets_len {objs : List AO} {cols : List Co} {K : Int} {sets : List Se} (h : setsE objs cols K sets = 0) : chkR cols K = 0 ∧ 0 < sets.length ∧ sets.length ≤ 12 ∧ ∀ i, i < sets.length → 0 ≤ (nth sets i).c ∧ (nth sets i).c < cols.length ∧ setE objs cols K sets i = 0 ∧ chkC objs (nth cols (nth sets i).c.toNat) (nth sets i).x = 0 := by
  obtain ⟨hg, hp, hs⟩ := sets_cols h
  obtain ⟨p1, p2, p3, p4, p5⟩ := chk_pos hg
  have hm : ∀ i, i < sets.length → ¬ misP cols K sets i ∧ chkC objs (nth cols (nth sets i).c.toNat) (nth sets i).x = 0 := fun i hi => by
    have := hs i hi
    unfold setE at this
    split at this
    · cases this
    · exact ⟨by assumption, this⟩
  have hc : ∀ i : Nat, i < sets.length → (i : Int) + 1 ≤ (nth sets i).c ∧ (nth sets i).c < cols.length := by
    intro i
    induction i with
    | zero =>
      intro hi
      have := (hm 0 hi).1
      unfold misP at this
      omega
    | succ i ih =>
      intro hi
      have h1 := ih (by omega)
      have := (hm (i + 1) hi).1
      unfold misP at this
      rw [Nat.add_sub_cancel] at this
      omega
  have hl := hc (sets.length - 1) (by omega)
  exact ⟨hg, hp, by omega, fun i hi => ⟨by have := hc i hi; omega, (hc i hi).2, hs i hi, (hm i hi).2⟩⟩
def setZ (objs : List AO) (cols : List Co) (sets : List Se) : Nat → List Int := fun i => M.putL (nth sets i).c.toNat ++ cputC objs (nth cols (nth sets i).c.toNat) (nth sets i).x
def setsZ (objs : List AO) (cols : List Co) (sets : List Se) (n : Nat) : List Int := M.putL sets.length ++ catZ (setZ objs cols sets) n
theorem setsZ_succ {objs : List AO} {cols : List Co} {sets : List Se} {n : Nat} : setsZ objs cols sets (n + 1) = setsZ objs cols sets n ++ (M.putL (nth sets n).c.toNat ++ cputC objs (nth cols (nth sets n).c.toNat) (nth sets n).x) := by
  unfold setsZ; rw [catZ_succ, List.append_assoc]; rfl
noncomputable def k_PutSets : Ab.Spec := con2 some some fun s w objs => match schD objs s, setsR objs w with
  | some (cols, K), some sets => bnd sets.length 140737488355328 (some (cputV (setsE objs cols K sets) (.fresh 1 true) (setsZ objs cols sets sets.length), none))
  | _, _ => none
noncomputable def T_PutSets : CallF := withF T_rPutRow 37 k_PutSets
theorem T_PutSets_ok : CallOk Tryd.prog T_PutSets := con_of (A := annOf [] [46,48] [(21, [.ref])] false []) fit T_rPutRow_ok (fn := Tryd.f37) (by kernel_rfl) (by kernel_rfl) (by
  intro args objs r h0
  have c_Sets : ∀ a o, T_rPutRow 20 a o = k_Sets a o := fun _ _ => rfl
  have c_CPut : ∀ a o, T_rPutRow 66 a o = k_CPut a o := fun _ _ => rfl
  have c_VPut : ∀ a o, T_rPutRow 68 a o = k_VPut a o := fun _ _ => rfl
  obtain ⟨s, w, _, _, rfl, hs, hw, hR⟩ := con2_inv h0
  cases hs; cases hw
  split at hR
  case h_2 => cases hR
  rename_i cols K sets hsc hr
  obtain ⟨hsl, hR⟩ := bnd_inv hR
  cases hR
  obtain ⟨v, rfl, hv, vd, vo, vf, vc, vn, vi, hc, hl⟩ := schF hsc
  obtain ⟨hw, wd, wn, wi, wk⟩ := setsF hr
  obtain ⟨O0, hO0⟩ : ∃ O, O = objs ++ [.cells [v, .int .i64 K] 0] := ⟨_, rfl⟩
  have hold0 : Old objs O0 := by rw [hO0]; exact Old.ext _ _
  obtain ⟨E, hE⟩ : ∃ E, E = setsE objs cols K sets := ⟨_, rfl⟩
  have s1 : k_Sets [.agg [v, .int .i64 K], w] O0 = some (.int .i64 E, none) := by simp (disch := omega) [k_Sets, schD_old hsc hold0, setsR_old hr hold0, setsE_old wk hold0, ← hE]
  rw [hO0] at s1
  rw [← hE]
  refine .go _ rfl rfl ?_
  by_cases he : E = 0
  case neg =>
    have he2 : (E != 0) = true := by simpa using he
    simp -implicitDefEqProofs (disch := omega) [vd, wd, c_Sets, s1, he, he2, cputV]
  rw [he] at hE s1
  obtain ⟨hg, hpos, h12, hch⟩ := sets_len hE.symm
  obtain ⟨p1, p2, p3, p4, p5⟩ := chk_pos hg
  have hfl : ∀ i, i < sets.length → 1 ≤ (cputC objs (nth cols (nth sets i).c.toNat) (nth sets i).x).length ∧ (cputC objs (nth cols (nth sets i).c.toNat) (nth sets i).x).length ≤ 211 ∧ (M.putL (nth sets i).c.toNat).length ≤ 10 := fun i hi => by
    obtain ⟨c0, c1, -, c3⟩ := hch i hi
    have h1 := cput_len c3 (ceOk_inv (seOk_inv (wk i hi)).2).1
    exact ⟨h1.1, h1.2, M.putL_len10 (by omega)⟩
  have hp0 := M.putL_len10 (u := sets.length) (by omega)
  have hcl : ∀ i, i ≤ sets.length → (setsZ objs cols sets i).length ≤ 10 + i * 221 := fun i hi => by
    have := catZ_le (f := setZ objs cols sets) (m := 221) (n := i) fun j hj => by
      have := hfl j (by omega)
      unfold setZ
      rw [List.length_append]; omega
    unfold setsZ
    rw [List.length_append]; omega
  have hpn := putVR_nat (u := sets.length) (by omega)
  have wl : IntKind.u64.wrap (sets.length : Int) = sets.length := wrap_u64 (by omega) (by omega)
  have hz0 : setsZ objs cols sets 0 = M.putL sets.length := by unfold setsZ; simp [catZ]
  obtain ⟨c, hc0⟩ : ∃ c, c = setsZ objs cols sets := ⟨_, rfl⟩
  rw [← hc0] at hz0 hcl ⊢
  have hsc2 : ∀ n, c (n + 1) = c n ++ (M.putL (nth sets n).c.toNat ++ cputC objs (nth cols (nth sets n).c.toNat) (nth sets n).x) := fun n => by rw [hc0]; exact setsZ_succ
  rw [← hz0] at hpn hp0
  simp -implicitDefEqProofs (disch := omega) [vd, wd, c_Sets, s1, wn, he, convV, wl, c_VPut, k_VPut, hpn]
  obtain ⟨I, hI⟩ : ∃ I : Nat → St → Prop, I = (fun (i : Nat) (z : St) => z.env 2 = .ptr objs.length 0 0 ∧ z.env 22 = w ∧ z.env 23 = .int .i64 sets.length ∧ z.env 24 = .int .i64 i ∧ z.toks = [] ∧ z.low = objs.length ∧ Old objs z.objs ∧ Ab.getObj z.objs objs.length 0 = some [v, .int .i64 K] ∧ ∃ id ver, objs.length < id ∧ z.env 7 = .ref id ver 0 (c i).length 1 ∧ Ab.getObj z.objs id ver = some (ints .u8 (c i))) := ⟨_, rfl⟩
  refine .up sets.length I (by rw [hI]; exact ⟨by simp, by simp, by simp, by simp, rfl, rfl, Old.ext _ _, by simp, objs.length + 1, 0, by omega, by simp, by simp⟩) ?_
  intro i z hi hz
  rw [hI] at hz
  obtain ⟨e2, e22, e23, e24, ht, hlo, hold, b1, id, ver, hid, e7, b7⟩ := hz
  obtain ⟨O, ho⟩ : ∃ O, O = z.objs := ⟨_, rfl⟩
  rw [← ho] at hold b1 b7
  have ho := ho.symm
  have hid2 : ¬ id < objs.length := by omega
  rcases Nat.lt_or_ge i sets.length with h | h
  case inr =>
    obtain rfl : i = sets.length := by omega
    have hb := hcl sets.length (Nat.le_refl _)
    simp -implicitDefEqProofs (disch := omega) [e2, e22, e23, e24, e7, b7, ht, ho, hlo, hid2, cputV]
  have hOl : objs.length ≤ O.length := hold.1
  have hOl1 : objs.length < O.length := getObj_lt b1
  have hOl2 : ¬ O.length < objs.length := by omega
  have ix := wi i h
  obtain ⟨g1, -⟩ := set_at (hw.old hold) h
  have hsk := wk i h
  obtain ⟨z1, z2, z3⟩ := hfl i h
  have hsucc := hsc2 i
  have hb0 := hcl i (by omega)
  obtain ⟨c0, c1, -, hcx⟩ := hch i h
  obtain ⟨S, hS⟩ : ∃ S, S = nth sets i := ⟨_, rfl⟩
  rw [← hS] at g1 hsk c0 c1 hcx hsucc z1 z2 z3
  obtain ⟨n0, x⟩ := S
  obtain ⟨xn, xi, xv⟩ := x
  simp only at c0 c1 hcx hsucc z1 z2 z3
  obtain ⟨n, rfl⟩ := Int.eq_ofNat_of_zero_le c0
  rw [Int.toNat_natCast] at hcx hsucc z1 z2 z3
  have hnl : n < cols.length := by omega
  obtain ⟨O2, hO2⟩ : ∃ O2, O2 = O ++ [.cells (seV ⟨n, xn, xi, xv⟩) 0] := ⟨_, rfl⟩
  have hold2 : Old objs O2 := by rw [hO2]; exact hold.app _
  have hO3 : Old O O2 := by rw [hO2]; exact Old.ext _ _
  have hO2l : O2.length = O.length + 1 := by rw [hO2]; simp
  have b2 : Ab.getObj O2 objs.length 0 = some [v, .int .i64 K] := by rw [hO3.2 _ _ (getObj_lt b1)]; exact b1
  have bx : Ab.getObj O2 O.length 0 = some (seV ⟨n, xn, xi, xv⟩) := by rw [hO2]; simp
  obtain ⟨-, -, g3, g4⟩ := col_get (hv.old hold2) (i := n) hnl
  have hck := (seOk_inv hsk).2
  obtain ⟨k1, k2, k3, k4⟩ := ceOk_inv (ce_old hck hold2).1
  have hb := (ce_old hck hold2).2
  simp only at hb k1 k2 k3 k4
  rw [hb] at k2 k3 k4
  obtain ⟨a1, a2, a3, a4⟩ := one_ofR k2
  have hcx2 : chkC objs (nth cols n) ⟨xn, xi, xv⟩ = checkR (nth cols n).k (nth cols n).n xn xi (Ce.b ⟨xn, xi, xv⟩ objs) := rfl
  rw [hcx] at hcx2
  have hZ2 : cputC objs (nth cols n) ⟨xn, xi, xv⟩ = cputZ (nth cols n).k xn xi (Ce.b ⟨xn, xi, xv⟩ objs) := rfl
  obtain ⟨C, hC⟩ : ∃ C, C = nth cols n := ⟨_, rfl⟩
  obtain ⟨B, hB⟩ : ∃ B, B = (⟨xn, xi, xv⟩ : Ce).b objs := ⟨_, rfl⟩
  obtain ⟨Z, hZ⟩ : ∃ Z, Z = cputC objs (nth cols n) ⟨xn, xi, xv⟩ := ⟨_, rfl⟩
  rw [← hZ] at hsucc z1 z2 hZ2
  rw [← hB] at k2 k3 k4 hcx2 hZ2
  rw [← hC] at g3 g4 hcx2 hZ2
  obtain ⟨nm, k, nl⟩ := C
  simp only at g3 g4 hcx2 hZ2
  have hZ2 := hZ2.symm
  have hck2 := checkR_null hcx2.symm
  have hO2' : O ++ [.cells [.int .i64 n, .bool xn, .int .i64 xi, xv] 0] = O2 := hO2.symm
  have jx := vi n hnl
  have hpv := putVR_nat (u := n) (by omega)
  have wn2 : IntKind.u64.wrap (n : Int) = n := wrap_u64 (by omega) (by omega)
  obtain ⟨W, hW⟩ : ∃ W, W = M.putL n := ⟨_, rfl⟩
  rw [← hW] at hsucc z3 hpv
  simp only [seV, ceV] at g1 bx
  have hidO := getObj_lt b7
  have b7' : Ab.getObj O2 id ver = some (ints .u8 (c i)) := by rw [hO3.2 _ _ hidO]; exact b7
  have bx' : ∀ y : AO, Ab.getObj (O2.set id y) O.length 0 = some [.int .i64 n, .bool xn, .int .i64 xi, xv] := fun y => by rw [getObj_set_ne (by omega)]; exact bx
  have b8' : ∀ y w2, Ab.getObj (O2.set id (.cells y w2)) id w2 = some y := fun y w2 => getObj_set (by omega)
  have hss : ∀ y y2 : AO, (O2.set id y).set id y2 = O2.set id y2 := fun y y2 => by rw [List.set_set]
  simp -implicitDefEqProofs (disch := omega) [e2, e22, e23, e24, e7, ht, ho, hlo, h, ix, hOl2, g1, ceV, seV, setCells, a1, a2, a3, a4, hO2', b2, bx, vd, jx, g3, g4, col_f1, col_f2, c_CPut, k_CPut, k1, k2, k3, k4, hck2, cputV, hZ2, hO2l, b7', bx', b8', hss, hid2, convV, wn2, c_VPut, k_VPut, hpv, wrap_small, Nat.mod_one]
  rw [hI]
  exact ⟨by simp [e2], by simp [e22], by simp [e23], by simp, rfl, by simp, hold2.set (by omega), by rw [getObj_set_ne (by omega)]; exact b2, id, ver + 2, hid, by simp [hsucc, Nat.add_assoc], by rw [hsucc, getObj_set (by omega)]⟩)

end Go.Proofs.YtnbgmclbbkfhhaaDoor.B
set_option maxRecDepth 20000
set_option maxHeartbeats 1000000
namespace Go.Proofs.YtnbgmclbbkfhhaaDoor.B
open Go Go.Ab
noncomputable def k_rPutSets : Ab.Spec := con2 some some fun s w objs => match schD objs s, setsR objs w with
  | some (cols, K), some sets => bnd sets.length 140737488355328 (some (cputV (setsE objs cols K sets) .frozen (setsZ objs cols sets sets.length), none))
  | _, _ => none
noncomputable def T_rPutSets : CallF := withF T_PutSets 36 k_rPutSets
theorem T_rPutSets_ok : CallOk Tryd.prog T_rPutSets := con_of (A := annOf [] [] [] false []) fit T_PutSets_ok (fn := Tryd.f36) (by kernel_rfl) (by kernel_rfl) (by
  intro args objs r h0
  have c_rSets : ∀ a o, T_PutSets 21 a o = k_rSets a o := fun _ _ => rfl
  have c_rCPut : ∀ a o, T_PutSets 65 a o = k_rCPut a o := fun _ _ => rfl
  have c_RPut : ∀ a o, T_PutSets 67 a o = k_RPut a o := fun _ _ => rfl
  have c_CatR : ∀ a o, T_PutSets 46 a o = k_CatR a o := fun _ _ => rfl
  obtain ⟨s, w, _, _, rfl, hs, hw, hR⟩ := con2_inv h0
  cases hs; cases hw
  split at hR
  case h_2 => cases hR
  rename_i cols K sets hsc hr
  obtain ⟨hsl, hR⟩ := bnd_inv hR
  cases hR
  obtain ⟨v, rfl, hv, vd, vo, vf, vc, vn, vi, hc, hl⟩ := schF hsc
  obtain ⟨hw, wd, wn, wi, wk⟩ := setsF hr
  obtain ⟨O0, hO0⟩ : ∃ O, O = objs ++ [.cells [v, .int .i64 K] 0] := ⟨_, rfl⟩
  have hold0 : Old objs O0 := by rw [hO0]; exact Old.ext _ _
  have b1 : Ab.getObj O0 objs.length 0 = some [v, .int .i64 K] := by rw [hO0]; simp
  obtain ⟨E, hE⟩ : ∃ E, E = setsE objs cols K sets := ⟨_, rfl⟩
  have s1 : k_rSets [.agg [v, .int .i64 K], w] O0 = some (.int .i64 E, none) := by simp (disch := omega) [k_rSets, schD_old hsc hold0, setsR_old hr hold0, setsE_old wk hold0, ← hE]
  rw [hO0] at s1
  rw [← hE]
  refine .go _ rfl rfl ?_
  by_cases he : E = 0
  case neg =>
    have he2 : (E != 0) = true := by simpa using he
    simp -implicitDefEqProofs (disch := omega) [vd, wd, c_rSets, s1, he, he2, cputV]
  rw [he] at hE s1
  obtain ⟨hg, hpos, h12, hch⟩ := sets_len hE.symm
  obtain ⟨p1, p2, p3, p4, p5⟩ := chk_pos hg
  have hfl : ∀ i, i < sets.length → 1 ≤ (cputC objs (nth cols (nth sets i).c.toNat) (nth sets i).x).length ∧ (cputC objs (nth cols (nth sets i).c.toNat) (nth sets i).x).length ≤ 211 ∧ (M.putL (nth sets i).c.toNat).length ≤ 10 := fun i hi => by
    obtain ⟨c0, c1, -, c3⟩ := hch i hi
    have h1 := cput_len c3 (ceOk_inv (seOk_inv (wk i hi)).2).1
    exact ⟨h1.1, h1.2, M.putL_len10 (by omega)⟩
  have hp0 := M.putL_len10 (u := sets.length) (by omega)
  have hcl : ∀ i, i ≤ sets.length → (setsZ objs cols sets i).length ≤ 10 + i * 221 := fun i hi => by
    have := catZ_le (f := setZ objs cols sets) (m := 221) (n := i) fun j hj => by
      have := hfl j (by omega)
      unfold setZ
      rw [List.length_append]; omega
    unfold setsZ
    rw [List.length_append]; omega
  have hpn := putVR_nat (u := sets.length) (by omega)
  have wl : IntKind.u64.wrap (sets.length : Int) = sets.length := wrap_u64 (by omega) (by omega)
  have hz0 : setsZ objs cols sets 0 = M.putL sets.length := by unfold setsZ; simp [catZ]
  obtain ⟨c, hc0⟩ : ∃ c, c = setsZ objs cols sets := ⟨_, rfl⟩
  rw [← hc0] at hz0 hcl ⊢
  have hsc2 : ∀ n, c (n + 1) = c n ++ (M.putL (nth sets n).c.toNat ++ cputC objs (nth cols (nth sets n).c.toNat) (nth sets n).x) := fun n => by rw [hc0]; exact setsZ_succ
  rw [← hz0] at hpn hp0
  simp -implicitDefEqProofs (disch := omega) [vd, wd, c_rSets, s1, wn, he, convV, wl, c_RPut, k_RPut, hpn]
  rw [← hO0]
  obtain ⟨I, hI⟩ : ∃ I : Nat → St → Prop, I = (fun (i : Nat) (z : St) => z.env 1 = w ∧ z.env 2 = .ptr objs.length 0 0 ∧ z.env 8 = .int .i64 i ∧ z.toks = [] ∧ z.low = objs.length ∧ z.objs = O0 ∧ z.env 7 = .lst .frozen (ints .u8 (c i)) (c i).length) := ⟨_, rfl⟩
  refine .up sets.length I (by rw [hI]; exact ⟨by simp, by simp, by simp, rfl, rfl, rfl, by simp⟩) ?_
  intro i z hi hz
  rw [hI] at hz
  obtain ⟨e1, e2, e8, ht, hlo, ho, e7⟩ := hz
  rcases Nat.lt_or_ge i sets.length with h | h
  case inr =>
    obtain rfl : i = sets.length := by omega
    simp -implicitDefEqProofs (disch := omega) [e1, e2, e8, e7, ht, ho, hlo, wn, cputV]
  have ix := wi i h
  obtain ⟨-, g1, g2, -⟩ := set_at (hw.old hold0) h
  have hsk := wk i h
  obtain ⟨z1, z2, z3⟩ := hfl i h
  have hsucc := hsc2 i
  have hb0 := hcl i (by omega)
  obtain ⟨c0, c1, -, hcx⟩ := hch i h
  obtain ⟨S, hS⟩ : ∃ S, S = nth sets i := ⟨_, rfl⟩
  rw [← hS] at g1 g2 hsk c0 c1 hcx hsucc z1 z2 z3
  obtain ⟨n0, x⟩ := S
  obtain ⟨xn, xi, xv⟩ := x
  simp only at c0 c1 hcx hsucc z1 z2 z3 g1 g2
  obtain ⟨n, rfl⟩ := Int.eq_ofNat_of_zero_le c0
  rw [Int.toNat_natCast] at hcx hsucc z1 z2 z3
  have hnl : n < cols.length := by omega
  obtain ⟨-, -, g3, g4⟩ := col_get (hv.old hold0) (i := n) hnl
  have hck := (seOk_inv hsk).2
  obtain ⟨k1, k2, k3, k4⟩ := ceOk_inv (ce_old hck hold0).1
  have hb := (ce_old hck hold0).2
  simp only at hb k1 k2 k3 k4
  rw [hb] at k2 k3 k4
  obtain ⟨a1, a2, a3, a4⟩ := one_ofR k2
  have hcx2 : chkC objs (nth cols n) ⟨xn, xi, xv⟩ = checkR (nth cols n).k (nth cols n).n xn xi (Ce.b ⟨xn, xi, xv⟩ objs) := rfl
  rw [hcx] at hcx2
  have hZ2 : cputC objs (nth cols n) ⟨xn, xi, xv⟩ = cputZ (nth cols n).k xn xi (Ce.b ⟨xn, xi, xv⟩ objs) := rfl
  obtain ⟨C, hC⟩ : ∃ C, C = nth cols n := ⟨_, rfl⟩
  obtain ⟨B, hB⟩ : ∃ B, B = (⟨xn, xi, xv⟩ : Ce).b objs := ⟨_, rfl⟩
  obtain ⟨Z, hZ⟩ : ∃ Z, Z = cputC objs (nth cols n) ⟨xn, xi, xv⟩ := ⟨_, rfl⟩
  rw [← hZ] at hsucc z1 z2 hZ2
  rw [← hB] at k2 k3 k4 hcx2 hZ2
  rw [← hC] at g3 g4 hcx2 hZ2
  obtain ⟨nm, k, nl⟩ := C
  simp only at g3 g4 hcx2 hZ2
  have hZ2 := hZ2.symm
  have hck2 := checkR_null hcx2.symm
  have jx := vi n hnl
  have hpv := putVR_nat (u := n) (by omega)
  have wn2 : IntKind.u64.wrap (n : Int) = n := wrap_u64 (by omega) (by omega)
  obtain ⟨W, hW⟩ : ∃ W, W = M.putL n := ⟨_, rfl⟩
  rw [← hW] at hsucc z3 hpv
  simp only [ceV] at g2
  obtain ⟨d, hd⟩ : ∃ d, d = c i := ⟨_, rfl⟩
  rw [← hd] at hsucc hb0 e7
  have f1 : ∀ (O : List AO) (x : List Int), ofIntsR .u8 O (.lst .frozen (ints .u8 x) x.length) = some x := fun O x => ofIntsR_of (ofInts_lst rfl)
  have f2 : ∀ O : List AO, ofIntsR .u8 O (.lst .frozen (ints .u8 (d ++ W)) (d.length + W.length)) = some (d ++ W) := fun O => by rw [← List.length_append]; exact f1 O _
  simp -implicitDefEqProofs (disch := omega) [e1, e2, e8, e7, ht, ho, hlo, wn, h, ix, g1, g2, set_f0, set_f1, a1, a2, a3, a4, b1, vd, wd, jx, g3, g4, col_f1, col_f2, c_rCPut, k_rCPut, k1, k2, k3, k4, hck2, cputV, hZ2, c_CatR, k_CatR, f1, f2, convV, wn2, c_RPut, k_RPut, hpv, wrap_small]
  rw [hI]
  exact ⟨by simp [e1], by simp [e2], by simp, rfl, rfl, rfl, by simp [hsucc, Nat.add_assoc]⟩)

end Go.Proofs.YtnbgmclbbkfhhaaDoor.B
