import Derived.Test.YtpfkebjjbhnehaaBlE
set_option linter.unusedSimpArgs false
set_option linter.unusedVariables false
set_option linter.unusedSectionVars false
set_option maxRecDepth 20000
set_option maxHeartbeats 1000000
namespace Go.Proofs.Ytpfkebjjbhnehaa.B
open Go Go.Ab
/-! BloomPlays -/
noncomputable def k_IntactH : Ab.Spec := heldF k_Intact
noncomputable def T_IntactH : CallF := withF T_alive 12 k_IntactH
theorem T_IntactH_ok : CallOk Try.prog T_IntactH := con_held T_alive_ok (fun _ _ => rfl)
theorem intactH {O : List AO} {w v : V} {x l : List Int} (hw : ofIntsR .u8 O w = some x) (hv : ofInts .u8 v = some l) (hl : x.length + l.length < 281474976710656) : k_IntactH [w, v] O = some (.bool (decide (x = wide l)), none) := by
  obtain ⟨h1, h2⟩ := told_R hw
  obtain ⟨h3, h4⟩ := told_R (ofIntsR_of (objs := O) hv)
  refine heldF_of (args' := [toldV O w, toldV O v]) rfl ?_ (by simp [norefs, h2, h4]) rfl
  simp (disch := omega) [k_Intact, h1, h3]
theorem k_spoil {O : List AO} {id n : Nat} {a : List Int} (hg : O[id]? = some (.cells (ints .u8 a) 0)) (hn : n = a.length) (h0 : 0 < n) (hl : a.length < 140737488355000) : k_Spoil [.ref id 0 0 n 1] O = some (.tup [], some (O.set id (.cells (ints .u8 (a.map spF)) 0), id)) := by
  have h1 := getObj_of hg
  subst hn
  simp only [k_Spoil, con1, Option.bind_some, h1, ofCellsI_ints]
  rw [bnd_pos hl, if_pos trivial, if_neg (by omega)]
theorem k_apartK {O : List AO} {id n : Nat} {a : List Int} {w u : V} (hg : O[id]? = some (.cells (ints .u8 a) 0)) (hn : n = a.length) (h0 : 0 < n) (hl : a.length < 140737488354000) (hw : ofInts .u8 w = some a) (hu : ofInts .u8 u = some a) : k_ApartK [.ref id 0 0 n 1, w, u] O = some (.bool true, some (O.set id (.cells (ints .u8 (a.map spF)) 0), id)) := by
  have h1 := getObj_of hg
  subst hn
  simp only [k_ApartK, con3, Option.bind_some, h1, ofCellsI_ints]
  rw [bnd_pos hl, if_pos ⟨trivial, ofIntsR_of hw, ofIntsR_of hu, ofIntsR_of hw, ofIntsR_of hu⟩, if_neg (by omega)]
noncomputable def k_BloomPlays : Ab.Spec := con3 (ofInt .i64) (ofList (ofInts .u8)) (ofInts .u8) fun n ls ask objs => match objs with | [] => bnd ls.length 140737488355328 (pre (keysOk ls ∧ ask.length < 140737488354000) (some (.bool true, none))) | _ => none
noncomputable def T_BloomPlays : CallF := withF T_IntactH 3 k_BloomPlays
theorem T_BloomPlays_ok : CallOk Try.prog T_BloomPlays := con_of (A := annOf [] [] [(27, [.ref]),(74, [.ref])] false [8, 11, 13, 22]) fit T_IntactH_ok (fn := Try.f3) (by kernel_rfl) (by kernel_rfl) (by
  intro args objs r h0
  have c_alive : ∀ a o, T_IntactH 7 a o = k_alive a o := fun _ _ => rfl
  have c_New : ∀ a o, T_IntactH 8 a o = k_New a o := fun _ _ => rfl
  have c_rNew : ∀ a o, T_IntactH 9 a o = k_rNew a o := fun _ _ => rfl
  have c_Wide : ∀ a o, T_IntactH 10 a o = k_Wide a o := fun _ _ => rfl
  have c_Add : ∀ a o, T_IntactH 11 a o = k_Add a o := fun _ _ => rfl
  have c_IntactH : ∀ a o, T_IntactH 12 a o = k_IntactH a o := fun _ _ => rfl
  have c_Spoil : ∀ a o, T_IntactH 13 a o = k_Spoil a o := fun _ _ => rfl
  have c_rAdd : ∀ a o, T_IntactH 14 a o = k_rAdd a o := fun _ _ => rfl
  have c_Bits : ∀ a o, T_IntactH 15 a o = k_Bits a o := fun _ _ => rfl
  have c_Count : ∀ a o, T_IntactH 16 a o = k_Count a o := fun _ _ => rfl
  have c_rCount : ∀ a o, T_IntactH 17 a o = k_rCount a o := fun _ _ => rfl
  have c_Has : ∀ a o, T_IntactH 18 a o = k_Has a o := fun _ _ => rfl
  have c_rHas : ∀ a o, T_IntactH 19 a o = k_rHas a o := fun _ _ => rfl
  have c_Hash : ∀ a o, T_IntactH 20 a o = k_Hash a o := fun _ _ => rfl
  have c_rHash : ∀ a o, T_IntactH 21 a o = k_rHash a o := fun _ _ => rfl
  have c_Enc : ∀ a o, T_IntactH 23 a o = k_Enc a o := fun _ _ => rfl
  have c_rEncB : ∀ a o, T_IntactH 24 a o = k_rEncB a o := fun _ _ => rfl
  have c_ApartK : ∀ a o, T_IntactH 22 a o = k_ApartK a o := fun _ _ => rfl
  have c_SameR : ∀ a o, T_IntactH 25 a o = k_SameR a o := fun _ _ => rfl
  obtain ⟨_, ks, av, n, ls, ask, rfl, hn, hks, hak, hR⟩ := con3_inv h0
  obtain rfl := ofInt_inv hn
  split at hR
  case h_2 => cases hR
  obtain ⟨hl, hR⟩ := bnd_inv hR
  obtain ⟨⟨hok, hal⟩, hR⟩ := pre_inv hR
  cases hR
  obtain ⟨cs, hv, hn', hcs⟩ := ofList_inv hks
  have vn := hv.size (P := Try.prog) u22
  have vi := hv.idx (P := Try.prog) u22 z23
  have vd := hv.dem
  obtain ⟨ad, -, -, -⟩ := bs hak
  obtain ⟨O0, hO0⟩ : ∃ O, O = ([] : List AO) ++ [.cells (ints .u8 (zeroR n)) 0, .cells [.ref 0 0 0 (mB n) 1] 0] := ⟨_, rfl⟩
  have kn : k_New [.int .i64 n] [] = some (.ptr 1 0 0, some (O0, 0)) := by rw [hO0]; rfl
  have F0 : FilAt O0 0 (zeroR n) := by rw [hO0]; exact zeros_new n []
  have hm := mB_le n
  obtain ⟨M, hM⟩ : ∃ M, M = mB n := ⟨_, rfl⟩
  have kr : ∀ O, k_rNew [.int .i64 n] O = some (.lst (.fresh 1 false) (bls (noB (8 * M))) (8 * M), none) := fun O => by rw [hM]; rfl
  rw [← hM] at hm
  have hzl : (zeroR n).length = M := by rw [zeroR_len, hM]
  refine .go _ rfl rfl ?_
  simp -implicitDefEqProofs (disch := omega) [c_alive, k_alive, c_New, kn, nilEq, nilFit, c_rNew, kr, vd, vn]
  obtain ⟨I, hI⟩ : ∃ I : Nat → St → Prop, I = (fun (i : Nat) (z : St) => z.env 2 = av ∧ z.env 7 = .ptr 1 0 0 ∧ z.env 8 = .lst .frozen (bls (modB n (ls.take i))) (8 * M) ∧ z.env 20 = ks ∧ z.env 21 = .int .i64 ls.length ∧ z.env 22 = .int .i64 i ∧ z.toks = [] ∧ FilAt z.objs 0 (rowAdds (zeroR n) (ls.take i))) := ⟨_, rfl⟩
  refine .up ls.length I (by rw [hI]; exact ⟨by simp, by simp, by simp [modB, hM], by simp, by simp, by simp, rfl, F0⟩) ?_
  intro i z hi hz
  rw [hI] at hz
  obtain ⟨e2, e7, e8, e20, e21, e22, ht, F⟩ := hz
  obtain ⟨O, hO⟩ : ∃ O, O = z.objs := ⟨_, rfl⟩
  rw [← hO] at F
  have ho := hO.symm
  rcases Nat.lt_or_ge i ls.length with h | h
  · obtain ⟨kv, hc1', hce, hkd⟩ := hcs i h
    obtain ⟨l, hll⟩ : ∃ l, l = nth ls i := ⟨_, rfl⟩
    have hlm := hok _ (nth_mem h)
    have hms := modB_take (n := n) h
    have hrs := rowAdds_take (row := zeroR n) h
    rw [← hll] at hlm hkd hrs hms
    obtain ⟨kd, kn2, -, -⟩ := bs hkd
    obtain ⟨r, hr⟩ : ∃ r, r = rowAdds (zeroR n) (ls.take i) := ⟨_, rfl⟩
    obtain ⟨B, hB⟩ : ∃ B, B = modB n (ls.take i) := ⟨_, rfl⟩
    have hBl : B.length = 8 * M := by rw [hB, modB_len, hM]
    have hrl : r.length = M := by rw [hr, rowAdds_len, hzl]
    rw [← hB] at e8 hms
    rw [← hr] at F hrs
    have hFl := F.lt
    have kw : k_Wide [kv] O = some (.lst (.fresh 1 true) (ints .u8 (wide l)) (l.length + 64), none) := by simp (disch := omega) [k_Wide, hkd]
    obtain ⟨W, hW⟩ : ∃ W, W = wide l := ⟨_, rfl⟩
    have hWl : W.length = l.length + 64 := by rw [hW, wide_len]
    have hWt : W.take l.length = l := by rw [hW, wide, List.take_left]
    rw [← hW] at kw
    obtain ⟨O1, hO1⟩ : ∃ O1, O1 = O ++ [.cells (ints .u8 W) 0] := ⟨_, rfl⟩
    have F1 : FilAt O1 0 r := by rw [hO1]; exact F.app
    have g1 : O1[O.length]? = some (.cells (ints .u8 W) 0) := by rw [hO1]; simp
    have hkd1 : keyD O1 0 (.ref O.length 0 0 l.length 1) = some l := by
      unfold keyD
      rw [if_neg (fun q => by simp only [idOf, Option.some.injEq] at q; omega), ofIntsR_cut (getObj_of g1) (by omega), List.drop_zero, hWt]
    have ka := k_add F1 (keyD1 hkd1) (by simp) (by intro x hx; rw [List.mem_singleton] at hx; subst hx; omega)
    rw [if_neg (by simp), show rowAdds r [l] = rowAdds (zeroR n) (ls.take (i + 1)) by rw [hrs]; rfl] at ka
    obtain ⟨r', hr'⟩ : ∃ r', r' = rowAdds (zeroR n) (ls.take (i + 1)) := ⟨_, rfl⟩
    have hz0 : 0 < (zeroR n).length := by omega
    have hrl' : r'.length = M := by rw [hr', rowAdds_len, hzl]
    have hr8' : b8 r' = true := by rw [hr']; exact rowAdds_b8 (zeroR_b8 n) hz0 _
    rw [← hr'] at ka
    obtain ⟨O2, hO2⟩ : ∃ O2, O2 = O1.set 0 (.cells (ints .u8 r') 0) := ⟨_, rfl⟩
    rw [← hO2] at ka
    have ka : k_Add [.ptr 1 0 0, .lst .frozen [.ref O.length 0 0 l.length 1] 1] O1 = some (.tup [], some (O2, 0)) := ka
    have F2 : FilAt O2 0 r' := by rw [hO2]; exact F1.put (by omega) hr8'
    have g2 : O2[O.length]? = some (.cells (ints .u8 W) 0) := by rw [hO2, List.getElem?_set_ne (by omega)]; exact g1
    have hWR : ofIntsR .u8 O2 (.ref O.length 0 0 (l.length + 64) 1) = some W := ofIntsR_ref (getObj_of g2) hWl.symm
    have ki := intactH hWR hkd (by omega)
    rw [show decide (W = wide l) = true by simpa using hW] at ki
    have kS := k_spoil g2 hWl.symm (by omega) (by omega)
    obtain ⟨O3, hO3⟩ : ∃ O3, O3 = O2.set O.length (.cells (ints .u8 (W.map spF)) 0) := ⟨_, rfl⟩
    rw [← hO3] at kS
    have F3 : FilAt O3 0 r' := by rw [hO3]; exact F2.other (by omega) (by omega)
    have kra : ∀ O, k_rAdd [.lst .frozen (bls B) (8 * M), kv] O = some (.lst (.fresh 1 true) (bls (addB B (hashZ l) 6)) (8 * M), none) := fun O => by
      have hb : bR O (.lst .frozen (bls B) (8 * M)) = some B := bR_lst hBl.symm
      have hk := ofIntsR_of (objs := O) hkd
      have c1 : 0 < 8 * M ∧ 8 * M < 1099511627776 := by omega
      simp (disch := omega) [k_rAdd, hb, hk, hBl, c1]
    have hO1' : O ++ [.cells (ints .u8 W) 0] = O1 := hO1.symm
    simp -implicitDefEqProofs (disch := omega) [e7, e8, e20, e21, e22, ht, ho, h, vi, hc1', hce, kd, kn2, c_Wide, kw, hO1', setCells, listV, fillV, zeros, c_Add, ka, c_IntactH, ki, c_Spoil, kS, c_rAdd, kra, wrap_small]
    rw [hI]
    exact ⟨by simp [e2], by simp [e7], by simp [hms], by simp [e20], by simp [e21], by simp, by simp, by rw [← hr']; exact F3⟩
  · obtain rfl : i = ls.length := by omega
    rw [List.take_length] at e8 F
    obtain ⟨r, hr⟩ : ∃ r, r = rowAdds (zeroR n) ls := ⟨_, rfl⟩
    have hBr : modB n ls = bitsZ r := by rw [modB_eq, hr]
    have hrl : r.length = M := by rw [hr, rowAdds_len, hzl]
    obtain ⟨B, hB⟩ : ∃ B, B = bitsZ r := ⟨_, rfl⟩
    have hBl : B.length = 8 * M := by rw [hB, bitsZ_len, hrl]
    rw [hBr, ← hB] at e8
    rw [← hr] at F
    have r8 := F.b
    have bt : ∀ O, bR O (.lst .frozen (bls B) (8 * M)) = some B := fun O => bR_lst hBl.symm
    have at1 : ∀ O, ofIntsR .u8 O av = some ask := fun O => ofIntsR_of hak
    have kb : k_Bits [.ptr 1 0 0] O = some (.int .i64 (8 * (r.length : Int)), none) := k_bits F
    have kc : k_Count [.ptr 1 0 0] O = some (.int .i64 (cntB (bitsZ r)), none) := k_count F
    have kh : k_Has [.ptr 1 0 0, av] O = some (.bool (hasR r (hashZ ask)), none) := k_has F (at1 _) (by omega)
    rw [hrl] at kb
    rw [← hB] at kc
    rw [hasR_bits F.pos, ← hB] at kh
    have krc : k_rCount [.lst .frozen (bls B) (8 * M)] O = some (.int .i64 (cntB B), none) := by simp (disch := omega) [k_rCount, bt, hBl]
    have krh : k_rHas [.lst .frozen (bls B) (8 * M), av] O = some (.bool (hasB B (hashZ ask)), none) := by
      have c1 : 0 < 8 * M ∧ 8 * M < 1099511627776 := by omega
      simp (disch := omega) [k_rHas, bt, at1, hBl, c1]
    have k1 : k_Hash [av] O = some (.int .u64 (hashZ ask), none) := by simp (disch := omega) [k_Hash, at1]
    have k2 : k_rHash [av] O = some (.int .u64 (hashZ ask), none) := by simp (disch := omega) [k_rHash, at1]
    obtain ⟨b, hb⟩ : ∃ b, b = bencZ r := ⟨_, rfl⟩
    have ke : ∀ O', FilAt O' 0 r → k_Enc [.ptr 1 0 0] O' = some (.lst (.fresh 1 true) (ints .u8 b) b.length, none) := fun O' h' => by rw [hb]; exact k_enc h'
    have hbl := bencZ_len (row := r) (by omega)
    have hb0 : 0 < (bencZ r).length := by rw [bencZ, sealZ_len]; omega
    have hre := renc_bits r8
    rw [← hB] at hre
    rw [← hb] at hre hbl hb0
    have kre : ∀ O, k_rEncB [.lst .frozen (bls B) (8 * M)] O = some (.lst .frozen (ints .u8 b) b.length, none) := fun O => by
      have c1 : 8 * M % 8 = 0 := by omega
      have c2 : 8 * M / 8 = M := by omega
      rw [hBl, c2] at hre
      simp (disch := omega) [k_rEncB, bt, hBl, c1, c2, hre]
    obtain ⟨O1, hO1⟩ : ∃ O1, O1 = O ++ [.cells (ints .u8 b) 0] := ⟨_, rfl⟩
    have hFl := F.lt
    have F1 : FilAt O1 0 r := by rw [hO1]; exact F.app
    have g1 : O1[O.length]? = some (.cells (ints .u8 b) 0) := by rw [hO1]; simp
    have hob : ofInts .u8 (.lst .frozen (ints .u8 b) b.length) = some b := ofInts_lst rfl
    have kap := k_apartK (w := .lst .frozen (ints .u8 b) b.length) (u := .lst .frozen (ints .u8 b) b.length) g1 rfl hb0 (by omega) hob hob
    obtain ⟨O2, hO2⟩ : ∃ O2, O2 = O1.set O.length (.cells (ints .u8 (b.map spF)) 0) := ⟨_, rfl⟩
    rw [← hO2] at kap
    have F2 : FilAt O2 0 r := by rw [hO2]; exact F1.other (by omega) (by omega)
    have kS : ∀ O, k_SameR [.lst .frozen (ints .u8 b) b.length, .lst .frozen (ints .u8 b) b.length] O = some (.bool true, none) := fun O => by
      have : ofIntsR .u8 O (.lst .frozen (ints .u8 b) b.length) = some b := ofIntsR_of hob
      simp (disch := omega) [k_SameR, this]
    have hO1' : O ++ [.cells (ints .u8 b) 0] = O1 := hO1.symm
    have ke0 := ke O F
    have ke1 := ke O1 F1
    have ke2 := ke O2 F2
    simp -implicitDefEqProofs (disch := omega) [e2, e7, e8, e20, e21, e22, ht, ho, ad, c_Bits, kb, c_Count, kc, c_rCount, krc, c_Has, kh, c_rHas, krh, c_Hash, k1, c_rHash, k2, c_Enc, ke0, ke1, ke2, hO1', c_rEncB, kre, c_ApartK, kap, c_SameR, kS])

end Go.Proofs.Ytpfkebjjbhnehaa.B
set_option maxRecDepth 20000
set_option maxHeartbeats 1000000
namespace Go.Proofs.Ytpfkebjjbhnehaa.B
open Go Go.Ab
/-! BloomDecodes -/
noncomputable def k_BloomDecodes : Ab.Spec := con2 (ofInts .u8) (ofInts .u8) fun l ask objs => match objs with | [] => bnd l.length 140737488352000 (pre (b8 l = true ∧ ask.length < 140737488354000) (some (.bool true, none))) | _ => none
noncomputable def T_BloomDecodes : CallF := withF T_BloomPlays 4 k_BloomDecodes
theorem T_BloomDecodes_ok : CallOk Try.prog T_BloomDecodes := con_of (A := annOf [] [] [(13, [.ref])] false [26, 13]) fit T_BloomPlays_ok (fn := Try.f4) (by kernel_rfl) (by kernel_rfl) (by
  intro args objs r h0
  have c_alive : ∀ a o, T_BloomPlays 7 a o = k_alive a o := fun _ _ => rfl
  have c_Wide : ∀ a o, T_BloomPlays 10 a o = k_Wide a o := fun _ _ => rfl
  have c_DecK : ∀ a o, T_BloomPlays 26 a o = k_DecK a o := fun _ _ => rfl
  have c_rDecB : ∀ a o, T_BloomPlays 27 a o = k_rDecB a o := fun _ _ => rfl
  have c_IntactH : ∀ a o, T_BloomPlays 12 a o = k_IntactH a o := fun _ _ => rfl
  have c_Spoil : ∀ a o, T_BloomPlays 13 a o = k_Spoil a o := fun _ _ => rfl
  have c_Bits : ∀ a o, T_BloomPlays 15 a o = k_Bits a o := fun _ _ => rfl
  have c_Count : ∀ a o, T_BloomPlays 16 a o = k_Count a o := fun _ _ => rfl
  have c_rCount : ∀ a o, T_BloomPlays 17 a o = k_rCount a o := fun _ _ => rfl
  have c_Has : ∀ a o, T_BloomPlays 18 a o = k_Has a o := fun _ _ => rfl
  have c_rHas : ∀ a o, T_BloomPlays 19 a o = k_rHas a o := fun _ _ => rfl
  have c_Enc : ∀ a o, T_BloomPlays 23 a o = k_Enc a o := fun _ _ => rfl
  have c_SameR : ∀ a o, T_BloomPlays 25 a o = k_SameR a o := fun _ _ => rfl
  obtain ⟨v, av, l, ask, rfl, ha, hak, hR⟩ := con2_inv h0
  split at hR
  case h_2 => cases hR
  obtain ⟨hl, hR⟩ := bnd_inv hR
  obtain ⟨⟨h8, hal⟩, hR⟩ := pre_inv hR
  cases hR
  obtain ⟨vd, vn, -, -⟩ := bs ha
  obtain ⟨ad, -, -, -⟩ := bs hak
  have kw : k_Wide [v] [] = some (.lst (.fresh 1 true) (ints .u8 (wide l)) (l.length + 64), none) := by simp (disch := omega) [k_Wide, ha]
  obtain ⟨W, hW⟩ : ∃ W, W = wide l := ⟨_, rfl⟩
  have hWl : W.length = l.length + 64 := by rw [hW, wide_len]
  have hWt : W.take l.length = l := by rw [hW, wide, List.take_left]
  rw [← hW] at kw
  obtain ⟨O0, hO0⟩ : ∃ O0 : List AO, O0 = [.cells (ints .u8 W) 0] := ⟨_, rfl⟩
  have hO0' : [AO.cells (ints .u8 W) 0] = O0 := hO0.symm
  have g0 : O0[0]? = some (.cells (ints .u8 W) 0) := by rw [hO0]; rfl
  have hl0 : O0.length = 1 := by rw [hO0]; rfl
  have hcut : ofIntsR .u8 O0 (.ref 0 0 0 l.length 1) = some l := by rw [ofIntsR_cut (getObj_of g0) (by omega), List.drop_zero, hWt]
  have kd : k_DecK [.ref 0 0 0 l.length 1] O0 = some ((decRes 1 l).1, some (O0 ++ (decRes 1 l).2, 1)) := by
    simp (disch := omega) [k_DecK, hcut, h8, hl0]
  have krd : ∀ O, k_rDecB [v] O = some (rdecRes l, none) := fun O => by simp (disch := omega) [k_rDecB, ha, h8]
  obtain ⟨O1, hO1⟩ : ∃ O1 : List AO, O1 = O0 ++ (decRes 1 l).2 := ⟨_, rfl⟩
  have g1 : O1[0]? = some (.cells (ints .u8 W) 0) := by rw [hO1, List.getElem?_append_left (by omega)]; exact g0
  have hWR : ofIntsR .u8 O1 (.ref 0 0 0 (l.length + 64) 1) = some W := ofIntsR_ref (getObj_of g1) hWl.symm
  have ki := intactH hWR ha (by omega)
  rw [show decide (W = wide l) = true by simpa using hW] at ki
  rw [← hO1] at kd
  refine .go _ rfl rfl ?_
  by_cases he : decE l = 0
  · obtain ⟨e1, r8, r1, r2⟩ := enc_dec h8 he
    obtain ⟨r, hr⟩ : ∃ r, r = decRow l := ⟨_, rfl⟩
    have hd : decRes 1 l = (.tup [.ptr 2 0 0, .int .i64 0], [.cells (ints .u8 r) 0, .cells [.ref 1 0 0 r.length 1] 0]) := by unfold decRes; rw [if_pos he, hr]
    have hrd : rdecRes l = .tup [.lst (.fresh 1 false) (bls (bitsZ r)) (8 * r.length), .int .i64 0] := by unfold rdecRes; rw [if_pos he, hr]
    rw [← hr] at e1 r8 r1 r2
    rw [hd] at kd hO1
    rw [hrd] at krd
    have kS := k_spoil g1 hWl.symm (by omega) (by omega)
    obtain ⟨O2, hO2⟩ : ∃ O2, O2 = O1.set 0 (.cells (ints .u8 (W.map spF)) 0) := ⟨_, rfl⟩
    rw [← hO2] at kS
    have F1 : FilAt O1 1 r := by
      have q := FilAt.new (O := O0) r8 (by omega) r2 rfl
      rw [hl0] at q
      rw [hO1]; exact q
    have F : FilAt O2 1 r := by rw [hO2]; exact F1.other (by omega) (by omega)
    obtain ⟨B, hB⟩ : ∃ B, B = bitsZ r := ⟨_, rfl⟩
    have hBl : B.length = 8 * r.length := by rw [hB, bitsZ_len]
    rw [← hB] at krd
    have bt : ∀ O, bR O (.lst .frozen (bls B) (8 * r.length)) = some B := fun O => bR_lst hBl.symm
    have at1 : ∀ O, ofIntsR .u8 O av = some ask := fun O => ofIntsR_of hak
    have kb : k_Bits [.ptr 2 0 0] O2 = some (.int .i64 (8 * (r.length : Int)), none) := k_bits F
    have kc : k_Count [.ptr 2 0 0] O2 = some (.int .i64 (cntB (bitsZ r)), none) := k_count F
    have kh : k_Has [.ptr 2 0 0, av] O2 = some (.bool (hasR r (hashZ ask)), none) := k_has F (at1 _) (by omega)
    rw [← hB] at kc
    rw [hasR_bits F.pos, ← hB] at kh
    have krc : k_rCount [.lst .frozen (bls B) (8 * r.length)] O2 = some (.int .i64 (cntB B), none) := by simp (disch := omega) [k_rCount, bt, hBl]
    have krh : k_rHas [.lst .frozen (bls B) (8 * r.length), av] O2 = some (.bool (hasB B (hashZ ask)), none) := by
      have c1 : 0 < 8 * r.length ∧ 8 * r.length < 1099511627776 := by omega
      have c2 : 0 < r.length := by omega
      simp (disch := omega) [k_rHas, bt, at1, hBl, c1, c2]
    have ke : k_Enc [.ptr 2 0 0] O2 = some (.lst (.fresh 1 true) (ints .u8 l) l.length, none) := by rw [← e1]; exact k_enc F
    have kSm : k_SameR [.lst .frozen (ints .u8 l) l.length, v] O2 = some (.bool true, none) := by
      have q1 : ofIntsR .u8 O2 (.lst .frozen (ints .u8 l) l.length) = some l := ofIntsR_of (ofInts_lst rfl)
      have q2 : ofIntsR .u8 O2 v = some l := ofIntsR_of ha
      simp (disch := omega) [k_SameR, q1, q2]
    simp -implicitDefEqProofs (disch := omega) [c_alive, k_alive, vd, vn, ad, c_Wide, kw, hO0', c_DecK, kd, c_rDecB, krd, nilEq, nilFit, c_IntactH, ki, c_Spoil, kS, c_Bits, kb, c_Count, kc, c_rCount, krc, c_Has, kh, c_rHas, krh, c_Enc, ke, c_SameR, kSm]
  · have hd : decRes 1 l = (.tup [.nilp, .int .i64 (decE l)], []) := by unfold decRes; rw [if_neg he]
    have hrd : rdecRes l = .tup [.nils, .int .i64 (decE l)] := by unfold rdecRes; rw [if_neg he]
    rw [hd] at kd
    rw [hrd] at krd
    obtain ⟨E, hE⟩ : ∃ E, E = decE l := ⟨_, rfl⟩
    rw [← hE] at he kd krd
    have he2 : (E != 0) = true := by simpa using he
    simp -implicitDefEqProofs (disch := omega) [c_alive, k_alive, vd, vn, ad, c_Wide, kw, hO0', c_DecK, kd, c_rDecB, krd, nilEq, nilFit, c_IntactH, ki, he, he2])

end Go.Proofs.Ytpfkebjjbhnehaa.B
set_option maxRecDepth 20000
set_option maxHeartbeats 1000000
namespace Go.Proofs.Ytpfkebjjbhnehaa.B
open Go Go.Ab
/-! BloomKeeps -/
theorem rowAdds_app (r : List Int) (a b : List (List Int)) : rowAdds r (a ++ b) = rowAdds (rowAdds r a) b := by unfold rowAdds; rw [List.foldl_append]
theorem has_mem {row : List Int} {n : Int} {ls : List (List Int)} (hl : row.length = mB n) (h : ∀ p, p < 8 * mB n → (ls.any fun l => hit (8 * mB n) (hashZ l) p) = true → nth (bitsZ row) p = true) {l : List Int} (hm : l ∈ ls) : hasR row (hashZ l) = true := by
  have := mB_le n
  refine has_all (by omega) fun p hp hh => ?_
  rw [hl] at hp hh
  exact h p hp (List.any_eq_true.2 ⟨l, hm, hh⟩)
theorem made_b8 (n : Int) (ls : List (List Int)) : b8 (rowAdds (zeroR n) ls) = true := rowAdds_b8 (zeroR_b8 n) (by rw [zeroR_len]; have := mB_le n; omega) _
theorem made_len (n : Int) (ls : List (List Int)) : (rowAdds (zeroR n) ls).length = mB n := by rw [rowAdds_len, zeroR_len]
/-- Sets of bits put together. -/
theorem or_made (n : Int) (a b : List (List Int)) : orR (rowAdds (zeroR n) a) (rowAdds (zeroR n) b) = rowAdds (zeroR n) (a ++ b) := by
  have hl : (rowAdds (zeroR n) a).length = (rowAdds (zeroR n) b).length := by rw [made_len, made_len]
  refine bits_ext (orR_b8 (made_b8 n a) (made_b8 n b) hl) (made_b8 n _) (by rw [orR_len, made_len, made_len]) fun p hp => ?_
  rw [orR_len] at hp
  rw [orR_bits (made_b8 n a) (made_b8 n b) hl hp]
  rw [made_len] at hp
  rw [made_bits n a hp, made_bits n b hp, made_bits n _ hp, List.any_append]
theorem made_has (n : Int) {ls : List (List Int)} {l : List Int} (h : l ∈ ls) : hasR (rowAdds (zeroR n) ls) (hashZ l) = true := has_mem (made_len n ls) (fun p hp q => by rw [made_bits n ls hp]; exact q) h
theorem madeK (n : Int) {ks : V} {ls : List (List Int)} (h : ofList (ofInts .u8) ks = some ls) (hl : ls.length < 140737488355328) (hk : keysOk ls) (O : List AO) : k_made [.int .i64 n, ks] O = some (.ptr (O.length + 1) 0 0, some (O ++ [.cells (ints .u8 (rowAdds (zeroR n) ls)) 0, .cells [.ref O.length 0 0 (mB n) 1] 0], O.length)) := by
  simp (disch := omega) [k_made, h, pre_pos hk]
theorem made_new (n : Int) (ls : List (List Int)) (O : List AO) : FilAt (O ++ [.cells (ints .u8 (rowAdds (zeroR n) ls)) 0, .cells [.ref O.length 0 0 (mB n) 1] 0]) O.length (rowAdds (zeroR n) ls) := by
  have := mB_le n
  exact FilAt.new (made_b8 n ls) (by rw [made_len]; omega) (by rw [made_len]; omega) (made_len n ls).symm
theorem k_add1 {O : List AO} {R : Nat} {n : Int} {a : List (List Int)} {kv : V} {l : List Int} (F : FilAt O R (rowAdds (zeroR n) a)) (hk : ofInts .u8 kv = some l) (hl : l.length < 140737488354000) : k_Add [.ptr (R + 1) 0 0, .lst .frozen [kv] 1] O = some (.tup [], some (O.set R (.cells (ints .u8 (rowAdds (zeroR n) (a ++ [l]))) 0), R)) := by
  have h := k_add F (keyD1 (keyD_told (O := O) (R := R) hk)) (by simp) (by intro x hx; rw [List.mem_singleton] at hx; subst hx; omega)
  rw [if_neg (by simp), ← rowAdds_app] at h
  exact h
theorem klit {kv : V} {l : List Int} (hk : ofInts .u8 kv = some l) : listV Try.prog 22 1 [(0, kv)] = some ([kv], 1) := by
  obtain ⟨-, -, -, -, v1, v2, -⟩ := bs hk
  simp [listV, fillV, zeros, setCells, v1, v2]
noncomputable def k_BloomKeeps : Ab.Spec := fun args objs => match args, objs with
  | [.int .i64 n, v1, v2, v3, kv], [] => match ofList (ofInts .u8) v1, ofList (ofInts .u8) v2, ofList (ofInts .u8) v3, ofInts .u8 kv with
    | some a, some b, some c, some key => pre ((a.length < 140737488355328 ∧ b.length < 140737488355328 ∧ c.length < 140737488355328) ∧ keysOk a ∧ keysOk b ∧ keysOk c ∧ key.length < 140737488354000) (some (.bool true, none))
    | _, _, _, _ => none
  | _, _ => none
noncomputable def T_BloomKeeps : CallF := withF T_BloomDecodes 5 k_BloomKeeps
theorem T_BloomKeeps_ok : CallOk Try.prog T_BloomKeeps := con_of (A := annOf [] [] [] false [28, 11, 29, 26]) fit T_BloomDecodes_ok (fn := Try.f5) (by kernel_rfl) (by kernel_rfl) (by
  intro args objs r h0
  have c_alive : ∀ a o, T_BloomDecodes 7 a o = k_alive a o := fun _ _ => rfl
  have c_made : ∀ a o, T_BloomDecodes 28 a o = k_made a o := fun _ _ => rfl
  have c_Add : ∀ a o, T_BloomDecodes 11 a o = k_Add a o := fun _ _ => rfl
  have c_Merge : ∀ a o, T_BloomDecodes 29 a o = k_Merge a o := fun _ _ => rfl
  have c_Has : ∀ a o, T_BloomDecodes 18 a o = k_Has a o := fun _ _ => rfl
  have c_Enc : ∀ a o, T_BloomDecodes 23 a o = k_Enc a o := fun _ _ => rfl
  have c_DecK : ∀ a o, T_BloomDecodes 26 a o = k_DecK a o := fun _ _ => rfl
  unfold k_BloomKeeps at h0
  split at h0
  case h_2 => cases h0
  rename_i n v1 v2 v3 kv
  split at h0
  case h_2 => cases h0
  rename_i a b c key ha hb hc hk
  obtain ⟨⟨⟨hl1, hl2, hl3⟩, ok1, ok2, ok3, hkl⟩, hR⟩ := pre_inv h0
  cases hR
  obtain ⟨cs1, hv1, -, -⟩ := ofList_inv ha
  obtain ⟨cs2, hv2, -, hcs2⟩ := ofList_inv hb
  obtain ⟨cs3, hv3, -, hcs3⟩ := ofList_inv hc
  have vd1 := hv1.dem
  have vn2 := hv2.size (P := Try.prog) u22
  have vi2 := hv2.idx (P := Try.prog) u22 z23
  have vd2 := hv2.dem
  have vn3 := hv3.size (P := Try.prog) u22
  have vi3 := hv3.idx (P := Try.prog) u22 z23
  have vd3 := hv3.dem
  obtain ⟨kd, -, -, -⟩ := bs hk
  have hkl1 := klit hk
  obtain ⟨O0, hO0⟩ : ∃ O, O = ([] : List AO) ++ [.cells (ints .u8 (rowAdds (zeroR n) a)) 0, .cells [.ref ([] : List AO).length 0 0 (mB n) 1] 0] := ⟨_, rfl⟩
  have m0 := madeK n ha hl1 ok1 []
  rw [← hO0] at m0
  have m0 : k_made [.int .i64 n, v1] [] = some (.ptr 1 0 0, some (O0, 0)) := m0
  have F0 : FilAt O0 0 (rowAdds (zeroR n) a) := by rw [hO0]; exact made_new n a []
  have l0 : O0.length = 2 := by rw [hO0]; rfl
  obtain ⟨O1, hO1⟩ : ∃ O, O = O0 ++ [.cells (ints .u8 (rowAdds (zeroR n) c)) 0, .cells [.ref O0.length 0 0 (mB n) 1] 0] := ⟨_, rfl⟩
  have m1 := madeK n hc hl3 ok3 O0
  have G1 := made_new n c O0
  rw [← hO1] at m1 G1
  rw [l0] at m1 G1
  have F1 : FilAt O1 0 (rowAdds (zeroR n) a) := by rw [hO1]; exact F0.app
  have l1 : O1.length = 4 := by rw [hO1, List.length_append, l0]; rfl
  have a1 := k_add1 F1 hk hkl
  obtain ⟨O2, hO2⟩ : ∃ O, O = O1.set 0 (.cells (ints .u8 (rowAdds (zeroR n) (a ++ [key]))) 0) := ⟨_, rfl⟩
  have F2 : FilAt O2 0 (rowAdds (zeroR n) (a ++ [key])) := by rw [hO2]; exact F1.put (by rw [made_len, made_len]) (made_b8 n _)
  have G2 : FilAt O2 2 (rowAdds (zeroR n) c) := by rw [hO2]; exact G1.other (by omega) (by omega)
  have l2 : O2.length = 4 := by rw [hO2, List.length_set, l1]
  rw [← hO2] at a1
  refine .go _ rfl rfl ?_
  simp -implicitDefEqProofs (disch := omega) [c_alive, k_alive, vd1, vd3, c_made, m0, m1, nilEq, nilFit, kd, hkl1, c_Add, a1, vn2]
  obtain ⟨I, hI⟩ : ∃ I : Nat → St → Prop, I = (fun (i : Nat) (z : St) => z.env 3 = v3 ∧ z.env 4 = kv ∧ z.env 11 = .ptr 1 0 0 ∧ z.env 12 = .ptr 3 0 0 ∧ z.env 37 = v2 ∧ z.env 38 = .int .i64 b.length ∧ z.env 39 = .int .i64 i ∧ z.toks = [] ∧ FilAt z.objs 0 (rowAdds (zeroR n) (a ++ [key] ++ b.take i)) ∧ FilAt z.objs 2 (rowAdds (zeroR n) c) ∧ z.objs.length = 4) := ⟨_, rfl⟩
  refine .up b.length I (by rw [hI]; exact ⟨by simp, by simp, by simp, by simp, by simp, by simp, by simp, rfl, by simpa using F2, G2, l2⟩) ?_
  intro i z hi hz
  rw [hI] at hz
  obtain ⟨e3, e4, e11, e12, e37, e38, e39, ht, F, G, hOl⟩ := hz
  obtain ⟨O, hO⟩ : ∃ O, O = z.objs := ⟨_, rfl⟩
  rw [← hO] at F G hOl
  have ho := hO.symm
  rcases Nat.lt_or_ge i b.length with h | h
  · obtain ⟨bv, hc1', hce, hkd⟩ := hcs2 i h
    have hlm := ok2 _ (nth_mem h)
    obtain ⟨bd, -, -, -⟩ := bs hkd
    have hbl1 := klit hkd
    have a2 := k_add1 F hkd hlm
    have hst : a ++ [key] ++ b.take i ++ [nth b i] = a ++ [key] ++ b.take (i + 1) := by rw [List.append_assoc _ (b.take i), List.take_succ_eq_append_getElem h, nth_lt h]
    rw [hst] at a2
    obtain ⟨r', hr'⟩ : ∃ r', r' = rowAdds (zeroR n) (a ++ [key] ++ b.take (i + 1)) := ⟨_, rfl⟩
    have F' : FilAt (O.set 0 (.cells (ints .u8 r') 0)) 0 r' := F.put (by rw [hr', made_len, made_len]) (by rw [hr']; exact made_b8 n _)
    have G' : FilAt (O.set 0 (.cells (ints .u8 r') 0)) 2 (rowAdds (zeroR n) c) := G.other (by omega) (by omega)
    have lO : (O.set 0 (.cells (ints .u8 r') 0)).length = 4 := by rw [List.length_set]; exact hOl
    rw [← hr'] at a2
    have a2 : k_Add [.ptr 1 0 0, .lst .frozen [bv] 1] O = some (.tup [], some (O.set 0 (.cells (ints .u8 r') 0), 0)) := a2
    simp -implicitDefEqProofs (disch := omega) [e3, e4, e11, e12, e37, e38, e39, ht, ho, h, vi2, hc1', hce, bd, hbl1, c_Add, a2, wrap_small]
    rw [hI]
    exact ⟨by simp [e3], by simp [e4], by simp [e11], by simp [e12], by simp [e37], by simp [e38], by simp, by simp, by rw [← hr']; exact F', G', lO⟩
  obtain rfl : i = b.length := by omega
  rw [List.take_length] at F
  obtain ⟨fs, hfs⟩ : ∃ fs, fs = a ++ [key] ++ b := ⟨_, rfl⟩
  rw [← hfs] at F
  have km := k_merge F G (by omega)
  rw [if_pos (by rw [made_len, made_len]), or_made] at km
  obtain ⟨O3, hO3⟩ : ∃ O', O' = O.set 0 (.cells (ints .u8 (rowAdds (zeroR n) (fs ++ c))) 0) := ⟨_, rfl⟩
  rw [← hO3] at km
  have km : k_Merge [.ptr 1 0 0, .ptr 3 0 0] O = some (.int .i64 0, some (O3, 0)) := km
  have F3 : FilAt O3 0 (rowAdds (zeroR n) (fs ++ c)) := by rw [hO3]; exact F.put (by rw [made_len, made_len]) (made_b8 n _)
  have G3 : FilAt O3 2 (rowAdds (zeroR n) c) := by rw [hO3]; exact G.other (by omega) (by omega)
  have l3 : O3.length = 4 := by rw [hO3, List.length_set, hOl]
  have hkf : key ∈ fs := by rw [hfs]; simp
  have kT : ∀ O, ofIntsR .u8 O kv = some key := fun O => ofIntsR_of hk
  have kh := k_has F3 (kT _) (by omega)
  rw [made_has n (List.mem_append_left _ hkf)] at kh
  have kh : k_Has [.ptr 1 0 0, kv] O3 = some (.bool true, none) := kh
  obtain ⟨r, hr⟩ : ∃ r, r = rowAdds (zeroR n) (fs ++ c) := ⟨_, rfl⟩
  have hm := mB_le n
  have r8 : b8 r = true := by rw [hr]; exact made_b8 n _
  have rl : r.length = mB n := by rw [hr, made_len]
  have ke := k_enc F3
  rw [← hr] at ke
  have ke : k_Enc [.ptr 1 0 0] O3 = some (.lst (.fresh 1 true) (ints .u8 (bencZ r)) (bencZ r).length, none) := ke
  obtain ⟨d1, d2⟩ := dec_enc r8 (by omega) (by omega)
  have hbl := bencZ_len (row := r) (by omega)
  have hb8 := bencZ_b8 r8
  obtain ⟨e, he⟩ : ∃ e, e = bencZ r := ⟨_, rfl⟩
  rw [← he] at ke d1 d2 hbl hb8
  obtain ⟨O4, hO4⟩ : ∃ O, O = O3 ++ [.cells (ints .u8 r) 0, .cells [.ref O3.length 0 0 r.length 1] 0] := ⟨_, rfl⟩
  have kdk : k_DecK [.lst .frozen (ints .u8 e) e.length] O3 = some (.tup [.ptr 5 0 0, .int .i64 0], some (O4, 4)) := by
    have h1 : ofIntsR .u8 O3 (.lst .frozen (ints .u8 e) e.length) = some e := ofIntsR_of (ofInts_lst rfl)
    simp (disch := omega) [k_DecK, h1, hb8, decRes, d1, d2, hO4, l3]
  have F4 : FilAt O4 0 r := by rw [hO4, hr]; exact F3.app
  have G4 : FilAt O4 2 (rowAdds (zeroR n) c) := by rw [hO4]; exact G3.app
  have H4 : FilAt O4 4 r := by
    have q := FilAt.new (O := O3) r8 (by omega) (by omega) rfl
    rw [← hO4, l3] at q; exact q
  have khg := k_has H4 (kT _) (by omega)
  rw [show hasR r (hashZ key) = true by rw [hr]; exact made_has n (List.mem_append_left _ hkf)] at khg
  have khg : k_Has [.ptr 5 0 0, kv] O4 = some (.bool true, none) := khg
  simp -implicitDefEqProofs (disch := omega) [e3, e4, e11, e12, e37, e38, e39, ht, ho, kd, c_Merge, km, c_Has, kh, c_Enc, ke, c_DecK, kdk, nilEq, nilFit, khg, vn3]
  obtain ⟨J, hJ⟩ : ∃ J : Nat → St → Prop, J = (fun (i : Nat) (z : St) => z.env 4 = kv ∧ z.env 11 = .ptr 1 0 0 ∧ z.env 12 = .ptr 3 0 0 ∧ z.env 15 = .ptr 5 0 0 ∧ z.env 76 = v3 ∧ z.env 77 = .int .i64 c.length ∧ z.env 78 = .int .i64 i ∧ z.toks = [] ∧ z.objs = O4) := ⟨_, rfl⟩
  refine .up c.length J (by rw [hJ]; exact ⟨by simp [e4], by simp [e11], by simp [e12], by simp, by simp [e3], by simp, by simp, by simp, rfl⟩) ?_
  clear e3 e4 e11 e12 e37 e38 e39 ht ho
  intro i z hi hz
  rw [hJ] at hz
  obtain ⟨e4, e11, e12, e15, e76, e77, e78, ht, ho⟩ := hz
  rcases Nat.lt_or_ge i c.length with h | h
  · obtain ⟨bv, hc1', hce, hkd⟩ := hcs3 i h
    have hlm := ok3 _ (nth_mem h)
    obtain ⟨bd, -, -, -⟩ := bs hkd
    have hcm : nth c i ∈ fs ++ c := List.mem_append_right _ (nth_mem h)
    have hhr : hasR r (hashZ (nth c i)) = true := by rw [hr]; exact made_has n hcm
    have q1 := k_has F4 (ofIntsR_of (objs := O4) hkd) (by omega)
    have q2 := k_has H4 (ofIntsR_of (objs := O4) hkd) (by omega)
    rw [hhr] at q1 q2
    have q1 : k_Has [.ptr 1 0 0, bv] O4 = some (.bool true, none) := q1
    have q2 : k_Has [.ptr 5 0 0, bv] O4 = some (.bool true, none) := q2
    simp -implicitDefEqProofs (disch := omega) [e4, e11, e12, e15, e76, e77, e78, ht, ho, h, vi3, hc1', hce, bd, c_Has, q1, q2, wrap_small]
    rw [hJ]
    exact ⟨by simp [e4], by simp [e11], by simp [e12], by simp [e15], by simp [e76], by simp [e77], by simp, by simp, by simp⟩
  · obtain rfl : i = c.length := by omega
    have kmo := k_merge G4 (hr ▸ F4) (by omega)
    rw [if_pos (by rw [made_len, made_len]), or_made] at kmo
    obtain ⟨O5, hO5⟩ : ∃ O', O' = O4.set 2 (.cells (ints .u8 (rowAdds (zeroR n) (c ++ (fs ++ c)))) 0) := ⟨_, rfl⟩
    rw [← hO5] at kmo
    have kmo : k_Merge [.ptr 3 0 0, .ptr 1 0 0] O4 = some (.int .i64 0, some (O5, 2)) := kmo
    have G5 : FilAt O5 2 (rowAdds (zeroR n) (c ++ (fs ++ c))) := by rw [hO5]; exact G4.put (by rw [made_len, made_len]) (made_b8 n _)
    have q3 := k_has G5 (kT _) (by omega)
    rw [made_has n (List.mem_append_right _ (List.mem_append_left _ hkf))] at q3
    have q3 : k_Has [.ptr 3 0 0, kv] O5 = some (.bool true, none) := q3
    simp -implicitDefEqProofs (disch := omega) [e4, e11, e12, e15, e76, e77, e78, ht, ho, kd, c_Merge, kmo, c_Has, q3])

end Go.Proofs.Ytpfkebjjbhnehaa.B
set_option maxRecDepth 20000
set_option maxHeartbeats 1000000
namespace Go.Proofs.Ytpfkebjjbhnehaa.B
open Go Go.Ab
/-! BloomOrder -/
theorem made_ext (n : Int) {a b : List (List Int)} (h : ∀ l, l ∈ a ↔ l ∈ b) : rowAdds (zeroR n) a = rowAdds (zeroR n) b := by
  refine bits_ext (made_b8 n a) (made_b8 n b) (by rw [made_len, made_len]) fun p hp => ?_
  rw [made_len] at hp
  rw [made_bits n a hp, made_bits n b hp]
  refine Bool.eq_iff_iff.2 ?_
  rw [List.any_eq_true, List.any_eq_true]
  exact ⟨fun ⟨l, h1, h2⟩ => ⟨l, (h l).1 h1, h2⟩, fun ⟨l, h1, h2⟩ => ⟨l, (h l).2 h1, h2⟩⟩
theorem ofCells_take {α : Type} {d : V → Option α} : ∀ {cs : List V} {ls : List α} (k : Nat), ofCells d cs = some ls → ofCells d (cs.take k) = some (ls.take k)
  | cs, ls, 0, _ => by simp [ofCells]
  | [], ls, k + 1, h => by simp [ofCells] at h; subst h; simp [ofCells]
  | c :: cs, ls, k + 1, h => by
    simp only [ofCells] at h
    cases h1 : d c with
    | none => rw [h1] at h; simp at h
    | some x =>
      rw [h1] at h
      cases h2 : ofCells d cs with
      | none => rw [h2] at h; simp at h
      | some xs =>
        rw [h2] at h; cases h
        simp only [List.take_succ_cons, ofCells, h1, ofCells_take k h2]
theorem ofCells_drop {α : Type} {d : V → Option α} : ∀ {cs : List V} {ls : List α} (k : Nat), ofCells d cs = some ls → ofCells d (cs.drop k) = some (ls.drop k)
  | cs, ls, 0, h => by simpa using h
  | [], ls, k + 1, h => by simp [ofCells] at h; subst h; simp [ofCells]
  | c :: cs, ls, k + 1, h => by
    simp only [ofCells] at h
    cases h1 : d c with
    | none => rw [h1] at h; simp at h
    | some x =>
      rw [h1] at h
      cases h2 : ofCells d cs with
      | none => rw [h2] at h; simp at h
      | some xs =>
        rw [h2] at h; cases h
        simp only [List.drop_succ_cons]
        exact ofCells_drop k h2
theorem keys_cut {v : V} {ls : List (List Int)} (h : ofList (ofInts .u8) v = some ls) (lo hi : Option V) (a b : Nat) (ha : boundV lo 0 = some a) (hb : boundV hi ls.length = some b) (hab : a ≤ b) (hl : b ≤ ls.length) :
    ∃ w, (∀ O, cutV Try.prog 22 O v lo hi none = some w) ∧ ofList (ofInts .u8) w = some ((ls.take b).drop a) ∧ demote w = w := by
  unfold ofList at h
  split at h
  · cases h
    obtain rfl : b = 0 := by simpa using hl
    obtain rfl : a = 0 := by omega
    have hb0 : boundV hi 0 = some 0 := hb
    exact ⟨.nils, fun O => by simp [-boundV, cutV, sliceV, ha, hb0], rfl, rfl⟩
  · rename_i cs len
    split at h
    case isFalse => cases h
    rename_i hlen
    have hll := (ofCells_len h).1
    subst hlen
    rw [hll] at hb
    refine ⟨.lst .frozen ((cs.take b).drop a) (b - a), fun O => ?_, ?_, rfl⟩
    · have hbl : b ≤ cs.length := by omega
      simp [-boundV, cutV, sliceV, ha, hb, hab, hbl]
    · have q := ofCells_drop a (ofCells_take b h)
      exact ofList_lst q (by rw [List.length_drop, List.length_take]; omega)
  · cases h
def dup (ls : List (List Int)) : List (List Int) := ls.flatMap fun l => [l, l]
theorem dup_mem (ls : List (List Int)) (l : List Int) : l ∈ dup ls ↔ l ∈ ls := by
  unfold dup
  rw [List.mem_flatMap]
  constructor
  · rintro ⟨x, h1, h2⟩
    rcases List.mem_cons.1 h2 with rfl | h2
    · exact h1
    · rw [List.mem_singleton] at h2; subst h2; exact h1
  · intro h; exact ⟨l, h, by simp⟩
theorem nth_rev {ls : List (List Int)} {j : Nat} (h : j < ls.length) : nth ls.reverse j = nth ls (ls.length - 1 - j) := by
  rw [nth_lt (by simpa using h), nth_lt (by omega), List.getElem_reverse]
theorem klit2 {kv : V} {l : List Int} (hk : ofInts .u8 kv = some l) : listV Try.prog 22 2 [(0, kv), (1, kv)] = some ([kv, kv], 1) := by
  obtain ⟨-, -, -, -, v1, v2, -⟩ := bs hk
  simp [listV, fillV, zeros, setCells, v1, v2, List.replicate]
theorem k_add2 {O : List AO} {R : Nat} {n : Int} {a : List (List Int)} {kv : V} {l : List Int} (F : FilAt O R (rowAdds (zeroR n) a)) (hk : ofInts .u8 kv = some l) (hl : l.length < 140737488354000) : k_Add [.ptr (R + 1) 0 0, .lst .frozen [kv, kv] 2] O = some (.tup [], some (O.set R (.cells (ints .u8 (rowAdds (zeroR n) (a ++ [l, l]))) 0), R)) := by
  have h := k_add (ls := [l, l]) (ks := .lst .frozen [kv, kv] 2) F (ofList_lst (ofCells_cons (keyD_told (O := O) (R := R) hk) (ofCells_cons (keyD_told (O := O) (R := R) hk) rfl)) rfl) (by simp) (by intro x hx; simp only [List.mem_cons, List.not_mem_nil, or_false, or_self] at hx; subst hx; omega)
  rw [if_neg (by simp), ← rowAdds_app] at h
  exact h
theorem cnt_zero (n : Int) : cntB (bitsZ (zeroR n)) = 0 := by
  rw [zeroR_bits]; simp [cntB, noB]
def cutN (n : Nat) (c : Int) : Nat := if c < 0 ∨ (n : Int) < c then n else c.toNat
noncomputable def k_BloomOrder : Ab.Spec := fun args objs => match args, objs with
  | [.int .i64 n, v1, .int .i64 cut, .int .i64 m], [] => match ofList (ofInts .u8) v1 with
    | some ls => pre (ls.length < 140737488355328 ∧ keysOk ls) (some (.bool true, none))
    | _ => none
  | _, _ => none
noncomputable def T_BloomOrder : CallF := withF T_BloomKeeps 6 k_BloomOrder
theorem T_BloomOrder_ok : CallOk Try.prog T_BloomOrder := con_ofW (A := annOf [] [] [(39, [.tok]),(44, [.tok])] false [28, 8, 11, 29]) fit T_BloomKeeps_ok (fn := Try.f6) (by kernel_rfl) (by kernel_rfl) (by
  intro args objs r h0
  have c_alive : ∀ a o, T_BloomKeeps 7 a o = k_alive a o := fun _ _ => rfl
  have c_made : ∀ a o, T_BloomKeeps 28 a o = k_made a o := fun _ _ => rfl
  have c_New : ∀ a o, T_BloomKeeps 8 a o = k_New a o := fun _ _ => rfl
  have c_Add : ∀ a o, T_BloomKeeps 11 a o = k_Add a o := fun _ _ => rfl
  have c_Merge : ∀ a o, T_BloomKeeps 29 a o = k_Merge a o := fun _ _ => rfl
  have c_Count : ∀ a o, T_BloomKeeps 16 a o = k_Count a o := fun _ _ => rfl
  have c_Enc : ∀ a o, T_BloomKeeps 23 a o = k_Enc a o := fun _ _ => rfl
  have c_rNew : ∀ a o, T_BloomKeeps 9 a o = k_rNew a o := fun _ _ => rfl
  have c_model : ∀ a o, T_BloomKeeps 30 a o = k_model a o := fun _ _ => rfl
  have c_rEncB : ∀ a o, T_BloomKeeps 24 a o = k_rEncB a o := fun _ _ => rfl
  have c_SameR : ∀ a o, T_BloomKeeps 25 a o = k_SameR a o := fun _ _ => rfl
  unfold k_BloomOrder at h0
  split at h0
  case h_2 => cases h0
  rename_i n v1 cut m
  split at h0
  case h_2 => cases h0
  rename_i ls ha
  obtain ⟨⟨hl, ok⟩, hR⟩ := pre_inv h0
  cases hR
  obtain ⟨cs, hv, -, hcs⟩ := ofList_inv ha
  have vd := hv.dem
  have vn := hv.size (P := Try.prog) u22
  have vi := hv.idx (P := Try.prog) u22 z23
  obtain ⟨O0, hO0⟩ : ∃ O, O = ([] : List AO) ++ [.cells (ints .u8 (rowAdds (zeroR n) ls)) 0, .cells [.ref ([] : List AO).length 0 0 (mB n) 1] 0] := ⟨_, rfl⟩
  have m0 := madeK n ha hl ok []
  rw [← hO0] at m0
  have m0 : k_made [.int .i64 n, v1] [] = some (.ptr 1 0 0, some (O0, 0)) := m0
  have F0 : FilAt O0 0 (rowAdds (zeroR n) ls) := by rw [hO0]; exact made_new n ls []
  have l0 : O0.length = 2 := by rw [hO0]; rfl
  obtain ⟨k, hk⟩ : ∃ k, k = cutN ls.length cut := ⟨_, rfl⟩
  have hkl : k ≤ ls.length := by rw [hk]; unfold cutN; split <;> omega
  refine .go _ rfl rfl ?_
  refine ToW.front (M := fun s => s.env 0 = .int .i64 n ∧ s.env 1 = v1 ∧ s.env 2 = .int .i64 cut ∧ s.env 3 = .int .i64 m ∧ s.toks = [] ∧ s.objs = []) ?_ ?_
  · simp
    exact ⟨rfl, by simp, by simp, by simp, by simp, rfl, rfl⟩
  rintro s ⟨e0, e1, e2, e3, ht, ho⟩
  refine ToW.front (M := fun s => s.env 0 = .int .i64 n ∧ s.env 1 = v1 ∧ s.env 2 = .int .i64 cut ∧ s.env 3 = .int .i64 m ∧ s.toks = [] ∧ s.objs = []) ?_ ?_
  · simp -implicitDefEqProofs (disch := omega) [e0, e1, e2, e3, ht, ho, c_alive, k_alive]
    exact ⟨rfl, by simp [e0], by simp [e1], by simp [e2], by simp [e3], by simp, by simp⟩
  clear e0 e1 e2 e3 ht ho
  clear s
  rintro s ⟨e0, e1, e2, e3, ht, ho⟩
  refine ToW.front (M := fun s => s.env 0 = .int .i64 n ∧ s.env 1 = v1 ∧ s.env 2 = .int .i64 cut ∧ s.env 3 = .int .i64 m ∧ s.env 9 = .ptr 1 0 0 ∧ s.toks = [] ∧ s.objs = O0) ?_ ?_
  · simp -implicitDefEqProofs (disch := omega) [e0, e1, e2, e3, ht, ho, vd, c_made, m0]
    exact ⟨rfl, by simp [e0], by simp [e1], by simp [e2], by simp [e3], by simp, by simp, by simp⟩
  clear e0 e1 e2 e3 ht ho
  clear s
  rintro s ⟨e0, e1, e2, e3, e9, ht, ho⟩
  refine ToW.front (M := fun s => s.env 0 = .int .i64 n ∧ s.env 1 = v1 ∧ s.env 2 = .int .i64 cut ∧ s.env 3 = .int .i64 m ∧ s.env 9 = .ptr 1 0 0 ∧ s.toks = [] ∧ s.objs = O0) ?_ ?_
  · simp -implicitDefEqProofs (disch := omega) [e0, e1, e2, e3, e9, ht, ho, nilEq, nilFit]
    exact ⟨rfl, by simp [e0], by simp [e1], by simp [e2], by simp [e3], by simp [e9], by simp, by simp⟩
  clear e0 e1 e2 e3 e9 ht ho
  clear s
  rintro s ⟨e0, e1, e2, e3, e9, ht, ho⟩
  refine ToW.front (M := fun s => s.env 0 = .int .i64 n ∧ s.env 1 = v1 ∧ s.env 2 = .int .i64 k ∧ s.env 3 = .int .i64 m ∧ s.env 9 = .ptr 1 0 0 ∧ s.toks = [] ∧ s.objs = O0) ?_ ?_
  · by_cases c1 : cut < 0
    · have hk2 : (k : Int) = ls.length := by rw [hk]; unfold cutN; rw [if_pos (.inl c1)]
      simp -implicitDefEqProofs (disch := omega) [e0, e1, e2, e3, e9, ht, ho, c1, vn, hk2]
      exact ⟨rfl, by simp [e0], by simp [e1], by simp [hk2, e2], by simp [e3], by simp [e9], by simp, by simp⟩
    · by_cases c2 : (ls.length : Int) < cut
      · have hk2 : (k : Int) = ls.length := by rw [hk]; unfold cutN; rw [if_pos (.inr c2)]
        simp -implicitDefEqProofs (disch := omega) [e0, e1, e2, e3, e9, ht, ho, c1, c2, vn, hk2]
        exact ⟨rfl, by simp [e0], by simp [e1], by simp [hk2, e2], by simp [e3], by simp [e9], by simp, by simp⟩
      · have hk2 : (k : Int) = cut := by rw [hk]; unfold cutN; rw [if_neg (by omega)]; omega
        simp -implicitDefEqProofs (disch := omega) [e0, e1, e2, e3, e9, ht, ho, c1, c2, vn, hk2]
        exact ⟨rfl, by simp [e0], by simp [e1], by simp [hk2, e2], by simp [e3], by simp [e9], by simp, by simp⟩
  clear e0 e1 e2 e3 e9 ht ho
  clear s
  rintro s ⟨e0, e1, e2, e3, e9, ht, ho⟩
  obtain ⟨w1, cw1, hw1, wd1⟩ := keys_cut ha none (some (.int .i64 (k : Int))) 0 k rfl (by simp [boundV]) (by omega) hkl
  obtain ⟨w2, cw2, hw2, wd2⟩ := keys_cut ha (some (.int .i64 (k : Int))) none k ls.length (by simp [boundV]) (by simp [boundV]) hkl (Nat.le_refl _)
  rw [List.drop_zero] at hw1
  rw [List.take_length] at hw2
  have ok1 : keysOk (ls.take k) := fun l h => ok l (List.mem_of_mem_take h)
  have ok2 : keysOk (ls.drop k) := fun l h => ok l (List.mem_of_mem_drop h)
  obtain ⟨O1, hO1⟩ : ∃ O, O = O0 ++ [.cells (ints .u8 (rowAdds (zeroR n) (ls.take k))) 0, .cells [.ref O0.length 0 0 (mB n) 1] 0] := ⟨_, rfl⟩
  have m1 := madeK n hw1 (by rw [List.length_take]; omega) ok1 O0
  have A1 := made_new n (ls.take k) O0
  rw [← hO1] at m1 A1
  rw [l0] at m1 A1
  have F1 : FilAt O1 0 (rowAdds (zeroR n) ls) := by rw [hO1]; exact F0.app
  have l1 : O1.length = 4 := by rw [hO1, List.length_append, l0]; rfl
  obtain ⟨O2, hO2⟩ : ∃ O, O = O1 ++ [.cells (ints .u8 (rowAdds (zeroR n) (ls.drop k))) 0, .cells [.ref O1.length 0 0 (mB n) 1] 0] := ⟨_, rfl⟩
  have m2 := madeK n hw2 (by rw [List.length_drop]; omega) ok2 O1
  have B2 := made_new n (ls.drop k) O1
  rw [← hO2] at m2 B2
  rw [l1] at m2 B2
  have F2 : FilAt O2 0 (rowAdds (zeroR n) ls) := by rw [hO2]; exact F1.app
  have A2 : FilAt O2 2 (rowAdds (zeroR n) (ls.take k)) := by rw [hO2]; exact A1.app
  have l2 : O2.length = 6 := by rw [hO2, List.length_append, l1]; rfl
  obtain ⟨O3, hO3⟩ : ∃ O, O = O2 ++ [.cells (ints .u8 (zeroR n)) 0, .cells [.ref O2.length 0 0 (mB n) 1] 0] := ⟨_, rfl⟩
  have m3 := k_new n O2
  have C3 := zeros_new n O2
  rw [← hO3] at m3 C3
  rw [l2] at m3 C3
  have F3 : FilAt O3 0 (rowAdds (zeroR n) ls) := by rw [hO3]; exact F2.app
  have A3 : FilAt O3 2 (rowAdds (zeroR n) (ls.take k)) := by rw [hO3]; exact A2.app
  have B3 : FilAt O3 4 (rowAdds (zeroR n) (ls.drop k)) := by rw [hO3]; exact B2.app
  have l3 : O3.length = 8 := by rw [hO3, List.length_append, l2]; rfl
  obtain ⟨O4, hO4⟩ : ∃ O, O = O3 ++ [.cells (ints .u8 (zeroR n)) 0, .cells [.ref O3.length 0 0 (mB n) 1] 0] := ⟨_, rfl⟩
  have m4 := k_new n O3
  have D4 := zeros_new n O3
  rw [← hO4] at m4 D4
  rw [l3] at m4 D4
  have F4 : FilAt O4 0 (rowAdds (zeroR n) ls) := by rw [hO4]; exact F3.app
  have A4 : FilAt O4 2 (rowAdds (zeroR n) (ls.take k)) := by rw [hO4]; exact A3.app
  have B4 : FilAt O4 4 (rowAdds (zeroR n) (ls.drop k)) := by rw [hO4]; exact B3.app
  have C4 : FilAt O4 6 (zeroR n) := by rw [hO4]; exact C3.app
  have l4 : O4.length = 10 := by rw [hO4, List.length_append, l3]; rfl
  refine .of ?_
  have wl : IntKind.i64.wrap ((ls.length : Int) - 1) = (ls.length : Int) - 1 := wrap_small (by omega) (by omega)
  simp -implicitDefEqProofs (disch := omega) [e0, e1, e2, e3, e9, ht, ho, cw1, cw2, vd, wd1, wd2, c_made, m1, m2, c_New, m3, m4, nilEq, nilFit, vn, wl]
  obtain ⟨I, hI⟩ : ∃ I : Nat → St → Prop, I = (fun (j : Nat) (z : St) => z.env 0 = .int .i64 n ∧ z.env 1 = v1 ∧ z.env 3 = .int .i64 m ∧ z.env 9 = .ptr 1 0 0 ∧ z.env 10 = .ptr 3 0 0 ∧ z.env 11 = .ptr 5 0 0 ∧ z.env 12 = .ptr 7 0 0 ∧ z.env 13 = .ptr 9 0 0 ∧ z.env 14 = .int .i64 ((ls.length : Int) - 1 - j) ∧ z.toks = [] ∧ FilAt z.objs 0 (rowAdds (zeroR n) ls) ∧ FilAt z.objs 2 (rowAdds (zeroR n) (ls.take k)) ∧ FilAt z.objs 4 (rowAdds (zeroR n) (ls.drop k)) ∧ FilAt z.objs 6 (rowAdds (zeroR n) (dup (ls.reverse.take j))) ∧ FilAt z.objs 8 (zeroR n) ∧ z.objs.length = 10) := ⟨_, rfl⟩
  refine .up ls.length I (by rw [hI]; exact ⟨by simp [e0], by simp [e1], by simp [e3], by simp [e9], by simp, by simp, by simp, by simp, by simp, by simp [ht], F4, A4, B4, C4, D4, l4⟩) ?_
  clear e0 e1 e2 e3 e9 ht ho
  intro j z hj hz
  rw [hI] at hz
  obtain ⟨e0, e1, e3, e9, e10, e11, e12, e13, e14, ht, F, A, B, C, D, hOl⟩ := hz
  obtain ⟨O, hO⟩ : ∃ O, O = z.objs := ⟨_, rfl⟩
  rw [← hO] at F A B C D hOl
  have ho := hO.symm
  rcases Nat.lt_or_ge j ls.length with h | h
  · obtain ⟨q, hq⟩ : ∃ q, q = ls.length - 1 - j := ⟨_, rfl⟩
    have hq2 : (ls.length : Int) - 1 - j = q := by omega
    rw [hq2] at e14
    obtain ⟨bv, hc1', hce, hkd⟩ := hcs q (by omega)
    have hlm := ok _ (nth_mem (show q < ls.length by omega))
    obtain ⟨bd, -, -, -⟩ := bs hkd
    have hlit := klit2 hkd
    have a2 := k_add2 C hkd hlm
    have hst : dup (ls.reverse.take j) ++ [nth ls q, nth ls q] = dup (ls.reverse.take (j + 1)) := by
      rw [List.take_succ_eq_append_getElem (by simpa using h), ← nth_lt (by simpa using h), nth_rev h, ← hq]
      simp [dup]
    rw [hst] at a2
    obtain ⟨r', hr'⟩ : ∃ r', r' = rowAdds (zeroR n) (dup (ls.reverse.take (j + 1))) := ⟨_, rfl⟩
    rw [← hr'] at a2
    obtain ⟨O', hO'⟩ : ∃ O', O' = O.set 6 (.cells (ints .u8 r') 0) := ⟨_, rfl⟩
    rw [← hO'] at a2
    have a2 : k_Add [.ptr 7 0 0, .lst .frozen [bv, bv] 2] O = some (.tup [], some (O', 6)) := a2
    have hql : q < ls.length := by omega
    have wq : IntKind.i64.wrap ((q : Int) - 1) = (q : Int) - 1 := wrap_small (by omega) (by omega)
    have hq3 : (q : Int) - 1 = (ls.length : Int) - 1 - (j + 1 : Nat) := by omega
    simp -implicitDefEqProofs (disch := omega) [e0, e1, e3, e9, e10, e11, e12, e13, e14, ht, ho, hql, vi, hc1', hce, bd, hlit, c_Add, a2, wq]
    rw [hI]
    refine ⟨h, by simp [e0], by simp [e1], by simp [e3], by simp [e9], by simp [e10], by simp [e11], by simp [e12], by simp [e13], ?_, by simp, ?_, ?_, ?_, ?_, ?_, ?_⟩
    · show V.int _ _ = _
      rw [hq3]
    · rw [hO']; exact F.other (by omega) (by omega)
    · rw [hO']; exact A.other (by omega) (by omega)
    · rw [hO']; exact B.other (by omega) (by omega)
    · rw [hO', ← hr']; exact C.put (by rw [hr', made_len, made_len]) (by rw [hr']; exact made_b8 n _)
    · rw [hO']; exact D.other (by omega) (by omega)
    · rw [hO', List.length_set]; exact hOl
  obtain rfl : j = ls.length := by omega
  have hneg : ¬ 0 ≤ (ls.length : Int) - 1 - ls.length := by omega
  rw [List.take_of_length_le (by simp)] at C
  obtain ⟨X, hX⟩ : ∃ X, X = rowAdds (zeroR n) ls := ⟨_, rfl⟩
  have hXc : rowAdds (zeroR n) (dup ls.reverse) = X := by rw [hX]; exact made_ext n fun l => by rw [dup_mem, List.mem_reverse]
  rw [hXc] at C
  rw [← hX] at F
  have kad := k_add D (keysD_told (O := O) (R := 8) ha) hl (fun l h => by have := ok l h; omega)
  rw [← hX] at kad
  obtain ⟨O5, hO5⟩ : ∃ O5, O5 = O.set 8 (.cells (ints .u8 X) 0) := ⟨_, rfl⟩
  have D5' : FilAt O5 8 X := by rw [hO5]; exact D.put (by rw [hX, made_len, zeroR_len]) (by rw [hX]; exact made_b8 n _)
  have hsame : ls = [] → O5 = O := fun e => by
    have hXz : X = zeroR n := by rw [hX, e]; rfl
    rw [hO5, hXz]
    refine List.ext_getElem? fun i => ?_
    by_cases q : 8 = i
    · subst q; rw [List.getElem?_set_self (by omega)]; exact D.cells.symm
    · rw [List.getElem?_set_ne q]
  have F5 : FilAt O5 0 X := by rw [hO5]; exact F.other (by omega) (by omega)
  have A5 : FilAt O5 2 (rowAdds (zeroR n) (ls.take k)) := by rw [hO5]; exact A.other (by omega) (by omega)
  have B5 : FilAt O5 4 (rowAdds (zeroR n) (ls.drop k)) := by rw [hO5]; exact B.other (by omega) (by omega)
  have C5 : FilAt O5 6 X := by rw [hO5]; exact C.other (by omega) (by omega)
  have l5 : O5.length = 10 := by rw [hO5, List.length_set]; exact hOl
  obtain ⟨a, haa⟩ : ∃ a, a = rowAdds (zeroR n) (ls.take k) := ⟨_, rfl⟩
  obtain ⟨b, hbb⟩ : ∃ b, b = rowAdds (zeroR n) (ls.drop k) := ⟨_, rfl⟩
  have hmm : ∀ l, l ∈ ls.drop k ++ ls.take k ↔ l ∈ ls := fun l => by
    rw [List.mem_append]
    refine ⟨fun h => h.elim List.mem_of_mem_drop List.mem_of_mem_take, fun h => ?_⟩
    rw [← List.take_append_drop k ls, List.mem_append] at h
    exact h.symm
  have hab : orR b a = X := by rw [haa, hbb, or_made, hX]; exact made_ext n hmm
  have al : a.length = mB n := by rw [haa, made_len]
  have bl : b.length = mB n := by rw [hbb, made_len]
  have Xl : X.length = mB n := by rw [hX, made_len]
  rw [← haa] at A5
  rw [← hbb] at B5
  have kea : ∀ O', FilAt O' 2 a → k_Enc [.ptr 3 0 0] O' = some (.lst (.fresh 1 true) (ints .u8 (bencZ a)) (bencZ a).length, none) := fun O' h => k_enc h
  obtain ⟨O6, hO6⟩ : ∃ O, O = O5 ++ [.cells (ints .u8 (zeroR m)) 0, .cells [.ref O5.length 0 0 (mB m) 1] 0] := ⟨_, rfl⟩
  have m6 := k_new m O5
  have M6 := zeros_new m O5
  rw [← hO6] at m6 M6
  rw [l5] at m6 M6
  have F6 : FilAt O6 0 X := by rw [hO6]; exact F5.app
  have A6 : FilAt O6 2 a := by rw [hO6]; exact A5.app
  have B6 : FilAt O6 4 b := by rw [hO6]; exact B5.app
  have C6 : FilAt O6 6 X := by rw [hO6]; exact C5.app
  have D6 : FilAt O6 8 X := by rw [hO6]; exact D5'.app
  have km := k_merge M6 B6 (by omega)
  rw [zeroR_len, bl] at km
  have krm : ∀ O, k_rNew [.int .i64 m] O = some (.lst (.fresh 1 false) (bls (noB (8 * mB m))) (8 * mB m), none) := fun O => rfl
  have krn : ∀ O, k_rNew [.int .i64 n] O = some (.lst (.fresh 1 false) (bls (noB (8 * mB n))) (8 * mB n), none) := fun O => rfl
  obtain ⟨N, hN⟩ : ∃ N, N = mB n := ⟨_, rfl⟩
  obtain ⟨Mm, hMm⟩ : ∃ Mm, Mm = mB m := ⟨_, rfl⟩
  have hNb := mB_le n
  have hMb := mB_le m
  rw [← hN] at krn km al bl Xl hNb
  rw [← hMm] at krm km hMb
  have kbits : modB n ls = bitsZ X := by rw [modB_eq, hX]
  have kmod : ∀ O, k_model [.int .i64 n, v1] O = some (.lst .frozen (bls (bitsZ X)) (8 * N), none) := fun O => by
    have h1 := pre_pos (x := (some (.lst .frozen (bls (modB n ls)) (8 * mB n), none) : Option Res)) ok
    simp (disch := omega) [k_model, ha, pre_pos ok, kbits, hN]
  obtain ⟨E, hE⟩ : ∃ E, E = bencZ X := ⟨_, rfl⟩
  have hEl := bencZ_len (row := X) (by omega)
  have hal := bencZ_len (row := a) (by omega)
  rw [← hE] at hEl
  have kenc : ∀ O' R, FilAt O' R X → k_Enc [.ptr (R + 1) 0 0] O' = some (.lst (.fresh 1 true) (ints .u8 E) E.length, none) := fun O' R h => by rw [hE]; exact k_enc h
  have kre : ∀ O, k_rEncB [.lst .frozen (bls (bitsZ X)) (8 * N)] O = some (.lst .frozen (ints .u8 E) E.length, none) := fun O => by
    have c1 : 8 * N % 8 = 0 := by omega
    have c2 : 8 * N / 8 = N := by omega
    have hBl : (bitsZ X).length = 8 * N := by rw [bitsZ_len, Xl]
    have bt : bR O (.lst .frozen (bls (bitsZ X)) (8 * N)) = some (bitsZ X) := bR_lst hBl.symm
    have hre := renc_bits (F5.b)
    rw [hBl, c2, ← hE] at hre
    simp (disch := omega) [k_rEncB, bt, hBl, c1, c2, hre]
  have kS : ∀ O (x : List Int), x.length < 140737488355000 → k_SameR [.lst .frozen (ints .u8 x) x.length, .lst .frozen (ints .u8 x) x.length] O = some (.bool true, none) := fun O x hx => by
    have : ofIntsR .u8 O (.lst .frozen (ints .u8 x) x.length) = some x := ofIntsR_of (ofInts_lst rfl)
    simp (disch := omega) [k_SameR, this]
  have kSa := fun O => kS O (bencZ a) (by omega)
  have kSE := fun O => kS O E (by omega)
  have kad : k_Add [.ptr 9 0 0, v1] O = some (.tup [], if ls = [] then none else some (O5, 8)) := by rw [hO5]; exact kad
  have tail : ∀ O7, FilAt O7 0 X → FilAt O7 2 a → FilAt O7 4 b → FilAt O7 6 X → FilAt O7 8 X → k_Merge [.ptr 5 0 0, .ptr 3 0 0] O7 = some (.int .i64 0, some (O7.set 4 (.cells (ints .u8 X) 0), 4)) ∧ FilAt (O7.set 4 (.cells (ints .u8 X) 0)) 0 X ∧ FilAt (O7.set 4 (.cells (ints .u8 X) 0)) 2 a ∧ FilAt (O7.set 4 (.cells (ints .u8 X) 0)) 4 X ∧ FilAt (O7.set 4 (.cells (ints .u8 X) 0)) 6 X ∧ FilAt (O7.set 4 (.cells (ints .u8 X) 0)) 8 X := fun O7 F A B C D => by
    refine ⟨?_, F.other (by omega) (by omega), A.other (by omega) (by omega), B.put (by omega) F.b, C.other (by omega) (by omega), D.other (by omega) (by omega)⟩
    have q := k_merge B A (by omega)
    rw [if_pos (by omega), hab] at q
    exact q
  have hEz : ¬ (1 : Int) = 0 := by omega
  by_cases hmn : Mm = N
  · rw [if_pos hmn] at km
    obtain ⟨O7, hO7⟩ : ∃ O7, O7 = O6.set 10 (.cells (ints .u8 (orR (zeroR m) b)) 0) := ⟨_, rfl⟩
    rw [← hO7] at km
    have km : k_Merge [.ptr 11 0 0, .ptr 5 0 0] O6 = some (.int .i64 0, some (O7, 10)) := km
    obtain ⟨t1, t2, t3, t4, t5, t6⟩ := tail O7 (by rw [hO7]; exact F6.other (by omega) (by omega)) (by rw [hO7]; exact A6.other (by omega) (by omega)) (by rw [hO7]; exact B6.other (by omega) (by omega)) (by rw [hO7]; exact C6.other (by omega) (by omega)) (by rw [hO7]; exact D6.other (by omega) (by omega))
    obtain ⟨O8, hO8⟩ : ∃ O8, O8 = O7.set 4 (.cells (ints .u8 X) 0) := ⟨_, rfl⟩
    rw [← hO8] at t1 t2 t3 t4 t5 t6
    have q0 : k_Enc [.ptr 1 0 0] O8 = _ := kenc O8 0 t2
    have q4 : k_Enc [.ptr 5 0 0] O8 = _ := kenc O8 4 t4
    have q6 : k_Enc [.ptr 7 0 0] O8 = _ := kenc O8 6 t5
    have q8 : k_Enc [.ptr 9 0 0] O8 = _ := kenc O8 8 t6
    have q5 := kea O5 A5
    have q7 := kea O8 t3
    by_cases hnil : ls = []
    · rw [if_pos hnil] at kad
      rw [hsame hnil] at m6 q5
      simp -implicitDefEqProofs (maxSteps := 1000000) (disch := omega) [e0, e1, e3, e9, e10, e11, e12, e13, e14, ht, ho, hneg, vd, c_Add, kad, c_Enc, q5, c_New, m6, nilEq, nilFit, c_Merge, km, c_rNew, krm, krn, hmn, t1, q7, c_SameR, kSa, q0, q4, q6, q8, kSE, c_model, kmod, c_rEncB, kre]
    · rw [if_neg hnil] at kad
      simp -implicitDefEqProofs (maxSteps := 1000000) (disch := omega) [e0, e1, e3, e9, e10, e11, e12, e13, e14, ht, ho, hneg, vd, c_Add, kad, c_Enc, q5, c_New, m6, nilEq, nilFit, c_Merge, km, c_rNew, krm, krn, hmn, t1, q7, c_SameR, kSa, q0, q4, q6, q8, kSE, c_model, kmod, c_rEncB, kre]
  · rw [if_neg hmn] at km
    have km : k_Merge [.ptr 11 0 0, .ptr 5 0 0] O6 = some (.int .i64 1, none) := km
    obtain ⟨t1, t2, t3, t4, t5, t6⟩ := tail O6 F6 A6 B6 C6 D6
    obtain ⟨O8, hO8⟩ : ∃ O8, O8 = O6.set 4 (.cells (ints .u8 X) 0) := ⟨_, rfl⟩
    rw [← hO8] at t1 t2 t3 t4 t5 t6
    have q0 : k_Enc [.ptr 1 0 0] O8 = _ := kenc O8 0 t2
    have q4 : k_Enc [.ptr 5 0 0] O8 = _ := kenc O8 4 t4
    have q6 : k_Enc [.ptr 7 0 0] O8 = _ := kenc O8 6 t5
    have q8 : k_Enc [.ptr 9 0 0] O8 = _ := kenc O8 8 t6
    have q5 := kea O5 A5
    have q7 := kea O8 t3
    have kc := k_count M6
    rw [cnt_zero] at kc
    have kc : k_Count [.ptr 11 0 0] O6 = some (.int .i64 0, none) := kc
    have hmz : ¬ 8 * (Mm : Int) = 8 * N := by omega
    by_cases hnil : ls = []
    · rw [if_pos hnil] at kad
      rw [hsame hnil] at m6 q5
      simp -implicitDefEqProofs (maxSteps := 1000000) (disch := omega) [e0, e1, e3, e9, e10, e11, e12, e13, e14, ht, ho, hneg, vd, c_Add, kad, c_Enc, q5, c_New, m6, nilEq, nilFit, c_Merge, km, c_rNew, krm, krn, hmn, hmz, c_Count, kc, t1, q7, c_SameR, kSa, q0, q4, q6, q8, kSE, c_model, kmod, c_rEncB, kre]
    · rw [if_neg hnil] at kad
      simp -implicitDefEqProofs (maxSteps := 1000000) (disch := omega) [e0, e1, e3, e9, e10, e11, e12, e13, e14, ht, ho, hneg, vd, c_Add, kad, c_Enc, q5, c_New, m6, nilEq, nilFit, c_Merge, km, c_rNew, krm, krn, hmn, hmz, c_Count, kc, t1, q7, c_SameR, kSa, q0, q4, q6, q8, kSE, c_model, kmod, c_rEncB, kre])

end Go.Proofs.Ytpfkebjjbhnehaa.B
set_option maxRecDepth 20000
set_option maxHeartbeats 1000000
namespace Go.Proofs.Ytpfkebjjbhnehaa.B
open Go Go.Ab
theorem in_int {D M n : Nat} {v : V} {t : TypeId} {k : IntKind} (hu : Try.prog.underlying t = some (.int k)) (hg : Ab.isAgg Try.prog t = false) (h : ShpV Try.prog D M n t v) : ∃ i, v = .int k i ∧ (Lit.int k i).wf = true := by
  unfold ShpV at h
  rw [if_neg (by rw [hg]; simp)] at h
  exact shp_int hu h
theorem wf_u32 {c : Int} (h : (Lit.int .u32 c).wf = true) : 0 ≤ c ∧ c < 4294967296 := by
  simp [Lit.wf, IntKind.min, IntKind.max] at h; omega
theorem wf_u64 {c : Int} (h : (Lit.int .u64 c).wf = true) : 0 ≤ c ∧ c < 18446744073709551616 := by
  simp [Lit.wf, IntKind.min, IntKind.max] at h; omega
theorem wf_i64 {c : Int} (h : (Lit.int .i64 c).wf = true) : -9223372036854775808 ≤ c ∧ c < 9223372036854775808 := by
  simp [Lit.wf, IntKind.min, IntKind.max] at h; omega
theorem flat : laidFlat Try.prog = true := by kernel_rfl

theorem in_bytes {D M n : Nat} {v : V} (h : ShpV Try.prog D M n 23 v) : ∃ l, ofInts .u8 v = some l ∧ b8 l = true ∧ l.length ≤ 140737488351232 ∧ (M = 0 ∨ l.length ≤ M) := by
  have hg : Ab.isAgg Try.prog 23 = false := by kernel_rfl
  have h2 : Shp Try.prog D M n 23 v := by unfold ShpV at h; rwa [if_neg (by rw [hg]; simp)] at h
  obtain ⟨l, l1, l2, l3, l4⟩ := shp_ints u23 u5 h2
  have hb : Try.prog.bytesOf 5 = 1 := by kernel_rfl
  rw [hb] at l3
  exact ⟨l, l1, wf_u8 l2, by omega, l4⟩
theorem in_texts {D M n : Nat} {v : V} (h : ShpV Try.prog D M n 22 v) : ∃ ss, ofList (ofInts .u8) v = some ss ∧ (∀ s ∈ ss, b8 s = true ∧ s.length ≤ 140737488351232 ∧ (M = 0 ∨ s.length ≤ M)) ∧ ss.length * 24 ≤ 140737488351232 ∧ (M = 0 ∨ ss.length ≤ M) := by
  have hg : Ab.isAgg Try.prog 22 = false := by kernel_rfl
  have hg2 : Ab.isAgg Try.prog 23 = false := by kernel_rfl
  have h2 : Shp Try.prog D M n 22 v := by unfold ShpV at h; rwa [if_neg (by rw [hg]; simp)] at h
  obtain ⟨l, l1, l2, l3, l4⟩ := shp_list (d := ofInts .u8) (R := fun s => b8 s = true ∧ s.length ≤ 140737488351232 ∧ (M = 0 ∨ s.length ≤ M)) u22 hg2 (fun m u hu => by
    obtain ⟨s, s1, s2, s3, s4⟩ := shp_ints u23 u5 hu
    have hb : Try.prog.bytesOf 5 = 1 := by kernel_rfl
    rw [hb] at s3
    exact ⟨s, s1, wf_u8 s2, by omega, s4⟩) h2
  have hb : Try.prog.bytesOf 23 = 24 := by kernel_rfl
  rw [hb] at l3
  exact ⟨l, l1, l2, by omega, l4⟩

theorem in_keys {D M n : Nat} {v : V} (h : ShpV Try.prog D M n 22 v) : ∃ ls, ofList (ofInts .u8) v = some ls ∧ ls.length < 140737488355328 ∧ keysOk ls := by
  obtain ⟨ss, d0, b0, n0, -⟩ := in_texts h
  exact ⟨ss, d0, by omega, fun l hl => by have := (b0 l hl).2.1; omega⟩
theorem in_i64 {D M n : Nat} {v : V} (h : ShpV Try.prog D M n 3 v) : ∃ i, v = .int .i64 i := by
  obtain ⟨i, h, -⟩ := in_int u3 (by kernel_rfl) h
  exact ⟨i, h⟩
theorem walk_BloomPlays {D M n : Nat} {vs : List V} {args : Array Value} {W : World} (hS : ShpAll Try.prog D M n [3, 22, 23] vs) (hA : AR (top W) W vs args.toList) : Calls Try.prog 3 args W fun e W' => e = .returned (.bool true) ∧ Go.RowKit.Below W.heap.size W W' := by
  match vs, hS with
  | [v0, v1, v2], ⟨s0, s1, s2, _⟩ =>
    obtain ⟨i, rfl⟩ := in_i64 s0
    obtain ⟨ls, d1, l1, o1⟩ := in_keys s1
    obtain ⟨b, d2, b2, n2, -⟩ := in_bytes s2
    refine whole fit T_BloomPlays_ok (fn := Try.f3) (by kernel_rfl) (by kernel_rfl) ?_ hA
    show k_BloomPlays [.int .i64 i, v1, v2] [] = _
    have h2 : keysOk ls ∧ b.length < 140737488354000 := ⟨o1, by omega⟩
    simp (disch := omega) [k_BloomPlays, d1, d2, pre_pos h2]
theorem walk_BloomDecodes {D M n : Nat} {vs : List V} {args : Array Value} {W : World} (hS : ShpAll Try.prog D M n [23, 23] vs) (hA : AR (top W) W vs args.toList) : Calls Try.prog 4 args W fun e W' => e = .returned (.bool true) ∧ Go.RowKit.Below W.heap.size W W' := by
  match vs, hS with
  | [v0, v1], ⟨s0, s1, _⟩ =>
    obtain ⟨a, d1, b1, n1, -⟩ := in_bytes s0
    obtain ⟨b, d2, b2, n2, -⟩ := in_bytes s1
    refine whole fit T_BloomDecodes_ok (fn := Try.f4) (by kernel_rfl) (by kernel_rfl) ?_ hA
    show k_BloomDecodes [v0, v1] [] = _
    have h2 : b8 a = true ∧ b.length < 140737488354000 := ⟨b1, by omega⟩
    simp (disch := omega) [k_BloomDecodes, d1, d2, pre_pos h2]
theorem walk_BloomKeeps {D M n : Nat} {vs : List V} {args : Array Value} {W : World} (hS : ShpAll Try.prog D M n [3, 22, 22, 22, 23] vs) (hA : AR (top W) W vs args.toList) : Calls Try.prog 5 args W fun e W' => e = .returned (.bool true) ∧ Go.RowKit.Below W.heap.size W W' := by
  match vs, hS with
  | [v0, v1, v2, v3, v4], ⟨s0, s1, s2, s3, s4, _⟩ =>
    obtain ⟨i, rfl⟩ := in_i64 s0
    obtain ⟨l1, d1, m1, o1⟩ := in_keys s1
    obtain ⟨l2, d2, m2, o2⟩ := in_keys s2
    obtain ⟨l3, d3, m3, o3⟩ := in_keys s3
    obtain ⟨b, d4, b4, n4, -⟩ := in_bytes s4
    refine whole fit T_BloomKeeps_ok (fn := Try.f5) (by kernel_rfl) (by kernel_rfl) ?_ hA
    show k_BloomKeeps [.int .i64 i, v1, v2, v3, v4] [] = _
    have h2 : (l1.length < 140737488355328 ∧ l2.length < 140737488355328 ∧ l3.length < 140737488355328) ∧ keysOk l1 ∧ keysOk l2 ∧ keysOk l3 ∧ b.length < 140737488354000 := ⟨⟨m1, m2, m3⟩, o1, o2, o3, by omega⟩
    simp only [k_BloomKeeps, d1, d2, d3, d4, pre_pos h2]
theorem walk_BloomOrder {D M n : Nat} {vs : List V} {args : Array Value} {W : World} (hS : ShpAll Try.prog D M n [3, 22, 3, 3] vs) (hA : AR (top W) W vs args.toList) : Calls Try.prog 6 args W fun e W' => e = .returned (.bool true) ∧ Go.RowKit.Below W.heap.size W W' := by
  match vs, hS with
  | [v0, v1, v2, v3], ⟨s0, s1, s2, s3, _⟩ =>
    obtain ⟨i, rfl⟩ := in_i64 s0
    obtain ⟨l1, d1, m1, o1⟩ := in_keys s1
    obtain ⟨j, rfl⟩ := in_i64 s2
    obtain ⟨k, rfl⟩ := in_i64 s3
    refine whole fit T_BloomOrder_ok (fn := Try.f6) (by kernel_rfl) (by kernel_rfl) ?_ hA
    show k_BloomOrder [.int .i64 i, v1, .int .i64 j, .int .i64 k] [] = _
    have h2 : l1.length < 140737488355328 ∧ keysOk l1 := ⟨m1, o1⟩
    simp only [k_BloomOrder, d1, pre_pos h2]

end Go.Proofs.Ytpfkebjjbhnehaa.B
