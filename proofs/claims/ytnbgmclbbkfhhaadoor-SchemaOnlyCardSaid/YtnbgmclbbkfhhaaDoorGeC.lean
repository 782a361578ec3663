import Derived.Test.YtnbgmclbbkfhhaaDoorGeB
set_option linter.unusedSimpArgs false
set_option linter.unusedVariables false
set_option linter.unusedSectionVars false
set_option maxRecDepth 20000
set_option maxHeartbeats 1000000
namespace Go.Proofs.YtnbgmclbbkfhhaaDoor.B
open Go Go.Ab
theorem FreshS.nil {objs O : List AO} : FreshS objs O .nils [] := ⟨[], rfl, rfl, ⟨rfl, fun i h => absurd h (by simp), fun i j v w id _ h => by simp at h⟩, by simp⟩
/-- Sets told anew beside sets that are told: alike, and apart. -/
theorem fresh_lawS {objs O : List AO} {xv wv : V} {want : List (Int × Bool × Int × List Int)} {Wn : List Se} (hF : FreshS objs O xv want) (hw : ∀ O, setsR O wv = some Wn) (hww : ∀ O, Wn.map (Se.t O) = want) (h200 : ∀ p ∈ want, p.2.2.2.length ≤ 200) (hn : want.length ≤ 1048576) :
    ∃ (X : List Se) (O3 : List AO) (low : Nat), k_AlikeSets [xv, wv] O = some (.bool true, none) ∧ k_SetTexts [xv] O = some (.lst (.fresh 1 false) (X.map (·.x.v)) X.length, none) ∧ k_SetTexts [wv] O = some (.lst (.fresh 1 false) (Wn.map (·.x.v)) Wn.length, none) ∧
      k_ApartAll [.lst .frozen (X.map (·.x.v)) X.length, .lst .frozen (Wn.map (·.x.v)) Wn.length] O = some (.bool true, some (O3, low)) ∧ O3.length = O.length ∧ ∀ id ver, id < objs.length → Ab.getObj O3 id ver = Ab.getObj O id ver := by
  obtain ⟨X, h1, h2, h3, h4⟩ := hF.rows
  have hl1 : X.length = want.length := by have := congrArg List.length h2; simpa using this
  have hl2 : Wn.length = want.length := by have := congrArg List.length (hww O); simpa using this
  have hsum := lens_200 (ls := want.map fun p => p.2.2.2) (fun l hl => by
    obtain ⟨p, hp, rfl⟩ := List.mem_map.1 hl
    exact h200 p hp)
  rw [List.length_map] at hsum
  obtain ⟨r, k2, O4, low4, rfl, k3⟩ := s_ApartAll (objs := O) (v := .lst .frozen (X.map (·.x.v)) X.length) (w := .lst .frozen (Wn.map (·.x.v)) Wn.length) (vs := X.map (·.x.v)) (ws := Wn.map (·.x.v)) (ls := want.map fun p => p.2.2.2)
    (.inl (by rw [List.length_map, hl1])) (.inl (by rw [List.length_map, hl2])) (fun i hi => by
      rw [List.length_map] at hi
      have hiw : i < Wn.length := by omega
      refine ⟨(nth Wn i).x.v, by rw [List.getElem?_map, get_nth hiw]; rfl, ?_⟩
      have hk := (seOk_inv ((setsR_inv (hw [])).2 _ (nth_mem hiw))).2
      have hb := (ceOk_inv hk).2.1
      have e := hww []
      have e2 := nth_map (g := Se.t []) hiw
      rw [e] at e2
      rw [nth_map (by omega), e2]
      show ofInts .u8 _ = some ((nth Wn i).x.b [])
      rcases ofIntsR_inv hb with h | ⟨id, ver, off, cs, -, hg, -⟩
      · exact h
      · simp [Ab.getObj] at hg) h3 (by omega)
  obtain ⟨m1, m2, m3⟩ := k3 (X.map (·.x.v)) _ (.inl (by rw [List.length_map, hl1])) h3
  refine ⟨X, O4, low4, ?_, ?_, ?_, k2, m1, fun id ver hid => m3 id ver fun v hv hq => ?_⟩
  · have he : X.map (Se.t O) = Wn.map (Se.t O) := by rw [h2, hww O]
    simp (disch := omega) [k_AlikeSets, h1, hw O, he]
  · simp (disch := omega) [k_SetTexts, h1]
  · simp (disch := omega) [k_SetTexts, hw O]
  · have := h4 v hv id hq
    omega
theorem ceG_t {g : CG} {O : List AO} (h : i64B g.i = true ∧ ∀ l, g.b = some l → b8 l = true ∧ l.length ≤ 200) : (ceG g).t O = (g.n, g.i, g.b.getD []) := by
  unfold Ce.t
  rw [(ceG_ok h).2]; rfl
theorem gcE_ok {cols : List Co} {b : List Int} {p : Int} (h8 : b8 b = true) (i : Nat) : i64B (gcE cols b p i).i = true ∧ ∀ l, (gcE cols b p i).b = some l → b8 l = true ∧ l.length ≤ 200 := getC_ok h8
theorem sW_ok {cols : List Co} {b : List Int} {p : Int} (h8 : b8 b = true) (i : Nat) : i64B (sW cols b p i).i = true ∧ ∀ l, (sW cols b p i).b = some l → b8 l = true ∧ l.length ≤ 200 := getC_ok h8
theorem getD_200 {x : Option (List Int)} (h : ∀ l, x = some l → b8 l = true ∧ l.length ≤ 200) : (x.getD []).length ≤ 200 := by
  cases x with
  | none => simp
  | some l => exact (h l rfl).2
theorem rowG_t {cols : List Co} {b : List Int} {p : Int} {n : Nat} (h8 : b8 b = true) (O O' : List AO) : (rowG cols b p n).map (Ce.t O) = (rowG cols b p n).map (Ce.t O') := List.map_congr_left fun x hx => by
  obtain ⟨j, -, rfl⟩ := List.mem_map.1 hx
  rw [ceG_t (gcE_ok h8 j), ceG_t (gcE_ok h8 j)]
theorem rowG_200 {cols : List Co} {b : List Int} {p : Int} {n : Nat} (h8 : b8 b = true) (O : List AO) : ∀ q ∈ (rowG cols b p n).map (Ce.t O), q.2.2.length ≤ 200 := fun q hq => by
  obtain ⟨x, hx, rfl⟩ := List.mem_map.1 hq
  obtain ⟨j, -, rfl⟩ := List.mem_map.1 hx
  rw [ceG_t (gcE_ok h8 j)]
  exact getD_200 (gcE_ok h8 j).2
theorem rowG_row {cols : List Co} {b : List Int} {p : Int} {n : Nat} (h8 : b8 b = true) (O : List AO) : rowR O (.lst .frozen (flatV ceV (rowG cols b p n)) n) = some (rowG cols b p n) := by
  have h := recR_lst (objs := O) (d := ceD O) (l := rowG cols b p n) ceV_len fun x hx => by
    obtain ⟨j, -, rfl⟩ := List.mem_map.1 hx
    exact ceD_ok.2 (ceG_ok (gcE_ok h8 j)).1
  rw [rowG_len] at h
  exact h
theorem setsG_t {cols : List Co} {b : List Int} {p : Int} {n : Nat} (h8 : b8 b = true) (O O' : List AO) : (setsG cols b p n).map (Se.t O) = (setsG cols b p n).map (Se.t O') := List.map_congr_left fun x hx => by
  obtain ⟨j, -, rfl⟩ := List.mem_map.1 hx
  unfold Se.t
  simp only
  rw [ceG_t (sW_ok h8 j), ceG_t (sW_ok h8 j)]
theorem setsG_200 {cols : List Co} {b : List Int} {p : Int} {n : Nat} (h8 : b8 b = true) (O : List AO) : ∀ q ∈ (setsG cols b p n).map (Se.t O), q.2.2.2.length ≤ 200 := fun q hq => by
  obtain ⟨x, hx, rfl⟩ := List.mem_map.1 hq
  obtain ⟨j, -, rfl⟩ := List.mem_map.1 hx
  unfold Se.t
  simp only
  rw [ceG_t (sW_ok h8 j)]
  exact getD_200 (sW_ok h8 j).2
/-- What GetSets found is good. -/
theorem setsGE_ok {cols : List Co} {K : Int} {b : List Int} {p : Int} (h8 : b8 b = true) (h : setsGE cols K b p = 0) : chkR cols K = 0 ∧ 1 ≤ setsN b p ∧ setsN b p ≤ 12 ∧ (M.getR b p).2.2 = 0 ∧ ∀ i, i < (setsN b p).toNat → sE cols K b p i = 0 := by
  unfold setsGE at h
  rcases chk_or cols K with hg | hg
  · rw [if_pos hg] at h
    split at h
    · rename_i h1; exact absurd h h1
    rename_i h1
    split at h
    · cases h
    rename_i h2
    have key : ∀ (f : Nat → Int) (n i : Nat), firstE f n i = 0 → ∀ j, i ≤ j → j < i + n → f j = 0 := by
      intro f n
      induction n with
      | zero => intro i _ j h1 h2; omega
      | succ n ih =>
        intro i he j h1 h2
        unfold firstE at he
        split at he
        · rename_i h3
          rcases Nat.eq_or_lt_of_le h1 with rfl | h4
          · exact h3
          · exact ih (i + 1) he j (by omega) (by omega)
        · rename_i h3; exact absurd he h3
    exact ⟨hg, by omega, by omega, by omega, fun i hi => key _ _ _ h i (Nat.zero_le _) (by omega)⟩
  · rw [if_neg (by rw [hg]; decide), hg] at h; cases h
theorem setsG_row {cols : List Co} {K : Int} {b : List Int} {p : Int} (h8 : b8 b = true) (h : setsGE cols K b p = 0) (O : List AO) : setsR O (.lst .frozen (flatV seV (setsG cols b p (setsN b p).toNat)) (setsN b p).toNat) = some (setsG cols b p (setsN b p).toNat) := by
  obtain ⟨hg, n1, n12, e0, hE⟩ := setsGE_ok h8 h
  obtain ⟨p1, p2, p3, p4, p5⟩ := chk_pos hg
  have hh := recR_lst (objs := O) (d := seD O) (l := setsG cols b p (setsN b p).toNat) seV_len fun x hx => by
    obtain ⟨j, hj, rfl⟩ := List.mem_map.1 hx
    rw [List.mem_range] at hj
    obtain ⟨q1, q2, q3, q4⟩ := sE_zero (hE j hj)
    have q5 := (last_ge (i := j) fun m hm => hE m (by omega)).1
    refine seD_ok.2 ?_
    unfold seOk
    simp only
    rw [i64B_iff.2 (by omega), (ceG_ok (sW_ok h8 j)).1]; rfl
  rw [setsG_len] at hh
  exact hh
noncomputable def k_SchemaGets : Ab.Spec := con3 some (ofInts .u8) (ofInt .i64) fun s b p objs => match objs with
  | [] => match schD [] s with | some _ => bnd b.length 140737488352000 (if b8 b = true then some (.bool true, none) else none) | none => none
  | _ => none
noncomputable def T_SchemaGets : CallF := withF T_rGetSets 6 k_SchemaGets
theorem T_SchemaGets_ok : CallOk Tryd.prog T_SchemaGets := con_of (A := annOf [] [] [] false [40, 42, 29]) fit T_rGetSets_ok (fn := Tryd.f6) (by kernel_rfl) (by kernel_rfl) (by
  intro args objs r h0
  have c_aliveA : ∀ a o, T_rGetSets 9 a o = k_aliveA a o := fun _ _ => rfl
  have c_Wide : ∀ a o, T_rGetSets 39 a o = k_Wide a o := fun _ _ => rfl
  have c_GetRowK : ∀ a o, T_rGetSets 40 a o = k_GetRowK a o := fun _ _ => rfl
  have c_rGetRow : ∀ a o, T_rGetSets 41 a o = k_rGetRow a o := fun _ _ => rfl
  have c_AlikeRow : ∀ a o, T_rGetSets 28 a o = k_AlikeRow a o := fun _ _ => rfl
  have c_Texts : ∀ a o, T_rGetSets 30 a o = k_Texts a o := fun _ _ => rfl
  have c_ApartAll : ∀ a o, T_rGetSets 29 a o = k_ApartAll a o := fun _ _ => rfl
  have c_GetSetsK : ∀ a o, T_rGetSets 42 a o = k_GetSetsK a o := fun _ _ => rfl
  have c_rGetSets : ∀ a o, T_rGetSets 43 a o = k_rGetSets a o := fun _ _ => rfl
  have c_AlikeSets : ∀ a o, T_rGetSets 31 a o = k_AlikeSets a o := fun _ _ => rfl
  have c_SetTexts : ∀ a o, T_rGetSets 44 a o = k_SetTexts a o := fun _ _ => rfl
  have c_Intact : ∀ a o, T_rGetSets 45 a o = k_Intact a o := fun _ _ => rfl
  obtain ⟨s, y, _, _, b, p, rfl, hs, hy, hp, hR⟩ := con3_inv h0
  cases hs
  obtain rfl := ofInt_inv hp
  split at hR
  case h_2 => cases hR
  split at hR
  case h_2 => cases hR
  rename_i pr hsc
  obtain ⟨cols, K⟩ := pr
  obtain ⟨hbl, hR⟩ := bnd_inv hR
  split at hR
  case isFalse => cases hR
  rename_i h8
  cases hR
  obtain ⟨v, rfl, hc, hl, hsh⟩ := schD_inv hsc
  have vd := (colsV hc).dem
  obtain ⟨yd, yn, yi, -⟩ := bs hy
  have S1 := fun O => schD_old hsc (old_nil O)
  have hwl := wide_len b
  have hwt : (wide b).take b.length = b := by simp [wide]
  have e0 : ofInts .u8 (.lst .frozen (ints .u8 (wide b)) (b.length + 64)) = some (wide b) := ofInts_lst (by rw [hwl])
  have e1 : ofInts .u8 (.lst .frozen (ints .u8 b) b.length) = some b := ofInts_lst rfl
  obtain ⟨O1, hO1⟩ : ∃ O1, O1 = [AO.cells [v, .int .i64 K] 0] := ⟨_, rfl⟩
  -- the row
  obtain ⟨r, k1, k1p⟩ := s_GetRowK (objs := O1) (p := p) (S1 O1) e1 h8 (by omega)
  obtain ⟨xv, O2, rfl, hold2, xd, xnt, xbad, xgood⟩ := k1p _ _ _ _ (S1 O1) e1 rfl
  obtain ⟨E, hE⟩ : ∃ E, E = rowGE cols K b p := ⟨_, rfl⟩
  obtain ⟨PN, hPN⟩ : ∃ P, P = if rowGE cols K b p = 0 then posG cols b p cols.length else 0 := ⟨_, rfl⟩
  obtain ⟨WV0, hWV0⟩ : ∃ W : V, W = if rowGE cols K b p = 0 then .lst (.fresh 3 false) (flatV ceV (rowG cols b p cols.length)) cols.length else .nils := ⟨_, rfl⟩
  rw [← hE] at hPN hWV0
  have k1' : ∀ O, k_rGetRow [.agg [v, .int .i64 K], y, .int .i64 p] O = some (.tup [WV0, .int .i64 PN, .int .i64 E], none) := fun O => by
    simp (disch := omega) [k_rGetRow, S1 O, hy, h8, ← hE, ← hPN, ← hWV0]
  rw [← hE, ← hPN] at k1
  rw [← hE] at xbad xgood
  obtain ⟨X, O3, low3, Wn, WV, a1, a2, ⟨a3, a4, wvd, wve, wvn, wvm⟩, hl3, same3⟩ : ∃ (X : List Ce) (O3 : List AO) (low : Nat) (Wn : List Ce) (WV : V), k_AlikeRow [xv, WV] O2 = some (.bool true, none) ∧ k_Texts [xv] O2 = some (.lst (.fresh 1 false) (X.map (·.v)) X.length, none) ∧ (k_Texts [WV] O2 = some (.lst (.fresh 1 false) (Wn.map (·.v)) Wn.length, none) ∧
      k_ApartAll [.lst .frozen (X.map (·.v)) X.length, .lst .frozen (Wn.map (·.v)) Wn.length] O2 = some (.bool true, some (O3, low)) ∧ demote WV0 = WV ∧ demote WV = WV ∧ ntup WV = some WV ∧ ntup WV0 = some WV0) ∧ O3.length = O2.length ∧ ∀ id ver, id < O1.length → Ab.getObj O3 id ver = Ab.getObj O2 id ver := by
    by_cases hz : E = 0
    · have hW2 : WV0 = .lst (.fresh 3 false) (flatV ceV (rowG cols b p cols.length)) cols.length := by rw [hWV0]; exact if_pos hz
      have hc12 : cols.length ≤ 12 := by
        have hg : chkR cols K = 0 := by
          rcases chk_or cols K with q | q
          · exact q
          · unfold rowGE at hE; rw [if_neg (by rw [q]; decide), q] at hE; rw [hE] at hz; cases hz
        exact (chk_pos hg).2.1
      obtain ⟨X, O3, low, q1, q2, q3, q4, q5, q6⟩ := fresh_law (wv := .lst .frozen (flatV ceV (rowG cols b p cols.length)) cols.length) (Wn := rowG cols b p cols.length) (xgood hz) (rowG_row h8) (fun O => rowG_t h8 O O1) (rowG_200 h8 O1) (by rw [List.length_map, rowG_len]; omega)
      exact ⟨X, O3, low, _, _, q1, q2, ⟨q3, q4, by rw [hW2]; rfl, rfl, rfl, by rw [hW2]; rfl⟩, q5, q6⟩
    · have hW2 : WV0 = .nils := by rw [hWV0]; exact if_neg hz
      have hx := xbad hz
      obtain ⟨X, O3, low, q1, q2, q3, q4, q5, q6⟩ := fresh_law (objs := O1) (O := O2) (xv := xv) (wv := .nils) (Wn := []) (want := []) (by rw [hx]; exact Fresh.nil) (fun O => rfl) (fun O => rfl) (by simp) (by simp)
      exact ⟨X, O3, low, _, _, q1, q2, ⟨q3, q4, by rw [hW2]; rfl, rfl, rfl, by rw [hW2]; rfl⟩, q5, q6⟩
  have hO1l : O1.length = 1 := by rw [hO1]; rfl
  have g1 : Ab.getObj O1 0 0 = some [v, .int .i64 K] := by rw [hO1]; rfl
  have g2 : Ab.getObj O2 0 0 = some [v, .int .i64 K] := by rw [hold2.2 0 0 (by omega)]; exact g1
  have g3 : Ab.getObj O3 0 0 = some [v, .int .i64 K] := by rw [same3 0 0 (by omega)]; exact g2
  have hO3l : 1 ≤ O3.length := by rw [hl3]; have := hold2.1; omega
  -- the sets
  obtain ⟨r, k2, k2p⟩ := s_GetSetsK (objs := O3) (p := p) (S1 O3) e1 h8 (by omega)
  obtain ⟨yv, O4, rfl, hold4, yvd, yvn, ybad, ygood⟩ := k2p _ _ _ _ (S1 O3) e1 rfl
  obtain ⟨F, hF⟩ : ∃ F, F = setsGE cols K b p := ⟨_, rfl⟩
  obtain ⟨QN, hQN⟩ : ∃ P, P = if setsGE cols K b p = 0 then posS cols b (setsP b p) (setsN b p).toNat else 0 := ⟨_, rfl⟩
  obtain ⟨ZV0, hZV0⟩ : ∃ W : V, W = if setsGE cols K b p = 0 then .lst (.fresh 4 false) (flatV seV (setsG cols b p (setsN b p).toNat)) (setsN b p).toNat else .nils := ⟨_, rfl⟩
  rw [← hF] at hQN hZV0
  have k2' : ∀ O, k_rGetSets [.agg [v, .int .i64 K], y, .int .i64 p] O = some (.tup [ZV0, .int .i64 QN, .int .i64 F], none) := fun O => by
    simp (disch := omega) [k_rGetSets, S1 O, hy, h8, ← hF, ← hQN, ← hZV0]
  rw [← hF, ← hQN] at k2
  rw [← hF] at ybad ygood
  obtain ⟨Y, O5, low5, Yn, ZV, b1, b2, ⟨b3, b4, zvd, zve, zvn, zvm⟩, hl5, same5⟩ : ∃ (X : List Se) (O5 : List AO) (low : Nat) (Wn : List Se) (ZV : V), k_AlikeSets [yv, ZV] O4 = some (.bool true, none) ∧ k_SetTexts [yv] O4 = some (.lst (.fresh 1 false) (X.map (·.x.v)) X.length, none) ∧ (k_SetTexts [ZV] O4 = some (.lst (.fresh 1 false) (Wn.map (·.x.v)) Wn.length, none) ∧
      k_ApartAll [.lst .frozen (X.map (·.x.v)) X.length, .lst .frozen (Wn.map (·.x.v)) Wn.length] O4 = some (.bool true, some (O5, low)) ∧ demote ZV0 = ZV ∧ demote ZV = ZV ∧ ntup ZV = some ZV ∧ ntup ZV0 = some ZV0) ∧ O5.length = O4.length ∧ ∀ id ver, id < O3.length → Ab.getObj O5 id ver = Ab.getObj O4 id ver := by
    by_cases hz : F = 0
    · have hW2 : ZV0 = .lst (.fresh 4 false) (flatV seV (setsG cols b p (setsN b p).toNat)) (setsN b p).toNat := by rw [hZV0]; exact if_pos hz
      have hz' : setsGE cols K b p = 0 := hF ▸ hz
      obtain ⟨-, -, n12, -⟩ := setsGE_ok h8 hz'
      obtain ⟨X, O5, low, q1, q2, q3, q4, q5, q6⟩ := fresh_lawS (wv := .lst .frozen (flatV seV (setsG cols b p (setsN b p).toNat)) (setsN b p).toNat) (Wn := setsG cols b p (setsN b p).toNat) (ygood hz) (setsG_row h8 hz') (fun O => setsG_t h8 O O3) (setsG_200 h8 O3) (by rw [List.length_map, setsG_len]; omega)
      exact ⟨X, O5, low, _, _, q1, q2, ⟨q3, q4, by rw [hW2]; rfl, rfl, rfl, by rw [hW2]; rfl⟩, q5, q6⟩
    · have hW2 : ZV0 = .nils := by rw [hZV0]; exact if_neg hz
      have hx := ybad hz
      obtain ⟨X, O5, low, q1, q2, q3, q4, q5, q6⟩ := fresh_lawS (objs := O3) (O := O4) (xv := yv) (wv := .nils) (Wn := []) (want := []) (by rw [hx]; exact FreshS.nil) (fun O => rfl) (fun O => rfl) (by simp) (by simp)
      exact ⟨X, O5, low, _, _, q1, q2, ⟨q3, q4, by rw [hW2]; rfl, rfl, rfl, by rw [hW2]; rfl⟩, q5, q6⟩
  have g4 : Ab.getObj O4 0 0 = some [v, .int .i64 K] := by rw [hold4.2 0 0 (by omega)]; exact g3
  have hc1 : clean 0 O2 = true := rfl
  refine .go _ rfl rfl ?_
  simp -implicitDefEqProofs [vd]
  rw [← hO1]
  simp -implicitDefEqProofs (maxSteps := 1000000) (disch := omega) [vd, yd, yn, hy, h8, e0, e1, hwl, hwt, c_aliveA, aliveA, c_Wide, k_Wide, g1, c_GetRowK, k1, xd, xnt, g2, c_rGetRow, k1', wvd, wve, wvn, wvm, c_AlikeRow, a1, c_Texts, a2, a3, c_ApartAll, a4, g3, c_GetSetsK, k2, yvd, yvn, g4, c_rGetSets, k2', zvd, zve, zvn, zvm, c_AlikeSets, b1, c_SetTexts, b2, b3, b4, c_Intact, k_Intact])

end Go.Proofs.YtnbgmclbbkfhhaaDoor.B
set_option maxRecDepth 20000
set_option maxHeartbeats 1000000
namespace Go.Proofs.YtnbgmclbbkfhhaaDoor.B
open Go Go.Ab
theorem in_bytes {D M n : Nat} {v : V} (h : ShpV Tryd.prog D M n 59 v) : ∃ l, ofInts .u8 v = some l ∧ b8 l = true ∧ l.length ≤ 140737488351232 ∧ (M = 0 ∨ l.length ≤ M) := by
  have hg : Ab.isAgg Tryd.prog 59 = false := by kernel_rfl
  have h2 : Shp Tryd.prog D M n 59 v := by unfold ShpV at h; rwa [if_neg (by rw [hg]; simp)] at h
  obtain ⟨l, l1, l2, l3, l4⟩ := shp_ints u59 u5 h2
  have hb : Tryd.prog.bytesOf 5 = 1 := by kernel_rfl
  rw [hb] at l3
  exact ⟨l, l1, wf_u8 l2, by omega, l4⟩
theorem walk_SchemaGets {D M n : Nat} {vs : List V} {args : Array Value} {W : World} (hS : ShpAll Tryd.prog (D + 64) M n [24, 59, 3] vs) (hA : AR (top W) W vs args.toList) : Calls Tryd.prog 6 args W fun e W' => e = .returned (.bool true) ∧ Go.RowKit.Below W.heap.size W W' := by
  match vs, hS with
  | [v0, v1, v2], ⟨s0, s1, s2, _⟩ =>
    obtain ⟨cols, K, c1, c2, -⟩ := in_schema s0
    obtain ⟨b, d1, b1, n1, -⟩ := in_bytes s1
    obtain ⟨p, rfl, w2⟩ := in_int u3 (by kernel_rfl) s2
    refine whole fit T_SchemaGets_ok (fn := Tryd.f6) (by kernel_rfl) (by kernel_rfl) ?_ hA
    show k_SchemaGets [v0, v1, .int .i64 p] [] = _
    simp (disch := omega) [k_SchemaGets, c1, d1, b1]

end Go.Proofs.YtnbgmclbbkfhhaaDoor.B
