import Derived.Test.YtiaihiccaoibgaaDoorKeC
set_option linter.unusedSimpArgs false
set_option linter.unusedVariables false
set_option linter.unusedSectionVars false
set_option maxRecDepth 20000
set_option maxHeartbeats 1000000
namespace Go.Proofs.YtiaihiccaoibgaaDoor.B
open Go Go.Ab
/-! rows of cells -/
structure Ce where
  n : Bool
  i : Int
  v : V
instance : Inhabited Ce := ⟨⟨false, 0, .nils⟩⟩
def ceV (x : Ce) : List V := [.bool x.n, .int .i64 x.i, x.v]
def Ce.b (x : Ce) (objs : List AO) : List Int := (ofIntsR .u8 objs x.v).getD []
def ceOk (objs : List AO) (x : Ce) : Bool := i64B x.i && match ofIntsR .u8 objs x.v with | some l => b8 l && decide (l.length < 140737488355000) | none => false
def ceD (objs : List AO) : List V → Option Ce
  | [.bool n, .int .i64 i, v] => if ceOk objs ⟨n, i, v⟩ = true then some ⟨n, i, v⟩ else none
  | _ => none
theorem ceV_len (c : Ce) : (ceV c).length = 3 := rfl
theorem ceD_inv {objs : List AO} (x : List V) (c : Ce) (h : ceD objs x = some c) : x = ceV c := by
  unfold ceD at h; split at h
  · split at h <;> cases h; rfl
  · cases h
theorem ceD_ok {objs : List AO} {c : Ce} : ceD objs (ceV c) = some c ↔ ceOk objs c = true := by
  show (if ceOk objs c = true then some c else none) = some c ↔ _
  split <;> simp_all
theorem ceOk_inv {objs : List AO} {x : Ce} (h : ceOk objs x = true) : i64B x.i = true ∧ ofIntsR .u8 objs x.v = some (x.b objs) ∧ b8 (x.b objs) = true ∧ (x.b objs).length < 140737488355000 := by
  unfold ceOk at h
  rw [Bool.and_eq_true] at h
  obtain ⟨h1, h2⟩ := h
  unfold Ce.b
  cases hv : ofIntsR .u8 objs x.v with
  | none => rw [hv] at h2; cases h2
  | some l =>
    rw [hv] at h2
    simp only [Bool.and_eq_true, decide_eq_true_eq] at h2
    exact ⟨h1, rfl, h2.1, h2.2⟩
theorem ceOk_of {objs : List AO} {x : Ce} {l : List Int} (h1 : i64B x.i = true) (h2 : ofIntsR .u8 objs x.v = some l) (h3 : b8 l = true) (h4 : l.length < 140737488355000) : ceOk objs x = true ∧ x.b objs = l := by
  unfold ceOk Ce.b
  rw [h1, h2]
  simp [h3, h4]
theorem ce_old {objs O : List AO} {x : Ce} (h : ceOk objs x = true) (ho : Old objs O) : ceOk O x = true ∧ x.b O = x.b objs := by
  obtain ⟨h1, h2, h3, h4⟩ := ceOk_inv h
  exact ceOk_of h1 (ofIntsR_old h2 ho) h3 h4
def rowR (objs : List AO) (v : V) : Option (List Ce) := recR (ceD objs) 3 objs v
theorem rowR_inv {objs : List AO} {v : V} {l : List Ce} (h : rowR objs v = some l) : RowV objs 3 v (flatV ceV l) l.length ∧ ∀ x ∈ l, ceOk objs x = true :=
  ⟨recR_inv ceV_len ceD_inv h, fun x hx => ceD_ok.1 (recR_mem ceV_len ceD_inv h x hx)⟩
theorem rowR_of {objs : List AO} {v : V} {l : List Ce} (h : RowV objs 3 v (flatV ceV l) l.length) (hk : ∀ x ∈ l, ceOk objs x = true) : rowR objs v = some l := h.rec ceV_len fun x hx => ceD_ok.2 (hk x hx)
theorem rowR_old {objs O : List AO} {v : V} {l : List Ce} (h : rowR objs v = some l) (ho : Old objs O) : rowR O v = some l := by
  obtain ⟨h1, h2⟩ := rowR_inv h
  exact rowR_of (h1.old ho) fun x hx => (ce_old (h2 x hx) ho).1
theorem cell_f0 (v : V) (cs : List V) (j : Nat) : fieldAddrV Tryd.prog 63 (ptAt v cs j) 0 = some (ptAt v cs j) := by cases v <;> simp [ptAt, fieldAddrV]
theorem cell_f1 (v : V) (cs : List V) (j : Nat) : fieldAddrV Tryd.prog 63 (ptAt v cs j) 1 = some (ptAt v cs (j + 1)) := by cases v <;> simp [ptAt, fieldAddrV, Nat.add_assoc]
theorem cell_f2 (v : V) (cs : List V) (j : Nat) : fieldAddrV Tryd.prog 63 (ptAt v cs j) 2 = some (ptAt v cs (j + 2)) := by cases v <;> simp [ptAt, fieldAddrV, Nat.add_assoc]
theorem row_at {objs : List AO} {v : V} {l : List Ce} (h : RowV objs 3 v (flatV ceV l) l.length) {i : Nat} (hi : i < l.length) :
    loadV Tryd.prog 63 objs (ptAt v (flatV ceV l) (i * 3)) = some (.agg (ceV (nth l i))) ∧ loadV Tryd.prog 28 objs (ptAt v (flatV ceV l) (i * 3 + 2)) = some (demote (nth l i).v) := by
  have hf := flatV_fit ceV_len hi
  refine ⟨?_, ?_⟩
  · rw [h.agg (n := 3) g63 hf, flatV_at ceV_len hi]
  · exact h.get g28 (x := (nth l i).v) (by have := flatV_get (j := 2) ceV_len hi (by omega); simpa [ceV] using this)
/-- What a slice of cells is good for. -/
theorem rowF {objs : List AO} {v : V} {l : List Ce} (h : rowR objs v = some l) : RowV objs 3 v (flatV ceV l) l.length ∧ demote v = v ∧ lenV Tryd.prog 25 v = some (.int .i64 l.length) ∧ (∀ i : Nat, i < l.length → indexV Tryd.prog 25 v (.int .i64 i) = some (ptAt v (flatV ceV l) (i * 3))) ∧ ∀ i, i < l.length → ceOk objs (nth l i) = true := by
  obtain ⟨h1, h2⟩ := rowR_inv h
  refine ⟨h1, h1.dem, h1.size (P := Tryd.prog) u25, fun i hi => ?_, fun i hi => h2 _ (nth_mem hi)⟩
  have := h1.idx (P := Tryd.prog) u25 z63 .i64 i (by omega) (by omega)
  rwa [Int.toNat_natCast] at this
/-- The first that is not naught. -/
def firstE (f : Nat → Int) : Nat → Nat → Int
  | 0, _ => 0
  | n + 1, i => if f i = 0 then firstE f n (i + 1) else f i
theorem firstE_none {f : Nat → Int} : ∀ {n i : Nat}, (∀ j, i ≤ j → j < i + n → f j = 0) → firstE f n i = 0
  | 0, _, _ => rfl
  | n + 1, i, h => by
    unfold firstE
    rw [if_pos (h i (Nat.le_refl _) (by omega))]
    exact firstE_none fun j h1 h2 => h j (by omega) (by omega)
theorem firstE_at {f : Nat → Int} {j : Nat} (hj : f j ≠ 0) : ∀ {n i : Nat}, i ≤ j → j < i + n → (∀ m, i ≤ m → m < j → f m = 0) → firstE f n i = f j
  | 0, i, h1, h2, _ => absurd h2 (by omega)
  | n + 1, i, h1, h2, h3 => by
    unfold firstE
    rcases Nat.eq_or_lt_of_le h1 with rfl | h4
    · rw [if_neg hj]
    · rw [if_pos (h3 i (Nat.le_refl _) h4)]
      exact firstE_at hj h4 (by omega) fun m g1 g2 => h3 m (by omega) g2
def chkC (objs : List AO) (c : Co) (x : Ce) : Int := checkR c.k c.n x.n x.i (x.b objs)
theorem chkC_old {objs O : List AO} {x : Ce} (c : Co) (h : ceOk objs x = true) (ho : Old objs O) : chkC O c x = chkC objs c x := by unfold chkC; rw [(ce_old h ho).2]
def cellsE (objs : List AO) (cols : List Co) (row : List Ce) : Int := if row.length = cols.length then firstE (fun i => chkC objs (nth cols i) (nth row i)) cols.length 0 else 61

theorem firstE_congr {f g : Nat → Int} : ∀ {n i : Nat}, (∀ j, i ≤ j → j < i + n → f j = g j) → firstE f n i = firstE g n i
  | 0, _, _ => rfl
  | n + 1, i, h => by
    unfold firstE
    rw [h i (Nat.le_refl _) (by omega), firstE_congr fun j h1 h2 => h j (by omega) (by omega)]
def cellsN (objs : List AO) (cols : List Co) (n : Nat) (row : List Ce) : Int := if row.length = n then firstE (fun i => chkC objs (nth cols i) (nth row i)) n 0 else 61
theorem cellsE_take {objs : List AO} {cols : List Co} {n : Nat} {row : List Ce} (h : n ≤ cols.length) : cellsE objs (cols.take n) row = cellsN objs cols n row := by
  have hl : (cols.take n).length = n := by rw [List.length_take]; omega
  unfold cellsE cellsN
  rw [hl]
  split
  · refine firstE_congr fun j _ hj => ?_
    show chkC objs (nth (cols.take n) j) (nth row j) = _
    rw [nth_take (by omega)]
  · rfl
theorem cellsE_all {objs : List AO} {cols : List Co} {row : List Ce} : cellsE objs cols row = cellsN objs cols cols.length row := rfl
/-- A schema that is handed. -/
def schD (objs : List AO) (s : V) : Option (List Co × Int) := match s with
  | .agg [v, .int .i64 K] => (recR coD 3 objs v).bind fun cols => if cols.length < 140737488355328 ∧ short24 cols = true then some (cols, K) else none
  | _ => none
theorem schD_inv {objs : List AO} {s : V} {cols : List Co} {K : Int} (h : schD objs s = some (cols, K)) : ∃ v, s = .agg [v, .int .i64 K] ∧ recR coD 3 objs v = some cols ∧ cols.length < 140737488355328 ∧ short24 cols = true := by
  unfold schD at h
  split at h
  case h_2 => cases h
  rename_i v K'
  obtain ⟨c, h1, h2⟩ := Option.bind_eq_some_iff.1 h
  split at h2 <;> cases h2
  rename_i h3
  exact ⟨v, rfl, h1, h3⟩
theorem schD_of {objs : List AO} {v : V} {cols : List Co} {K : Int} (h1 : recR coD 3 objs v = some cols) (h2 : cols.length < 140737488355328) (h3 : short24 cols = true) : schD objs (.agg [v, .int .i64 K]) = some (cols, K) := by
  show (recR coD 3 objs v).bind _ = _
  rw [h1]; simp [h2, h3]
theorem colR_old {objs O : List AO} {v : V} {cols : List Co} (h : recR coD 3 objs v = some cols) (ho : Old objs O) : recR coD 3 O v = some cols := ((colsV h).old ho).rec coV_len fun a _ => coD_coV a
theorem schD_old {objs O : List AO} {s : V} {p : List Co × Int} (h : schD objs s = some p) (ho : Old objs O) : schD O s = some p := by
  obtain ⟨cols, K⟩ := p
  obtain ⟨v, rfl, h1, h2, h3⟩ := schD_inv h
  exact schD_of (colR_old h1 ho) h2 h3
theorem k_sch {objs : List AO} {s : V} {cols : List Co} {K : Int} (h : schD objs s = some (cols, K)) : k_schCheck [s] objs = some (.int .i64 (chkR cols K), none) ∧ k_rSchema [s] objs = some (.int .i64 (chkR cols K), none) := by
  obtain ⟨v, rfl, h1, h2, h3⟩ := schD_inv h
  exact ⟨by simp [k_schCheck, h1, h2, h3], by simp [k_rSchema, h1, h2, h3]⟩
/-- What a schema's value is good for. -/
theorem schF {objs : List AO} {s : V} {cols : List Co} {K : Int} (h : schD objs s = some (cols, K)) : ∃ v, s = .agg [v, .int .i64 K] ∧ RowV objs 3 v (flatV coV cols) cols.length ∧ demote v = v ∧ oneCell v = true ∧ isDef v = true ∧ cellsOf v = [v] ∧ lenV Tryd.prog 22 v = some (.int .i64 cols.length) ∧ (∀ i : Nat, i < cols.length → indexV Tryd.prog 22 v (.int .i64 i) = some (ptAt v (flatV coV cols) (i * 3))) ∧ recR coD 3 objs v = some cols ∧ cols.length < 140737488355328 := by
  obtain ⟨v, rfl, h1, h2, h3⟩ := schD_inv h
  have hv := colsV h1
  refine ⟨v, rfl, hv, hv.dem, hv.one, hv.isDef, hv.cells, hv.size (P := Tryd.prog) u22, fun i hi => ?_, h1, h2⟩
  have := hv.idx (P := Tryd.prog) u22 z68 .i64 i (by omega) (by omega)
  rwa [Int.toNat_natCast] at this
theorem chk_pos {cols : List Co} {K : Int} (h : chkR cols K = 0) : 1 ≤ cols.length ∧ cols.length ≤ 12 ∧ 1 ≤ K ∧ K ≤ 3 ∧ K ≤ cols.length := by
  have hs : schemaOk cols K = true := by
    unfold chkR at h; split at h
    · assumption
    · cases h
  unfold schemaOk headOk at hs
  simp only [Bool.and_eq_true, decide_eq_true_eq] at hs
  omega
theorem chk_or (cols : List Co) (K : Int) : chkR cols K = 0 ∨ chkR cols K = 60 := by unfold chkR; split <;> simp
noncomputable def k_rcells : Ab.Spec := con3 some (ofInt .i64) some fun s n w objs => match schD objs s, rowR objs w with
  | some (cols, K), some row => if 0 ≤ n ∧ n ≤ cols.length then some (.int .i64 (cellsN objs cols n.toNat row), none) else none
  | _, _ => none
noncomputable def T_rcells : CallF := withF T_cCheck 49 k_rcells
theorem T_rcells_ok : CallOk Tryd.prog T_rcells := con_of (A := annOf [] [] [] false []) fit T_cCheck_ok (fn := Tryd.f49) (by kernel_rfl) (by kernel_rfl) (by
  intro args objs r h0
  have c_rCheck : ∀ a o, T_cCheck 37 a o = k_rCheck a o := fun _ _ => rfl
  obtain ⟨s, _, w, _, n, _, rfl, hs, hn, hw, hR⟩ := con3_inv h0
  cases hs; cases hw
  obtain rfl := ofInt_inv hn
  split at hR
  case h_2 => cases hR
  rename_i cols K row hsc hr
  split at hR
  case isFalse => cases hR
  rename_i hn
  cases hR
  obtain ⟨m, rfl⟩ := Int.eq_ofNat_of_zero_le hn.1
  have hm : m ≤ cols.length := by omega
  simp only [Int.toNat_natCast]
  obtain ⟨v, rfl, hv, vd, vo, vf, vc, vn, vi, hc, hl⟩ := schF hsc
  obtain ⟨hw, wd, wn, wi, wk⟩ := rowF hr
  refine .go _ rfl rfl ?_
  by_cases hn : row.length = m
  case neg =>
    have hf : ((row.length : Int) != (m : Int)) = true := by simp only [bne_iff_ne, ne_eq]; omega
    have hg : cellsN objs cols m row = 61 := if_neg hn
    simp -implicitDefEqProofs (disch := omega) [vd, vn, wn, hf, hg]
  have hg0 : cellsN objs cols m row = firstE (fun i => chkC objs (nth cols i) (nth row i)) m 0 := if_pos hn
  simp -implicitDefEqProofs (disch := omega) [vd, vn, wn, hn]
  obtain ⟨I, hI⟩ : ∃ I : Nat → St → Prop, I = (fun (i : Nat) (z : St) => z.env 1 = .int .i64 m ∧ z.env 2 = w ∧ z.env 3 = .ptr objs.length 0 0 ∧ z.env 7 = .int .i64 i ∧ z.toks = [] ∧ z.low = objs.length ∧ z.objs = objs ++ [.cells [v, .int .i64 K] 0] ∧ ∀ j, j < i → chkC objs (nth cols j) (nth row j) = 0) := ⟨_, rfl⟩
  refine .up m I (by rw [hI]; exact ⟨by simp, by simp, by simp, by simp, rfl, rfl, rfl, fun j hj => absurd hj (by omega)⟩) ?_
  intro i z hi hz
  rw [hI] at hz
  obtain ⟨e1, e2, e3, e7, ht, hlo, ho, hpre⟩ := hz
  obtain ⟨O, hO⟩ : ∃ O, O = objs ++ [.cells [v, .int .i64 K] 0] := ⟨_, rfl⟩
  have hold : Old objs O := by rw [hO]; exact Old.ext _ _
  have b1 : Ab.getObj O objs.length 0 = some [v, .int .i64 K] := by rw [hO]; simp
  rw [← hO] at ho
  rcases Nat.lt_or_ge i m with h | h
  case inr =>
    obtain rfl : i = m := by omega
    have hg : cellsN objs cols i row = 0 := by rw [hg0]; exact firstE_none fun j _ hj => hpre j (by omega)
    simp -implicitDefEqProofs (disch := omega) [e1, e2, e3, e7, ht, ho, hlo, hg]
  have ix := vi i (by omega)
  have jx := wi i (by omega)
  obtain ⟨-, -, g3, g4⟩ := col_get (hv.old hold) (i := i) (by omega)
  obtain ⟨g2, -⟩ := row_at (hw.old hold) (i := i) (by omega)
  have hk := wk i (by omega)
  obtain ⟨k1, k2, k3, k4⟩ := ceOk_inv (ce_old hk hold).1
  have hb := (ce_old hk hold).2
  have hcx : chkC objs (nth cols i) (nth row i) = checkR (nth cols i).k (nth cols i).n (nth row i).n (nth row i).i ((nth row i).b objs) := rfl
  obtain ⟨c, hcc⟩ : ∃ c, c = nth cols i := ⟨_, rfl⟩
  obtain ⟨x, hxx⟩ : ∃ x, x = nth row i := ⟨_, rfl⟩
  rw [hb] at k2 k3 k4
  have hi2 := fun (q : chkC objs (nth cols i) (nth row i) = 0) (j : Nat) (hj : j < i + 1) => show chkC objs (nth cols j) (nth row j) = 0 from by
    rcases Nat.lt_or_ge j i with hj2 | hj2
    · exact hpre j hj2
    · obtain rfl : j = i := by omega
      exact q
  have hbad := fun (q : chkC objs (nth cols i) (nth row i) ≠ 0) => show cellsN objs cols m row = chkC objs (nth cols i) (nth row i) from by
    rw [hg0]
    exact firstE_at (f := fun i => chkC objs (nth cols i) (nth row i)) q (Nat.zero_le _) (by omega) fun m _ hm => hpre m hm
  rw [← hcc] at g3 g4 hcx hi2 hbad
  rw [← hxx] at g2 k1 k2 k3 k4 hcx hi2 hbad
  obtain ⟨a1, a2, a3, a4⟩ := one_ofR k2
  obtain ⟨nm, k, nl⟩ := c
  obtain ⟨xn, xi, xv⟩ := x
  simp only at g3 g4 k1 k2 k3 k4 hcx a1 a2 a3 a4
  obtain ⟨B, hB⟩ : ∃ B, B = (⟨xn, xi, xv⟩ : Ce).b objs := ⟨_, rfl⟩
  rw [← hB] at k2 k3 k4 hcx
  obtain ⟨E, hE⟩ : ∃ E, E = checkR k nl xn xi B := ⟨_, rfl⟩
  rw [← hE] at hcx
  rw [hcx] at hi2 hbad
  by_cases hz : E = 0
  · have hi3 := hi2 hz
    rw [hz] at hE
    simp -implicitDefEqProofs (disch := omega) [e1, e2, e3, e7, ht, ho, hlo, h, b1, vd, ix, jx, g2, g3, g4, col_f1, col_f2, ceV, wd, a1, a2, a3, a4, c_rCheck, k_rCheck, k1, k2, k3, k4, ← hE, wrap_small]
    rw [hI]
    exact ⟨by simp [e1], by simp [e2], by simp [e3], by simp, rfl, rfl, hO, hi3⟩
  · have hg := hbad hz
    have hz2 : (E != 0) = true := by simpa using hz
    simp -implicitDefEqProofs (disch := omega) [e1, e2, e3, e7, ht, ho, hlo, h, b1, vd, ix, jx, g2, g3, g4, col_f1, col_f2, ceV, wd, a1, a2, a3, a4, c_rCheck, k_rCheck, k1, k2, k3, k4, ← hE, hz, hz2, hg])
def rowE (objs : List AO) (cols : List Co) (K : Int) (row : List Ce) : Int := if chkR cols K = 0 then cellsN objs cols cols.length row else chkR cols K
def keyE (objs : List AO) (cols : List Co) (K : Int) (row : List Ce) : Int := if chkR cols K = 0 then cellsN objs cols K.toNat row else chkR cols K
theorem cellsN_old {objs O : List AO} {cols : List Co} {n : Nat} {row : List Ce} (hk : ∀ i, i < row.length → ceOk objs (nth row i) = true) (ho : Old objs O) : cellsN O cols n row = cellsN objs cols n row := by
  unfold cellsN
  split
  · rename_i h
    exact firstE_congr fun j _ hj => chkC_old _ (hk j (by omega)) ho
  · rfl
theorem rowE_old {objs O : List AO} {cols : List Co} {K : Int} {row : List Ce} (hk : ∀ i, i < row.length → ceOk objs (nth row i) = true) (ho : Old objs O) : rowE O cols K row = rowE objs cols K row := by unfold rowE; rw [cellsN_old hk ho]
theorem keyE_old {objs O : List AO} {cols : List Co} {K : Int} {row : List Ce} (hk : ∀ i, i < row.length → ceOk objs (nth row i) = true) (ho : Old objs O) : keyE O cols K row = keyE objs cols K row := by unfold keyE; rw [cellsN_old hk ho]
noncomputable def k_rKey : Ab.Spec := con2 some some fun s w objs => match schD objs s, rowR objs w with
  | some (cols, K), some row => some (.int .i64 (keyE objs cols K row), none)
  | _, _ => none
noncomputable def T_rKey : CallF := withF T_rcells 29 k_rKey
theorem T_rKey_ok : CallOk Tryd.prog T_rKey := con_of (A := annOf [] [] [] false []) fit T_rcells_ok (fn := Tryd.f29) (by kernel_rfl) (by kernel_rfl) (by
  intro args objs r h0
  have c_rSchema : ∀ a o, T_rcells 36 a o = k_rSchema a o := fun _ _ => rfl
  have c_rcells : ∀ a o, T_rcells 49 a o = k_rcells a o := fun _ _ => rfl
  obtain ⟨s, w, _, _, rfl, hs, hw, hR⟩ := con2_inv h0
  cases hs; cases hw
  split at hR
  case h_2 => cases hR
  rename_i cols K row hsc hr
  cases hR
  obtain ⟨v, rfl, hv, vd, vo, vf, vc, vn, vi, hc, hl⟩ := schF hsc
  obtain ⟨hw, wd, wn, wi, wk⟩ := rowF hr
  obtain ⟨O, hO⟩ : ∃ O, O = objs ++ [.cells [v, .int .i64 K] 0] := ⟨_, rfl⟩
  have hold : Old objs O := by rw [hO]; exact Old.ext _ _
  have hs2 := schD_old hsc hold
  have s1 := (k_sch hs2).2
  have hr2 := rowR_old hr hold
  have he := cellsN_old (n := K.toNat) (cols := cols) wk hold
  rw [hO] at s1 hs2 hr2 he
  refine .go _ rfl rfl ?_
  unfold keyE
  rcases chk_or cols K with hg | hg
  · rw [hg] at s1
    obtain ⟨p1, p2, p3, p4, p5⟩ := chk_pos hg
    have p0 : 0 ≤ K := by omega
    simp -implicitDefEqProofs (disch := omega) [vd, vn, c_rSchema, s1, hg, wd, c_rcells, k_rcells, hs2, hr2, he, p0, p5]
  · rw [hg] at s1
    simp -implicitDefEqProofs (disch := omega) [vd, c_rSchema, s1, hg])

end Go.Proofs.YtiaihiccaoibgaaDoor.B
set_option maxRecDepth 20000
set_option maxHeartbeats 1000000
namespace Go.Proofs.YtiaihiccaoibgaaDoor.B
open Go Go.Ab
theorem bytesV {k : IntKind} {objs : List AO} {v : V} {l : List Int} (h : ofIntsR k objs v = some l) : RowV objs 1 v (ints k l) l.length := by
  refine ⟨by simp, ?_⟩
  rcases ofIntsR_inv h with h | ⟨id, ver, off, cs, rfl, hg, hrow, hfit⟩
  · exact .inl (ofInts_inv h)
  · exact .inr ⟨id, ver, off, cs, rfl, hg, by rw [Nat.mul_one]; exact hrow, by omega⟩
theorem bytesF {objs : List AO} {v : V} {l : List Int} (h : ofIntsR .u8 objs v = some l) : RowV objs 1 v (ints .u8 l) l.length ∧ demote v = v ∧ lenV Tryd.prog 28 v = some (.int .i64 l.length) ∧ ∀ i : Nat, i < l.length → indexV Tryd.prog 28 v (.int .i64 i) = some (ptAt v (ints .u8 l) i) := by
  have hv := bytesV h
  refine ⟨hv, hv.dem, hv.size (P := Tryd.prog) u28, fun i hi => ?_⟩
  have := hv.idx (P := Tryd.prog) u28 z5 .i64 i (by omega) (by omega)
  rwa [Int.toNat_natCast, Nat.mul_one] at this
theorem byte_at {objs : List AO} {v : V} {l : List Int} (h : RowV objs 1 v (ints .u8 l) l.length) {i : Nat} (hi : i < l.length) : loadV Tryd.prog 5 objs (ptAt v (ints .u8 l) i) = some (.int .u8 (nth l i)) := h.get g5 (ints_nth hi)
theorem v_noref {objs : List AO} {k : IntKind} {v : V} {l : List Int} (h : ofIntsR k objs v = some l) {b : Nat} (hb : objs.length ≤ b) : Ab.noref b v = true := (bytesV h).noref hb (by simp)
noncomputable def k_CopyR : Ab.Spec := con1 some fun v objs => match ofIntsR .u8 objs v with | some l => bnd l.length 140737488355300 (some (.lst (.fresh 1 true) (ints .u8 l) l.length, none)) | none => none
noncomputable def T_CopyR : CallF := withF T_rKey 30 k_CopyR
theorem T_CopyR_ok : CallOk Tryd.prog T_CopyR := con_of (A := annOf [] [5,18] [] false []) fit T_rKey_ok (fn := Tryd.f30) (by kernel_rfl) (by kernel_rfl) (by
  intro args objs r h0
  obtain ⟨v, _, rfl, hv, hR⟩ := con1_inv h0
  cases hv
  split at hR
  case h_2 => cases hR
  rename_i l ha
  obtain ⟨hl, hR⟩ := bnd_inv hR
  cases hR
  obtain ⟨hv, vd, vn, vi⟩ := bytesF ha
  refine .go _ rfl rfl ?_
  simp [blit0]
  refine .up l.length (fun i s => s.env 0 = v ∧ s.env 3 = .ref objs.length i 0 i 1 ∧ s.env 4 = .int .i64 i ∧ s.toks = [] ∧ s.objs = objs ++ [.cells (ints .u8 (l.take i)) i] ∧ s.low = objs.length) (by simp [ints_nil]) ?_
  rintro i s hi ⟨h0, h3, h4, ht, ho, hlo⟩
  rcases Nat.lt_or_ge i l.length with h | h
  · have e := take_nth h
    have ix := vi i h
    have g := byte_at (hv.app [.cells (ints .u8 (l.take i)) i]) h
    simp (disch := omega) [h0, h3, h4, ht, ho, hlo, vn, ix, g, h, blit1, e, wrap_small, getObj_last, Nat.mod_one]
  · obtain rfl : i = l.length := by omega
    simp [h0, h3, h4, ht, ho, hlo, vn, getObj_last])
/-! twins -/
def tw (objs : List AO) (x : Ce) : Ce := ⟨x.n, x.i, .lst .frozen (ints .u8 (x.b objs)) (x.b objs).length⟩
theorem tw_ok {objs O : List AO} {x : Ce} (h : ceOk objs x = true) : ceOk O (tw objs x) = true ∧ (tw objs x).b O = x.b objs := by
  obtain ⟨h1, h2, h3, h4⟩ := ceOk_inv h
  exact ceOk_of (x := tw objs x) h1 (ofIntsR_of (ofInts_lst rfl)) h3 h4
theorem tw_refs (objs : List AO) (row : List Ce) (b : Nat) : norefs b (flatV ceV (row.map (tw objs))) = true := norefs_iff.2 fun v hv => by
  obtain ⟨c, hc, h⟩ := List.mem_flatMap.1 hv
  obtain ⟨x, -, rfl⟩ := List.mem_map.1 hc
  simp only [ceV, tw, List.mem_cons, List.not_mem_nil, or_false] at h
  rcases h with rfl | rfl | rfl <;> simp
theorem tw_row {objs O : List AO} {row : List Ce} (h : ∀ x ∈ row, ceOk objs x = true) : rowR O (.lst .frozen (flatV ceV (row.map (tw objs))) row.length) = some (row.map (tw objs)) := by
  have hl : row.length = (row.map (tw objs)).length := by simp
  rw [hl]
  exact recR_lst ceV_len fun x hx => by
    obtain ⟨y, hy, rfl⟩ := List.mem_map.1 hx
    exact ceD_ok.2 (tw_ok (h y hy)).1
theorem clit0 : listV Tryd.prog 25 0 [] = some ([], 3) := by simp [listV, fillV, zeros]
theorem clit1 (a b c : V) : listV Tryd.prog 25 1 [(0, .agg [a, b, c])] = some ([a, b, c], 3) := by simp [listV, fillV, zeros, setCells]
theorem fitC (a b c : V) (ha : isDef a = true) (hb : isDef b = true) (hc : isDef c = true) (ha' : cellsOf a = [a]) (hb' : cellsOf b = [b]) (hc' : cellsOf c = [c]) : fillV (placeOf Tryd.prog 63) [.bool false, .int .i64 0, .nils] [(0, a), (1, b), (2, c)] = some [a, b, c] := by simp [-isDef_eq, -cellsOf_eq, fillV, setCells, ha, hb, hc, ha', hb', hc']
noncomputable def k_Twin : Ab.Spec := con1 some fun v objs => match v with
  | .agg [.bool n, .int .i64 i, a] => match ofIntsR .u8 objs a with
    | some l => bnd l.length 140737488355000 (some (.agg [.bool n, .int .i64 i, .lst .frozen (ints .u8 l) l.length], none))
    | none => none
  | _ => none
noncomputable def T_Twin : CallF := withF T_CopyR 35 k_Twin
theorem T_Twin_ok : CallOk Tryd.prog T_Twin := con_of (A := annOf [] [] [] false []) fit T_CopyR_ok (fn := Tryd.f35) (by kernel_rfl) (by kernel_rfl) (by
  intro args objs r h0
  have c_CopyR : ∀ a o, T_CopyR 30 a o = k_CopyR a o := fun _ _ => rfl
  obtain ⟨v, _, rfl, hv, hR⟩ := con1_inv h0
  cases hv
  split at hR
  case h_2 => cases hR
  rename_i n i a
  split at hR
  case h_2 => cases hR
  rename_i l ha
  obtain ⟨hl, hR⟩ := bnd_inv hR
  cases hR
  obtain ⟨a1, a2, a3, a4⟩ := one_ofR ha
  have ha' : ∀ M, ofIntsR .u8 (objs ++ M) a = some l := fun M => ofIntsR_app ha
  have hf := fitC (.bool n) (.int .i64 i) (.lst .frozen (ints .u8 l) l.length) rfl rfl rfl rfl rfl rfl
  refine .go _ rfl rfl ?_
  simp -implicitDefEqProofs (disch := omega) [a1, a2, a3, a4, c_CopyR, k_CopyR, ha', hf, setCells])
noncomputable def k_TwinRow : Ab.Spec := con1 some fun v objs => match rowR objs v with | some row => bnd (row.length * 40) 140737488355328 (some (.lst (.fresh 3 true) (flatV ceV (row.map (tw objs))) row.length, none)) | none => none
noncomputable def T_TwinRow : CallF := withF T_Twin 11 k_TwinRow
theorem T_TwinRow_ok : CallOk Tryd.prog T_TwinRow := con_of (A := annOf [] [5,19] [] false []) fit T_Twin_ok (fn := Tryd.f11) (by kernel_rfl) (by kernel_rfl) (by
  intro args objs r h0
  have c_Twin : ∀ a o, T_Twin 35 a o = k_Twin a o := fun _ _ => rfl
  obtain ⟨v, _, rfl, hv, hR⟩ := con1_inv h0
  cases hv
  split at hR
  case h_2 => cases hR
  rename_i row hr
  obtain ⟨hl, hR⟩ := bnd_inv hR
  cases hR
  obtain ⟨hw, vd, vn, vi, vk⟩ := rowF hr
  refine .go _ rfl rfl ?_
  simp -implicitDefEqProofs [clit0]
  obtain ⟨I, hI⟩ : ∃ I : Nat → St → Prop, I = (fun (i : Nat) (z : St) => z.env 0 = v ∧ z.env 3 = .ref objs.length i 0 i 3 ∧ z.env 4 = .int .i64 i ∧ z.toks = [] ∧ z.objs = objs ++ [.cells (flatV ceV ((row.map (tw objs)).take i)) i] ∧ z.low = objs.length) := ⟨_, rfl⟩
  refine .up row.length I (by rw [hI]; exact ⟨by simp, by simp, by simp, rfl, by simp [flatV], rfl⟩) ?_
  intro i z hi hz
  rw [hI] at hz
  obtain ⟨e0, e3, e4, ht, ho, hlo⟩ := hz
  have hml : (row.map (tw objs)).length = row.length := by simp
  have hfl : (flatV ceV ((row.map (tw objs)).take i)).length = i * 3 := by rw [flatV_len ceV_len, List.length_take, hml]; omega
  rcases Nat.lt_or_ge i row.length with h | h
  case inr =>
    obtain rfl : i = row.length := by omega
    rw [List.take_of_length_le (by omega)] at ho hfl
    have hrf := tw_refs objs row objs.length
    simp -implicitDefEqProofs (disch := omega) [e0, e3, e4, ht, ho, hlo, vn, hfl, hrf]
  have ix := vi i h
  have hold := Old.ext objs [.cells (flatV ceV ((row.map (tw objs)).take i)) i]
  obtain ⟨g1, -⟩ := row_at (hw.old hold) h
  obtain ⟨k1, k2, k3, k4⟩ := ceOk_inv (ce_old (vk i h) hold).1
  have hb := (ce_old (vk i h) hold).2
  rw [hb] at k2 k3 k4
  have hs := take_nth (l := row.map (tw objs)) (i := i) (by omega)
  rw [nth_map h] at hs
  have hs2 : flatV ceV ((row.map (tw objs)).take i) ++ ceV (tw objs (nth row i)) = flatV ceV ((row.map (tw objs)).take (i + 1)) := by rw [flatV_snoc, ← hs]
  obtain ⟨x, hxx⟩ : ∃ x, x = nth row i := ⟨_, rfl⟩
  rw [← hxx] at g1 k1 k2 k3 k4 hs2
  obtain ⟨B, hB⟩ : ∃ B, B = x.b objs := ⟨_, rfl⟩
  have htw : ceV (tw objs x) = [.bool x.n, .int .i64 x.i, .lst .frozen (ints .u8 B) B.length] := by rw [hB]; rfl
  rw [htw] at hs2
  rw [← hB] at k2 k3 k4
  obtain ⟨xn, xi, xv⟩ := x
  simp only at k1 k2 k3 k4 hs2 g1
  obtain ⟨a1, a2, a3, a4⟩ := one_ofR k2
  have hm : (i * 3 + 3) = (i + 1) * 3 := by omega
  simp -implicitDefEqProofs (disch := omega) [e0, e3, e4, ht, ho, hlo, vn, ix, h, g1, ceV, a1, a2, a3, a4, c_Twin, k_Twin, k2, k4, clit1, hfl, hs2, hm, wrap_small]
  rw [hI]
  exact ⟨by simp [e0], by simp, by simp, rfl, by simp, by simp⟩)

def Ce.t (objs : List AO) (x : Ce) : Bool × Int × List Int := (x.n, x.i, x.b objs)
theorem Ce.t_old {objs O : List AO} {x : Ce} (h : ceOk objs x = true) (ho : Old objs O) : x.t O = x.t objs := by unfold Ce.t; rw [(ce_old h ho).2]
theorem t_tw {objs O : List AO} {x : Ce} (h : ceOk objs x = true) : (tw objs x).t O = x.t objs := by unfold Ce.t; rw [(tw_ok h).2]; rfl
theorem tm_tw {objs O : List AO} {row : List Ce} (h : ∀ x ∈ row, ceOk objs x = true) : (row.map (tw objs)).map (Ce.t O) = row.map (Ce.t objs) := by
  rw [List.map_map]; exact List.map_congr_left fun x hx => t_tw (h x hx)
noncomputable def k_AlikeRow : Ab.Spec := con2 some some fun v w objs => match rowR objs v, rowR objs w with
  | some a, some b => bnd a.length 140737488355328 (pre (a.map (Ce.t objs) = b.map (Ce.t objs)) (some (.bool true, none)))
  | _, _ => none
noncomputable def T_AlikeRow : CallF := withF T_TwinRow 15 k_AlikeRow
theorem T_AlikeRow_ok : CallOk Tryd.prog T_AlikeRow := con_of (A := annOf [] [] [] false []) fit T_TwinRow_ok (fn := Tryd.f15) (by kernel_rfl) (by kernel_rfl) (by
  intro args objs r h0
  have c_Alike : ∀ a o, T_TwinRow 44 a o = k_Alike a o := fun _ _ => rfl
  obtain ⟨v, w, _, _, rfl, hv, hw, hR⟩ := con2_inv h0
  cases hv; cases hw
  split at hR
  case h_2 => cases hR
  rename_i a b ha hb
  obtain ⟨hl, hR⟩ := bnd_inv hR
  obtain ⟨he, hR⟩ := pre_inv hR
  cases hR
  obtain ⟨ha1, ad, an, ai, ak⟩ := rowF ha
  obtain ⟨hb1, bd, bn, bi, bk⟩ := rowF hb
  have hn : a.length = b.length := by have := congrArg List.length he; simpa using this
  have hat : ∀ i, i < a.length → (nth a i).t objs = (nth b i).t objs := fun i hi => by
    have h1 := nth_map (g := Ce.t objs) hi
    have h2 := nth_map (g := Ce.t objs) (l := b) (i := i) (by omega)
    rw [he, h2] at h1
    exact h1.symm
  refine .go _ rfl rfl ?_
  simp -implicitDefEqProofs (disch := omega) [an, bn, hn]
  obtain ⟨I, hI⟩ : ∃ I : Nat → St → Prop, I = (fun (i : Nat) (z : St) => z.env 0 = v ∧ z.env 1 = w ∧ z.env 5 = .int .i64 i ∧ z.toks = [] ∧ z.objs = objs ∧ z.low = objs.length) := ⟨_, rfl⟩
  refine .up a.length I (by rw [hI]; exact ⟨by simp, by simp, by simp, rfl, rfl, rfl⟩) ?_
  intro i z hi hz
  rw [hI] at hz
  obtain ⟨e0, e1, e5, ht, ho, hlo⟩ := hz
  rcases Nat.lt_or_ge i a.length with h | h
  case inr =>
    have hnl : ¬ i < b.length := by omega
    have hnl2 : ¬ i < a.length := by omega
    simp -implicitDefEqProofs (disch := omega) [e0, e1, e5, ht, ho, hlo, an, bn, hn, hnl, hnl2]
  have hib : i < b.length := by omega
  have ix := ai i h
  have jx := bi i hib
  obtain ⟨g1, -⟩ := row_at ha1 h
  obtain ⟨g2, -⟩ := row_at hb1 hib
  obtain ⟨k1, k2, k3, k4⟩ := ceOk_inv (ak i h)
  obtain ⟨l1, l2, l3, l4⟩ := ceOk_inv (bk i hib)
  have hq := hat i h
  obtain ⟨x, hx⟩ : ∃ x, x = nth a i := ⟨_, rfl⟩
  obtain ⟨y, hy⟩ : ∃ y, y = nth b i := ⟨_, rfl⟩
  rw [← hx] at g1 k1 k2 k3 k4 hq
  rw [← hy] at g2 l1 l2 l3 l4 hq
  obtain ⟨B, hB⟩ : ∃ B, B = x.b objs := ⟨_, rfl⟩
  obtain ⟨C, hC⟩ : ∃ C, C = y.b objs := ⟨_, rfl⟩
  unfold Ce.t at hq
  rw [← hB, ← hC] at hq
  rw [← hB] at k2 k4
  rw [← hC] at l2 l4
  obtain ⟨xn, xi, xv⟩ := x
  obtain ⟨yn, yi, yv⟩ := y
  simp only [Prod.mk.injEq] at hq
  obtain ⟨rfl, rfl, rfl⟩ := hq
  obtain ⟨a1, a2, a3, a4⟩ := one_ofR k2
  obtain ⟨c1, c2, c3, c4⟩ := one_ofR l2
  have hil : i < b.length := hib
  simp -implicitDefEqProofs (disch := omega) [e0, e1, e5, ht, ho, hlo, an, bn, hn, h, hil, ix, jx, g1, g2, ceV, a1, a2, a3, a4, c1, c2, c3, c4, c_Alike, k_Alike, k2, l2, k4, wrap_small]
  rw [hI]
  exact ⟨by simp [e0], by simp [e1], by simp, rfl, rfl, rfl⟩)
theorem tlit0 : listV Tryd.prog 43 0 [] = some ([], 1) := by simp [listV, fillV, zeros]
theorem tlit1 {v : V} (h : isDef v = true) (hc : cellsOf v = [v]) : listV Tryd.prog 43 1 [(0, v)] = some ([v], 1) := by simp [-isDef_eq, -cellsOf_eq, listV, fillV, zeros, setCells, h, hc]
noncomputable def k_Texts : Ab.Spec := con1 some fun v objs => match rowR objs v with | some row => bnd (row.length * 24) 140737488355328 (some (.lst (.fresh 1 false) (row.map (·.v)) row.length, none)) | none => none
noncomputable def T_Texts : CallF := withF T_AlikeRow 20 k_Texts
theorem T_Texts_ok : CallOk Tryd.prog T_Texts := con_of (A := annOf [5] [] [] false []) fit T_AlikeRow_ok (fn := Tryd.f20) (by kernel_rfl) (by kernel_rfl) (by
  intro args objs r h0
  obtain ⟨v, _, rfl, hv, hR⟩ := con1_inv h0
  cases hv
  split at hR
  case h_2 => cases hR
  rename_i row hr
  obtain ⟨hl, hR⟩ := bnd_inv hR
  cases hR
  obtain ⟨hw, vd, vn, vi, vk⟩ := rowF hr
  refine .go _ rfl rfl ?_
  simp -implicitDefEqProofs [tlit0]
  obtain ⟨I, hI⟩ : ∃ I : Nat → St → Prop, I = (fun (i : Nat) (z : St) => z.env 0 = v ∧ z.env 3 = .lst (.tok 0 1) ((row.map (·.v)).take i) i ∧ z.env 4 = .int .i64 i ∧ z.toks = [i] ∧ z.objs = objs ∧ z.low = objs.length) := ⟨_, rfl⟩
  refine .up row.length I (by rw [hI]; exact ⟨by simp, by simp, by simp, by simp, rfl, rfl⟩) ?_
  intro i z hi hz
  rw [hI] at hz
  obtain ⟨e0, e3, e4, ht, ho, hlo⟩ := hz
  have hml : (row.map (·.v)).length = row.length := by simp
  have hfl : ((row.map (·.v)).take i).length = i := by rw [List.length_take, hml]; omega
  rcases Nat.lt_or_ge i row.length with h | h
  case inr =>
    obtain rfl : i = row.length := by omega
    rw [List.take_of_length_le (by omega)] at e3 hfl
    have hrf : norefs objs.length (row.map (·.v)) = true := norefs_iff.2 fun u hu => by
      obtain ⟨x, hx, rfl⟩ := List.mem_map.1 hu
      exact v_noref (ceOk_inv ((rowR_inv hr).2 x hx)).2.1 (Nat.le_refl _)
    simp -implicitDefEqProofs (disch := omega) [e0, e3, e4, ht, ho, hlo, vn, hfl, hrf]
  have ix := vi i h
  obtain ⟨-, g1⟩ := row_at hw h
  obtain ⟨k1, k2, k3, k4⟩ := ceOk_inv (vk i h)
  have hs := take_nth (l := row.map (·.v)) (i := i) (by omega)
  rw [nth_map h] at hs
  obtain ⟨x, hxx⟩ : ∃ x, x = nth row i := ⟨_, rfl⟩
  rw [← hxx] at g1 k2 hs
  obtain ⟨a1, a2, a3, a4⟩ := one_ofR k2
  obtain ⟨xn, xi, xv⟩ := x
  simp only at g1 hs a1 a2 a3 a4
  have hl1 := tlit1 a3 a4
  rw [a1] at g1
  simp -implicitDefEqProofs (disch := omega) [e0, e3, e4, ht, ho, hlo, vn, ix, h, cell_f2, g1, a1, a2, a3, a4, hl1, hfl, ← hs, Nat.mod_one, wrap_small]
  rw [hI]
  exact ⟨by simp [e0], by simp, by simp, rfl, rfl, rfl⟩)

end Go.Proofs.YtiaihiccaoibgaaDoor.B
set_option maxRecDepth 20000
set_option maxHeartbeats 1000000
namespace Go.Proofs.YtiaihiccaoibgaaDoor.B
open Go Go.Ab
/-! numbers in keys -/
noncomputable def k_Flip : Ab.Spec := con1 (ofInt .i64) fun v _ => if -9223372036854775808 ≤ v ∧ v < 9223372036854775808 then some (.int .u64 (v + 9223372036854775808), none) else none
noncomputable def T_Flip : CallF := withF T_Texts 73 k_Flip
theorem T_Flip_ok : CallOk Tryd.prog T_Flip := con_of (A := annOf [] [] [] false []) fit T_Texts_ok (fn := Tryd.f73) (by kernel_rfl) (by kernel_rfl) (by
  intro args objs r h0
  obtain ⟨_, v, rfl, hb, hR⟩ := con1_inv h0
  obtain rfl := ofInt_inv hb
  split at hR
  case isFalse => cases hR
  rename_i h
  cases hR
  have e1 : IntKind.u64.wrap v = if 0 ≤ v then v else v + 18446744073709551616 := by rw [M.u64r]; split <;> omega
  have e2 : Go.bits .xor .u64 (if 0 ≤ v then v else v + 18446744073709551616) 9223372036854775808 = v + 9223372036854775808 := by rw [M.xor_top (by split <;> omega) (by split <;> omega)]; split <;> split <;> omega
  refine .go _ rfl rfl ?_
  simp -implicitDefEqProofs (disch := omega) [convV, e1, e2])
noncomputable def k_Unflip : Ab.Spec := con1 (ofInt .u64) fun v _ => if 0 ≤ v ∧ v < 18446744073709551616 then some (.int .i64 (v - 9223372036854775808), none) else none
noncomputable def T_Unflip : CallF := withF T_Flip 75 k_Unflip
theorem T_Unflip_ok : CallOk Tryd.prog T_Unflip := con_of (A := annOf [] [] [] false []) fit T_Flip_ok (fn := Tryd.f75) (by kernel_rfl) (by kernel_rfl) (by
  intro args objs r h0
  obtain ⟨_, v, rfl, hb, hR⟩ := con1_inv h0
  obtain rfl := ofInt_inv hb
  split at hR
  case isFalse => cases hR
  rename_i h
  cases hR
  have e2 : IntKind.i64.wrap (Go.bits .xor .u64 v 9223372036854775808) = v - 9223372036854775808 := by
    rw [M.xor_top (by omega) (by omega)]
    have : ∀ x : Int, IntKind.i64.wrap x = Go.RowKit.wrap64 x := fun x => by simp [IntKind.wrap, Go.RowKit.wrap64]; omega
    rw [this]; unfold Go.RowKit.wrap64
    split <;> omega
  refine .go _ rfl rfl ?_
  simp -implicitDefEqProofs (disch := omega) [convV, e2])
def ksize (k : Int) : Int := if k = 5 then 2 else if k = 6 then 1 else if k = 1 then 1 else if k = 2 then 2 else if k = 3 then 4 else 8
noncomputable def k_ksize : Ab.Spec := con1 (ofInt .i64) fun k _ => if 1 ≤ k ∧ k ≤ 6 then some (.int .i64 (ksize k), none) else none
noncomputable def T_ksize : CallF := withF T_Unflip 71 k_ksize
theorem T_ksize_ok : CallOk Tryd.prog T_ksize := con_of (A := annOf [] [] [] false []) fit T_Unflip_ok (fn := Tryd.f71) (by kernel_rfl) (by kernel_rfl) (by
  intro args objs r h0
  obtain ⟨_, k, rfl, hb, hR⟩ := con1_inv h0
  obtain rfl := ofInt_inv hb
  split at hR
  case isFalse => cases hR
  rename_i h
  cases hR
  refine .go _ rfl rfl ?_
  obtain rfl | rfl | rfl | rfl | rfl | rfl : k = 1 ∨ k = 2 ∨ k = 3 ∨ k = 4 ∨ k = 5 ∨ k = 6 := by omega
  all_goals simp [ksize, convV, show IntKind.i64.wrap (1 - 1) = 0 from rfl, show IntKind.i64.wrap (2 - 1) = 1 from rfl, show IntKind.i64.wrap (3 - 1) = 2 from rfl, show IntKind.i64.wrap (4 - 1) = 3 from rfl, show IntKind.u64.wrap 0 = 0 from rfl, show IntKind.u64.wrap 1 = 1 from rfl, show IntKind.u64.wrap 2 = 2 from rfl, show IntKind.u64.wrap 3 = 3 from rfl, show IntKind.i64.wrap 0 = 0 from rfl, show IntKind.i64.wrap 1 = 1 from rfl, show IntKind.i64.wrap 2 = 2 from rfl, show IntKind.i64.wrap 3 = 3 from rfl, show IntKind.i64.wrap 4 = 4 from rfl, show IntKind.i64.wrap 8 = 8 from rfl])
noncomputable def k_signed : Ab.Spec := con1 (ofInt .i64) fun k _ => some (.bool (decide (k ≤ 4)), none)
noncomputable def T_signed : CallF := withF T_ksize 72 k_signed
theorem T_signed_ok : CallOk Tryd.prog T_signed := con_of (A := annOf [] [] [] false []) fit T_ksize_ok (fn := Tryd.f72) (by kernel_rfl) (by kernel_rfl) (by
  intro args objs r h0
  obtain ⟨_, k, rfl, hb, hR⟩ := con1_inv h0
  obtain rfl := ofInt_inv hb
  cases hR
  refine .go _ rfl rfl ?_
  simp)

def divs : Nat → Int → Int | 0, v => v | i + 1, v => IntKind.u64.wrap ((divs i v).tdiv 256)
def lowZ (n : Nat) (v : Int) : List Int := (List.range n).map fun i => IntKind.u8.wrap ((divs i v).tmod 256)
theorem lowZ_len (n : Nat) (v : Int) : (lowZ n v).length = n := by simp [lowZ]
theorem lowZ_succ (n : Nat) (v : Int) : lowZ (n + 1) v = lowZ n v ++ [IntKind.u8.wrap ((divs n v).tmod 256)] := by simp [lowZ, List.range_succ]
noncomputable def k_Low : Ab.Spec := con2 (ofInt .u64) (ofInt .i64) fun v n _ => bnd n.toNat 140737488355300 (some (.lst (.fresh 1 false) (ints .u8 (lowZ n.toNat v)) n.toNat, none))
noncomputable def T_Low : CallF := withF T_signed 55 k_Low
theorem T_Low_ok : CallOk Tryd.prog T_Low := con_of (A := annOf [7] [] [] false []) fit T_signed_ok (fn := Tryd.f55) (by kernel_rfl) (by kernel_rfl) (by
  intro args objs r h0
  obtain ⟨_, _, v, n, rfl, ha, hb, hR⟩ := con2_inv h0
  obtain rfl := ofInt_inv ha
  obtain rfl := ofInt_inv hb
  obtain ⟨hl, hR⟩ := bnd_inv hR
  cases hR
  refine .go _ rfl rfl ?_
  simp [blit0]
  refine .up n.toNat (fun i s => s.env 0 = .int .u64 (divs i v) ∧ s.env 1 = .int .i64 n ∧ s.env 5 = .lst (.tok 0 1) (ints .u8 (lowZ i v)) i ∧ s.env 6 = .int .i64 i ∧ s.toks = [i] ∧ s.objs = objs ∧ s.low = objs.length) (by simp [ints_nil, divs, lowZ]) ?_
  rintro i s hi ⟨h0, h1, h5, h6, ht, ho, hlo⟩
  rcases Nat.lt_or_ge i n.toNat with h | h
  · have e := lowZ_succ i v
    have hn : (i : Int) < n := by omega
    simp (disch := omega) [h0, h1, h5, h6, ht, ho, hlo, blit1, e, wrap_small, Nat.mod_one, lowZ_len, convV, divs]
    exact hn
  · obtain rfl : i = n.toNat := by omega
    simp (disch := omega) [h0, h1, h5, h6, ht, ho, hlo, lowZ_len])

noncomputable def k_rksize : Ab.Spec := con1 (ofInt .i64) fun k _ => if 1 ≤ k ∧ k ≤ 6 then some (.int .i64 (ksize k), none) else none
noncomputable def T_rksize : CallF := withF T_Low 56 k_rksize
theorem T_rksize_ok : CallOk Tryd.prog T_rksize := con_of (A := annOf [] [] [] false []) fit T_Low_ok (fn := Tryd.f56) (by kernel_rfl) (by kernel_rfl) (by
  intro args objs r h0
  obtain ⟨_, k, rfl, hb, hR⟩ := con1_inv h0
  obtain rfl := ofInt_inv hb
  split at hR
  case isFalse => cases hR
  rename_i h
  cases hR
  refine .go _ rfl rfl ?_
  obtain rfl | rfl | rfl | rfl | rfl | rfl : k = 1 ∨ k = 2 ∨ k = 3 ∨ k = 4 ∨ k = 5 ∨ k = 6 := by omega
  all_goals simp [ksize])

end Go.Proofs.YtiaihiccaoibgaaDoor.B
set_option maxRecDepth 20000
set_option maxHeartbeats 1000000
namespace Go.Proofs.YtiaihiccaoibgaaDoor.B
open Go Go.Ab
/-! a number, its greatest byte first -/
def beZ (n : Nat) (u : Int) : List Int := (lowZ n u).reverse
theorem beZ_succ (n : Nat) (u : Int) : beZ (n + 1) u = IntKind.u8.wrap ((divs n u).tmod 256) :: beZ n u := by unfold beZ; rw [lowZ_succ, List.reverse_append]; rfl
theorem beZ_len (n : Nat) (u : Int) : (beZ n u).length = n := by unfold beZ; rw [List.length_reverse, lowZ_len]
theorem divs_nn {n : Nat} {u : Int} (h0 : 0 ≤ u) (h1 : u < 18446744073709551616) : 0 ≤ divs n u ∧ divs n u < 18446744073709551616 := by
  induction n with
  | zero => exact ⟨h0, h1⟩
  | succ n ih =>
    show 0 ≤ IntKind.u64.wrap _ ∧ IntKind.u64.wrap _ < _
    rw [M.u64r]; omega
theorem divs_fd {n : Nat} {u : Int} (h0 : 0 ≤ u) (h1 : u < 18446744073709551616) : (divs n u).fdiv 256 = divs (n + 1) u := by
  have h := divs_nn (n := n) h0 h1
  show _ = IntKind.u64.wrap _
  rw [M.u64r, Int.tdiv_eq_ediv_of_nonneg h.1, Int.fdiv_eq_ediv_of_nonneg _ (by decide)]; omega

end Go.Proofs.YtiaihiccaoibgaaDoor.B
