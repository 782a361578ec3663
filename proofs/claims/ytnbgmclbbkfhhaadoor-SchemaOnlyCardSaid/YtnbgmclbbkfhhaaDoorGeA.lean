import Derived.Test.YtnbgmclbbkfhhaaDoorPuB
set_option linter.unusedSimpArgs false
set_option linter.unusedVariables false
set_option linter.unusedSectionVars false
set_option maxRecDepth 20000
set_option maxHeartbeats 1000000
namespace Go.Proofs.YtnbgmclbbkfhhaaDoor.B
open Go Go.Ab
/-! what is got: one cell -/
theorem cgetU_b (k : Int) (b : List Int) (u nx : Int) : (cgetU k b u nx).b = none ∨ ∃ S, (cgetU k b u nx).b = some S ∧ (cgetU k b u nx).ex = some S ∧ S.length ≤ 200 := by
  unfold cgetU
  repeat' split
  all_goals first | exact .inl rfl | skip
  rename_i h1 h2 h3
  exact .inr ⟨_, rfl, rfl, by rw [List.length_take]; omega⟩
theorem cgetZ_b (k : Int) (b : List Int) (p : Int) : (cgetZ k b p).b = none ∨ ∃ S, (cgetZ k b p).b = some S ∧ (cgetZ k b p).ex = some S ∧ S.length ≤ 200 := by
  unfold cgetZ
  repeat' split
  all_goals first | exact .inl rfl | skip
  exact cgetU_b _ _ _ _
def getC (k : Int) (nl : Bool) (b : List Int) (p : Int) : CG := if (cgetZ k b p).err = 0 ∧ (cgetZ k b p).n = true ∧ nl = false then .bad 51 else cgetZ k b p
def GetP (objs : List AO) (g : CG) (r : Rs) : Prop :=
  ∃ w O', r = (.tup [.agg [.bool g.n, .int .i64 g.i, w], .int .i64 g.next, .int .i64 g.err], some (O', objs.length)) ∧ Old objs O' ∧ (demote w = w ∧ oneCell w = true ∧ isDef w = true ∧ cellsOf w = [w]) ∧ rowH O' w (g.b.getD []) ∧ ∀ id, idOf w = some id → objs.length ≤ id
/-- The cell that cell.Get makes. -/
theorem cget_at {objs : List AO} {k : Int} {b : List Int} {p : Int} {v : V} (hb : ofInts .u8 v = some b) (h8 : b8 b = true) (hl : b.length < 140737488353000) :
    ∃ w O', k_CGetK [.int .i64 k, v, .int .i64 p] objs = some (.tup [.agg [.bool (cgetZ k b p).n, .int .i64 (cgetZ k b p).i, w], .int .i64 (cgetZ k b p).next, .int .i64 (cgetZ k b p).err], some (O', objs.length)) ∧ Old objs O' ∧ (demote w = w ∧ oneCell w = true ∧ isDef w = true ∧ cellsOf w = [w]) ∧ rowH O' w ((cgetZ k b p).b.getD []) ∧ ∀ id, idOf w = some id → objs.length ≤ id := by
  have hgb := cgetZ_b k b p
  obtain ⟨g, hg⟩ : ∃ g, g = cgetZ k b p := ⟨_, rfl⟩
  rw [← hg] at hgb ⊢
  have kk : k_CGetK [.int .i64 k, v, .int .i64 p] objs = some (.tup [cellK objs.length g, .int .i64 g.next, .int .i64 g.err], some (objs ++ cellO objs.length g, objs.length)) := by simp (disch := omega) [k_CGetK, hb, h8, ← hg]
  rcases hgb with hn | ⟨S, hs, hx, -⟩
  · refine ⟨.nils, objs ++ cellO objs.length g, by rw [kk]; unfold cellK; rw [hn], Old.ext _ _, ⟨rfl, rfl, rfl, rfl⟩, ?_, fun id h => by cases h⟩
    rw [hn]; exact .inl ⟨rfl, rfl⟩
  · refine ⟨.ref (objs.length + 1) 0 0 S.length 1, objs ++ cellO objs.length g, by rw [kk]; unfold cellK; rw [hs], Old.ext _ _, ⟨rfl, rfl, rfl, rfl⟩, ?_, fun id h => by cases h; omega⟩
    rw [hs]
    refine .inr ⟨_, _, rfl, ?_⟩
    unfold cellO
    rw [hx]; simp
def p_getK : List V → List AO → Rs → Prop := fun args objs r => match args with | [c, v, q] => ∀ nm k nl b p, c = .agg [.str nm, .int .i64 k, .bool nl] → ofInts .u8 v = some b → q = .int .i64 p → GetP objs (getC k nl b p) r | _ => False
noncomputable def k_getK : Ab.Spec := relF (fun a o r => p_getK a o r ∧ EndsW Tryd.prog (annOf [] [] [] true [84]) T_SchemaPuts 69 Tryd.f69 a o r)
noncomputable def T_getK : CallF := withF T_SchemaPuts 69 k_getK
theorem T_getK_ok : CallOk Tryd.prog T_getK := con_ofW (A := annOf [] [] [] true [84]) fit T_SchemaPuts_ok (fn := Tryd.f69) (by kernel_rfl) (by kernel_rfl) (fun args objs r h0 => (relF_inv h0).2)
theorem s_getK  {objs : List AO} {nm : ByteArray} {k p : Int} {nl : Bool} {v : V} {b : List Int} (hb : ofInts .u8 v = some b) (h8 : b8 b = true) (hl : b.length < 140737488353000) : ∃ r, k_getK [.agg [.str nm, .int .i64 k, .bool nl], v, .int .i64 p] objs = some r ∧ p_getK [.agg [.str nm, .int .i64 k, .bool nl], v, .int .i64 p] objs r := by
  have c_CGetK : ∀ a o, T_SchemaPuts 84 a o = k_CGetK a o := fun _ _ => rfl
  refine rel_goT _ rfl rfl ?_
  obtain ⟨vd, vn, vi, -⟩ := bs hb
  have goal : ∀ r, GetP objs (getC k nl b p) r → (match ([.agg [.str nm, .int .i64 k, .bool nl], v, .int .i64 p] : List V) with | [c, v, q] => ∀ nm k nl b p, c = .agg [.str nm, .int .i64 k, .bool nl] → ofInts .u8 v = some b → q = .int .i64 p → GetP objs (getC k nl b p) r | _ => False) := fun r h nm' k' nl' b' p' h1 h2 h3 => by
    cases h1; cases h3
    rw [hb] at h2; cases h2
    exact h
  obtain ⟨O, hO⟩ : ∃ O, O = objs ++ [.cells [.str nm, .int .i64 k, .bool nl] 0, .cells [.bool false, .int .i64 0, .nils] 0] := ⟨_, rfl⟩
  have hold : Old objs O := by rw [hO]; exact Old.ext _ _
  have hOl : O.length = objs.length + 2 := by rw [hO]; simp
  obtain ⟨w, O2, kk, hold2, ⟨w1, w2, w3, w4⟩, hrow, hid⟩ := cget_at (objs := O) (k := k) (p := p) hb h8 hl
  obtain ⟨g, hg⟩ : ∃ g, g = cgetZ k b p := ⟨_, rfl⟩
  have hC : getC k nl b p = if g.err = 0 ∧ g.n = true ∧ nl = false then .bad 51 else g := by unfold getC; rw [← hg]
  rw [hC] at goal
  rw [← hg] at kk hrow
  have hO2l : O.length ≤ O2.length := hold2.1
  have b1 : Ab.getObj O objs.length 0 = some [.str nm, .int .i64 k, .bool nl] := by rw [hO]; simp
  have b2 : Ab.getObj O (objs.length + 1) 0 = some [.bool false, .int .i64 0, .nils] := by rw [hO]; simp
  have c1 : ∀ X, Ab.getObj (O2 ++ X) objs.length 0 = some [.str nm, .int .i64 k, .bool nl] := fun X => by rw [getObj_app (by omega), hold2.2 _ _ (by omega)]; exact b1
  have c2 : ∀ X, Ab.getObj (O2 ++ X) (objs.length + 1) 0 = some [.bool false, .int .i64 0, .nils] := fun X => by rw [getObj_app (by omega), hold2.2 _ _ (by omega)]; exact b2
  have hOn : ¬ O.length < objs.length := by omega
  have hO2n : ¬ O2.length < objs.length := by omega
  obtain ⟨X, hX⟩ : ∃ X, X = O2 ++ [.cells [.bool g.n, .int .i64 g.i, w] 0] := ⟨_, rfl⟩
  have c3 : Ab.getObj X O2.length 0 = some [.bool g.n, .int .i64 g.i, w] := by rw [hX]; simp
  have c1' : Ab.getObj X objs.length 0 = some [.str nm, .int .i64 k, .bool nl] := by rw [hX]; exact c1 _
  have c2' : Ab.getObj X (objs.length + 1) 0 = some [.bool false, .int .i64 0, .nils] := by rw [hX]; exact c2 _
  have hXl : X.length = O2.length + 1 := by rw [hX]; simp
  have c4 : ∀ y : List V, Ab.getObj (X.set (objs.length + 1) (.cells y 0)) (objs.length + 1) 0 = some y := fun y => getObj_set (by omega)
  have holdX : ∀ y : AO, Old objs (X.set (objs.length + 1) y) := fun y => Old.set (by rw [hX]; exact (hold.trans hold2).app _) (by omega)
  have hrowX : ∀ y : AO, rowH (X.set (objs.length + 1) y) w (g.b.getD []) := fun y => (rowH_old hrow (show Old O2 X by rw [hX]; exact Old.ext _ _)).same fun id ver e => by rw [getObj_set_ne (by have := hid id e; omega)]
  have hidX : ∀ id, idOf w = some id → objs.length ≤ id := fun id e => by have := hid id e; omega
  simp -implicitDefEqProofs (disch := omega) [vd]
  rw [← hO]
  by_cases he : g.err = 0
  · cases hn : g.n with
    | true =>
      rw [he, hn] at kk
      rw [hn] at hX c3
      cases nl with
      | false =>
        rw [if_pos ⟨he, hn, rfl⟩] at goal
        simp -implicitDefEqProofs (disch := omega) [vd, b1, c_CGetK, kk, w1, w2, w3, w4, setCells, hOn, hO2n, ← hX, c1', c2', c3, c4, fitC0]
        exact goal _ ⟨.nils, _, rfl, holdX _, ⟨rfl, rfl, rfl, rfl⟩, .inl ⟨rfl, rfl⟩, fun id h => by cases h⟩
      | true =>
        rw [if_neg (by simp)] at goal
        simp -implicitDefEqProofs (disch := omega) [vd, b1, c_CGetK, kk, w1, w2, w3, w4, setCells, hOn, hO2n, ← hX, c1', c2', c3, c4]
        exact goal _ ⟨w, _, by rw [he, hn], holdX _, ⟨w1, w2, w3, w4⟩, hrowX _, hidX⟩
    | false =>
      rw [if_neg (by simp [hn])] at goal
      rw [he, hn] at kk
      rw [hn] at hX c3
      simp -implicitDefEqProofs (disch := omega) [vd, b1, c_CGetK, kk, w1, w2, w3, w4, setCells, hOn, hO2n, ← hX, c1', c2', c3, c4]
      exact goal _ ⟨w, _, by rw [he, hn], holdX _, ⟨w1, w2, w3, w4⟩, hrowX _, hidX⟩
  · rw [if_neg (by simp [he])] at goal
    have he2 : (g.err == 0) = false := by simpa using he
    simp -implicitDefEqProofs (disch := omega) [vd, b1, c_CGetK, kk, w1, w2, w3, w4, setCells, hOn, hO2n, ← hX, c1', c2', c3, c4, he, he2]
    exact goal _ ⟨w, _, rfl, holdX _, ⟨w1, w2, w3, w4⟩, hrowX _, hidX⟩

noncomputable def k_rget : Ab.Spec := con3 some (ofInts .u8) (ofInt .i64) fun c b p objs => match c with
  | .agg [.str _, .int .i64 k, .bool nl] => bnd b.length 140737488353000 (if b8 b = true then some (.tup [cellV (getC k nl b p), .int .i64 (getC k nl b p).next, .int .i64 (getC k nl b p).err], none) else none)
  | _ => none
noncomputable def T_rget : CallF := withF T_getK 70 k_rget
theorem T_rget_ok : CallOk Tryd.prog T_rget := con_of (A := annOf [] [] [] false []) fit T_getK_ok (fn := Tryd.f70) (by kernel_rfl) (by kernel_rfl) (by
  intro args objs r h0
  have c_rCGet : ∀ a o, T_getK 85 a o = k_rCGet a o := fun _ _ => rfl
  obtain ⟨_, v, _, _, b, p, rfl, hc, hb, hp, hR⟩ := con3_inv h0
  cases hc
  obtain rfl := ofInt_inv hp
  split at hR
  case h_2 => cases hR
  rename_i nm k nl
  obtain ⟨hl, hR⟩ := bnd_inv hR
  split at hR
  case isFalse => cases hR
  rename_i h8
  cases hR
  obtain ⟨vd, vn, vi, -⟩ := bs hb
  obtain ⟨g, hg⟩ : ∃ g, g = cgetZ k b p := ⟨_, rfl⟩
  have hC : getC k nl b p = if g.err = 0 ∧ g.n = true ∧ nl = false then .bad 51 else g := by unfold getC; rw [← hg]
  obtain ⟨w, hw⟩ : ∃ w, w = (match g.b with | none => V.nils | some l => V.lst .frozen (ints .u8 l) l.length) := ⟨_, rfl⟩
  have hw' : demote w = w ∧ oneCell w = true ∧ isDef w = true ∧ cellsOf w = [w] := by
    rw [hw]; split <;> exact ⟨rfl, rfl, rfl, rfl⟩
  have hcv : cellV g = .agg [.bool g.n, .int .i64 g.i, w] := by unfold cellV; rw [hw]; cases g.b <;> rfl
  have nlo : ∀ m, ¬ objs.length + m < objs.length := fun m => by omega
  obtain ⟨w1, w2, w3, w4⟩ := hw'
  have w5 : Ab.noref objs.length w = true := by rw [hw]; cases g.b <;> simp [Ab.noref]
  have hb1 : cellV (.bad 51) = .agg [.bool false, .int .i64 0, .nils] := rfl
  have hb2 : (CG.bad 51).next = 0 := rfl
  have hb3 : (CG.bad 51).err = 51 := rfl
  rw [hC]
  refine .go _ rfl rfl ?_
  by_cases he : g.err = 0
  · cases hn : g.n with
    | true =>
      cases nl with
      | false =>
        rw [if_pos ⟨he, rfl, rfl⟩]
        simp -implicitDefEqProofs (disch := omega) [vd, c_rCGet, k_rCGet, hb, h8, ← hg, hcv, he, hn, w1, w2, w3, w4, setCells, nlo, fitC0, hb1, hb2, hb3]
      | true =>
        rw [if_neg (by simp)]
        simp -implicitDefEqProofs (disch := omega) [vd, c_rCGet, k_rCGet, hb, h8, ← hg, hcv, he, hn, w1, w2, w3, w4, w5, setCells, nlo]
    | false =>
      rw [if_neg (by simp)]
      simp -implicitDefEqProofs (disch := omega) [vd, c_rCGet, k_rCGet, hb, h8, ← hg, hcv, he, hn, w1, w2, w3, w4, w5, setCells, nlo]
  · rw [if_neg (by simp [he])]
    have he2 : (g.err == 0) = false := by simpa using he
    simp -implicitDefEqProofs (disch := omega) [vd, c_rCGet, k_rCGet, hb, h8, ← hg, hcv, he, he2, w1, w2, w3, w4, w5, setCells, nlo])

end Go.Proofs.YtnbgmclbbkfhhaaDoor.B
set_option maxRecDepth 20000
set_option maxHeartbeats 1000000
namespace Go.Proofs.YtnbgmclbbkfhhaaDoor.B
open Go Go.Ab
/-! rows that are got -/
def posG (cols : List Co) (b : List Int) (p : Int) : Nat → Int
  | 0 => p
  | n + 1 => (getC (nth cols n).k (nth cols n).n b (posG cols b p n)).next
def gcE (cols : List Co) (b : List Int) (p : Int) (i : Nat) : CG := getC (nth cols i).k (nth cols i).n b (posG cols b p i)
theorem posG_succ {cols : List Co} {b : List Int} {p : Int} {n : Nat} : posG cols b p (n + 1) = (gcE cols b p n).next := rfl
def rowGE (cols : List Co) (K : Int) (b : List Int) (p : Int) : Int := if chkR cols K = 0 then firstE (fun i => (gcE cols b p i).err) cols.length 0 else chkR cols K
def ceG (g : CG) : Ce := ⟨g.n, g.i, match g.b with | none => .nils | some l => .lst .frozen (ints .u8 l) l.length⟩
def rowG (cols : List Co) (b : List Int) (p : Int) (n : Nat) : List Ce := (List.range n).map fun i => ceG (gcE cols b p i)
theorem rowG_len {cols : List Co} {b : List Int} {p : Int} {n : Nat} : (rowG cols b p n).length = n := by simp [rowG]
theorem rowG_at {cols : List Co} {b : List Int} {p : Int} {n i : Nat} (h : i < n) : (rowG cols b p n)[i]? = some (ceG (gcE cols b p i)) := by simp [rowG, h]
theorem rowG_succ {cols : List Co} {b : List Int} {p : Int} {n : Nat} : rowG cols b p (n + 1) = rowG cols b p n ++ [ceG (gcE cols b p n)] := by simp [rowG, List.range_succ]
theorem cgetZ_ok {k : Int} {b : List Int} {p : Int} (h8 : b8 b = true) : i64B (cgetZ k b p).i = true ∧ ∀ l, (cgetZ k b p).b = some l → b8 l = true ∧ l.length ≤ 200 := by
  have bad : ∀ e, i64B (CG.bad e).i = true ∧ ∀ l, (CG.bad e).b = some l → b8 l = true ∧ l.length ≤ 200 := fun e => ⟨rfl, fun l h => by cases h⟩
  unfold cgetZ
  split
  · exact bad _
  split
  · exact bad _
  split
  · exact bad _
  split
  · exact ⟨rfl, fun l h => by cases h⟩
  obtain ⟨u, nx, e, hg⟩ : ∃ u nx e, M.getR b (p + 1) = (u, nx, e) := ⟨_, _, _, rfl⟩
  rw [hg]
  show i64B (if e ≠ 0 then CG.bad e else cgetU k b u nx).i = true ∧ ∀ l, (if e ≠ 0 then CG.bad e else cgetU k b u nx).b = some l → _
  by_cases he : e = 0
  case neg => rw [if_pos he]; exact bad _
  subst he
  rw [if_neg (by simp)]
  obtain ⟨-, -, -, -, g5, g6, -⟩ := M.getR_ok (b8_bytes h8) hg
  unfold cgetU
  split
  · split
    · exact ⟨unf_range g5 g6, fun l h => by cases h⟩
    · exact bad _
  split
  · exact bad _
  split
  · exact bad _
  split
  · exact ⟨rfl, fun l h => by cases h⟩
  · refine ⟨rfl, fun l h => ?_⟩
    cases h
    exact ⟨b8_iff.2 fun x hx => b8_iff.1 h8 x (List.mem_of_mem_drop (List.mem_of_mem_take hx)), by rw [List.length_take]; omega⟩
theorem getC_ok {k : Int} {nl : Bool} {b : List Int} {p : Int} (h8 : b8 b = true) : i64B (getC k nl b p).i = true ∧ ∀ l, (getC k nl b p).b = some l → b8 l = true ∧ l.length ≤ 200 := by
  unfold getC
  split
  · exact ⟨rfl, fun l h => by cases h⟩
  · exact cgetZ_ok h8
theorem ceG_ok {g : CG} {O : List AO} (h : i64B g.i = true ∧ ∀ l, g.b = some l → b8 l = true ∧ l.length ≤ 200) : ceOk O (ceG g) = true ∧ (ceG g).b O = g.b.getD [] := by
  obtain ⟨h1, h2⟩ := h
  cases hb : g.b with
  | none => exact ceOk_of (x := ceG g) h1 (by show ofIntsR .u8 O (match g.b with | none => _ | some l => _) = _; rw [hb]; rfl) rfl (by simp)
  | some l =>
    obtain ⟨h3, h4⟩ := h2 l hb
    exact ceOk_of (x := ceG g) h1 (by show ofIntsR .u8 O (match g.b with | none => _ | some l => _) = _; rw [hb]; exact ofIntsR_of (ofInts_lst rfl)) h3 (show l.length < _ by omega)
def GetRowP (objs : List AO) (cols : List Co) (K : Int) (b : List Int) (p : Int) (r : Rs) : Prop :=
  ∃ xv objs', r = (.tup [xv, .int .i64 (if rowGE cols K b p = 0 then posG cols b p cols.length else 0), .int .i64 (rowGE cols K b p)], some (objs', objs.length)) ∧ Old objs objs' ∧ demote xv = xv ∧ ntup xv = some xv ∧ (rowGE cols K b p ≠ 0 → xv = .nils) ∧ (rowGE cols K b p = 0 → Fresh objs objs' xv ((rowG cols b p cols.length).map (Ce.t objs)))
def p_GetRowK : List V → List AO → Rs → Prop := fun args objs r => match args with | [s, v, q] => ∀ cols K b p, schD objs s = some (cols, K) → ofInts .u8 v = some b → q = .int .i64 p → GetRowP objs cols K b p r | _ => False
noncomputable def k_GetRowK : Ab.Spec := relF (fun a o r => p_GetRowK a o r ∧ EndsW Tryd.prog (annOf [42] [] [] true [69]) T_rget 40 Tryd.f40 a o r)
noncomputable def T_GetRowK : CallF := withF T_rget 40 k_GetRowK
theorem T_GetRowK_ok : CallOk Tryd.prog T_GetRowK := con_ofW (A := annOf [42] [] [] true [69]) fit T_rget_ok (fn := Tryd.f40) (by kernel_rfl) (by kernel_rfl) (fun args objs r h0 => (relF_inv h0).2)
theorem s_GetRowK  {objs : List AO} {s v : V} {cols : List Co} {K p : Int} {b : List Int} (hsc : schD objs s = some (cols, K)) (hb : ofInts .u8 v = some b) (h8 : b8 b = true) (hbl : b.length < 140737488353000) : ∃ r, k_GetRowK [s, v, .int .i64 p] objs = some r ∧ p_GetRowK [s, v, .int .i64 p] objs r := by
  have c_schCheck : ∀ a o, T_rget 12 a o = k_schCheck a o := fun _ _ => rfl
  have c_getK : ∀ a o, T_rget 69 a o = k_getK a o := fun _ _ => rfl
  refine rel_goT _ rfl rfl ?_
  obtain ⟨cv, rfl, hv, cd, vo, vf, vc, vn, vi, hc, hl⟩ := schF hsc
  obtain ⟨vd, -⟩ := bs hb
  obtain ⟨O0, hO0⟩ : ∃ O, O = objs ++ [.cells [cv, .int .i64 K] 0] := ⟨_, rfl⟩
  have hold0 : Old objs O0 := by rw [hO0]; exact Old.ext _ _
  have b1 : Ab.getObj O0 objs.length 0 = some [cv, .int .i64 K] := by rw [hO0]; simp
  have s1 := (k_sch (schD_old hsc hold0)).1
  have goal : ∀ r, GetRowP objs cols K b p r → (match ([.agg [cv, .int .i64 K], v, .int .i64 p] : List V) with | [s, v, q] => ∀ cols K b p, schD objs s = some (cols, K) → ofInts .u8 v = some b → q = .int .i64 p → GetRowP objs cols K b p r | _ => False) := fun r h cols' K' b' p' h1 h2 h3 => by
    rw [hsc] at h1; rw [hb] at h2
    cases h1; cases h2; cases h3
    exact h
  simp -implicitDefEqProofs (disch := omega) [cd]
  rw [← hO0]
  by_cases hg : chkR cols K = 0
  case neg =>
    have hE : rowGE cols K b p = chkR cols K := if_neg hg
    obtain ⟨E, hEE⟩ : ∃ E, E = chkR cols K := ⟨_, rfl⟩
    rw [← hEE] at hg hE s1
    have hz2 : (E != 0) = true := by simpa using hg
    simp -implicitDefEqProofs (disch := omega) [b1, cd, c_schCheck, s1, hg, hz2]
    exact goal _ ⟨.nils, _, by rw [hE, if_neg hg], hold0, rfl, rfl, fun _ => rfl, fun q => absurd (hE ▸ q) hg⟩
  have hE0 : rowGE cols K b p = firstE (fun i => (gcE cols b p i).err) cols.length 0 := if_pos hg
  obtain ⟨p1, p2, p3, p4, p5⟩ := chk_pos hg
  rw [hg] at s1
  simp -implicitDefEqProofs (disch := omega) [b1, cd, c_schCheck, s1, vn]
  obtain ⟨W, hW⟩ : ∃ W, W = rowG cols b p cols.length := ⟨_, rfl⟩
  have hWl : W.length = cols.length := by rw [hW, rowG_len]
  obtain ⟨I, hI⟩ : ∃ I : Nat → St → Prop, I = (fun (i : Nat) (z : St) => z.env 1 = v ∧ z.env 2 = .int .i64 (posG cols b p i) ∧ z.env 22 = cv ∧ z.env 23 = .int .i64 cols.length ∧ z.env 24 = .int .i64 i ∧ z.low = objs.length ∧ Old objs z.objs ∧ (∀ j, j < i → (gcE cols b p j).err = 0) ∧ ∃ R, (i = 0 ∧ z.env 10 = .nils ∧ z.toks = [] ∨ 0 < i ∧ z.env 10 = .lst (.tok 0 3) (flatV ceV R) i ∧ z.toks = [i * 3]) ∧ R.length = i ∧ PartL objs z.objs W R) := ⟨_, rfl⟩
  refine .up cols.length I (by rw [hI]; exact ⟨by simp, by simp [posG], by simp, by simp, by simp, rfl, hold0, fun j hj => absurd hj (by omega), [], .inl ⟨rfl, by simp, rfl⟩, rfl, .nil⟩) ?_
  intro i z hi hz2
  rw [hI] at hz2
  obtain ⟨e1, e2, e22, e23, e24, hlo, hold, hpre, R, h10, hRl, hP⟩ := hz2
  obtain ⟨O, ho⟩ : ∃ O, O = z.objs := ⟨_, rfl⟩
  rw [← ho] at hold hP
  have ho := ho.symm
  have hfl : (flatV ceV R).length = i * 3 := by rw [flatV_len ceV_len, hRl]
  rcases Nat.lt_or_ge i cols.length with h | h
  case inr =>
    obtain rfl : i = cols.length := by omega
    rcases h10 with ⟨h10, -⟩ | ⟨-, e10, ht⟩
    · omega
    have hE1 : rowGE cols K b p = 0 := by rw [hE0]; exact firstE_none fun j _ hj => hpre j (by omega)
    simp -implicitDefEqProofs (disch := omega) [e1, e2, e22, e23, e24, e10, ht, ho, hlo]
    exact goal _ ⟨_, _, by rw [hE1]; rfl, hold, rfl, rfl, fun q => absurd hE1 q, fun _ => by rw [← hW]; exact hP.fresh (by omega) (by omega)⟩
  have ix := vi i h
  obtain ⟨g1, -⟩ := col_get (hv.old hold) h
  obtain ⟨C, hC⟩ : ∃ C, C = nth cols i := ⟨_, rfl⟩
  obtain ⟨q, hq⟩ : ∃ q, q = posG cols b p i := ⟨_, rfl⟩
  have hge : gcE cols b p i = getC C.k C.n b q := by rw [hC, hq]; rfl
  rw [← hC] at g1
  rw [← hq] at e2
  obtain ⟨nm, k, nl⟩ := C
  simp only at hge
  obtain ⟨O2, hO2⟩ : ∃ O2, O2 = O ++ [.cells [.str nm, .int .i64 k, .bool nl] 0] := ⟨_, rfl⟩
  have hO2l : O2.length = O.length + 1 := by rw [hO2]; simp
  have hOO2 : Old O O2 := by rw [hO2]; exact Old.ext _ _
  have bx : Ab.getObj O2 O.length 0 = some [.str nm, .int .i64 k, .bool nl] := by rw [hO2]; simp
  obtain ⟨r, k1, hGP⟩ := s_getK (objs := O2) (nm := nm) (k := k) (p := q) (nl := nl) hb h8 hbl
  obtain ⟨w, O3, rfl, hold3, ⟨w1, w2, w3, w4⟩, hrow, hid⟩ := hGP _ _ _ _ _ rfl hb rfl
  have hok := getC_ok (k := k) (nl := nl) (p := q) h8
  have hb51 : (getC k nl b q).err ≠ 0 → True := fun _ => trivial
  obtain ⟨g, hgg⟩ : ∃ g, g = getC k nl b q := ⟨_, rfl⟩
  rw [← hgg] at k1 hok hrow hge
  obtain ⟨O4, hO4⟩ : ∃ O4, O4 = O3 ++ [.cells [.bool g.n, .int .i64 g.i, w] 0] := ⟨_, rfl⟩
  have b4 : Ab.getObj O4 O3.length 0 = some [.bool g.n, .int .i64 g.i, w] := by rw [hO4]; simp
  have hO34 : Old O3 O4 := by rw [hO4]; exact Old.ext _ _
  have hOO4 : Old O O4 := (hOO2.trans hold3).trans hO34
  have hold4 : Old objs O4 := hold.trans hOO4
  have hO2' : O ++ [.cells [.str nm, .int .i64 k, .bool nl] 0] = O2 := hO2.symm
  have hO4' : O3 ++ [.cells [.bool g.n, .int .i64 g.i, w] 0] = O4 := hO4.symm
  have n1 : ¬ O.length < objs.length := by have := hold.1; omega
  have n2 : ¬ O2.length < objs.length := by omega
  have n3 : ¬ O3.length < objs.length := by have := hold3.1; omega
  simp only [coV] at g1
  by_cases he : g.err = 0
  case neg =>
    have hE1 : rowGE cols K b p = g.err := by
      rw [hE0, ← hge]
      exact firstE_at (f := fun i => (gcE cols b p i).err) (by show (gcE cols b p i).err ≠ 0; rw [hge]; exact he) (Nat.zero_le _) (by omega) fun m _ hm => hpre m hm
    have he2 : (g.err != 0) = true := by simpa using he
    have fin := goal (.tup [.nils, .int .i64 0, .int .i64 g.err], some (O4, objs.length)) ⟨.nils, _, by rw [hE1, if_neg he], hold4, rfl, rfl, fun _ => rfl, fun q => absurd (hE1 ▸ q) he⟩
    rcases h10 with ⟨h10, e10, ht⟩ | ⟨h10, e10, ht⟩
    · simp -implicitDefEqProofs (disch := omega) [e1, e2, e22, e23, e24, e10, ht, ho, hlo, h, ix, g1, coV, setCells, n1, n2, n3, hO2', bx, vd, c_getK, k1, w1, w2, w3, w4, hO4', b4, he, he2]
      exact fin
    · simp -implicitDefEqProofs (disch := omega) [e1, e2, e22, e23, e24, e10, ht, ho, hlo, h, ix, g1, coV, setCells, n1, n2, n3, hO2', bx, vd, c_getK, k1, w1, w2, w3, w4, hO4', b4, he, he2]
      exact fin
  have hpre2 : ∀ j, j < i + 1 → (gcE cols b p j).err = 0 := fun j hj => by
    rcases Nat.lt_or_ge j i with hj2 | hj2
    · exact hpre j hj2
    · obtain rfl : j = i := by omega
      rw [hge]; exact he
  obtain ⟨y1, y2⟩ := ceG_ok (O := objs) hok
  have hP2 := hP.snoc hOO4 hold (x := ⟨g.n, g.i, w⟩) (y := ceG g) (by rw [hRl, hW, rowG_at h, hge]) y1 rfl rfl (by rw [y2]; exact rowH_old hrow hO34) (fun k hk => by have := hid k hk; omega)
  have hs3 : flatV ceV R ++ [.bool g.n, .int .i64 g.i, w] = flatV ceV (R ++ [⟨g.n, g.i, w⟩]) := by rw [← flatV_snoc]; rfl
  have hm3 : (i * 3 + 3) = (i + 1) * 3 := by omega
  have hpn : posG cols b p (i + 1) = g.next := by rw [posG_succ, hge]
  rcases h10 with ⟨h10, e10, ht⟩ | ⟨h10, e10, ht⟩
  · have hR0 : R = [] := List.eq_nil_of_length_eq_zero (by omega)
    have hs4 : [V.bool g.n, .int .i64 g.i, w] = flatV ceV (R ++ [⟨g.n, g.i, w⟩]) := by rw [hR0]; rfl
    simp -implicitDefEqProofs (disch := omega) [e1, e2, e22, e23, e24, e10, ht, ho, hlo, h, ix, g1, coV, setCells, n1, n2, n3, hO2', bx, vd, c_getK, k1, w1, w2, w3, w4, hO4', b4, he, clit1, wrap_small]
    rw [hI]
    exact ⟨by simp [e1], by simp [hpn], by simp [e22], by simp [e23], by simp, rfl, hold4, hpre2, _, .inr ⟨by omega, by simp [hs4, h10], by simp [h10]⟩, by simp [hRl], hP2⟩
  · simp -implicitDefEqProofs (disch := omega) [e1, e2, e22, e23, e24, e10, ht, ho, hlo, h, ix, g1, coV, setCells, n1, n2, n3, hO2', bx, vd, c_getK, k1, w1, w2, w3, w4, hO4', b4, he, clit1, hfl, hs3, hm3, wrap_small]
    rw [hI]
    exact ⟨by simp [e1], by simp [hpn], by simp [e22], by simp [e23], by simp, rfl, hold4, hpre2, _, .inr ⟨by omega, by simp, by simp⟩, by simp [hRl], hP2⟩

end Go.Proofs.YtnbgmclbbkfhhaaDoor.B
set_option maxRecDepth 20000
set_option maxHeartbeats 1000000
namespace Go.Proofs.YtnbgmclbbkfhhaaDoor.B
open Go Go.Ab
noncomputable def k_rGetRow : Ab.Spec := con3 some (ofInts .u8) (ofInt .i64) fun s b p objs => match schD objs s with
  | some (cols, K) => bnd b.length 140737488353000 (if b8 b = true then some (.tup [if rowGE cols K b p = 0 then .lst (.fresh 3 false) (flatV ceV (rowG cols b p cols.length)) cols.length else .nils, .int .i64 (if rowGE cols K b p = 0 then posG cols b p cols.length else 0), .int .i64 (rowGE cols K b p)], none) else none)
  | none => none
noncomputable def T_rGetRow : CallF := withF T_GetRowK 41 k_rGetRow
theorem T_rGetRow_ok : CallOk Tryd.prog T_rGetRow := con_of (A := annOf [20,46] [] [] false []) fit T_GetRowK_ok (fn := Tryd.f41) (by kernel_rfl) (by kernel_rfl) (by
  intro args objs r h0
  have c_rSchema : ∀ a o, T_GetRowK 13 a o = k_rSchema a o := fun _ _ => rfl
  have c_rget : ∀ a o, T_GetRowK 70 a o = k_rget a o := fun _ _ => rfl
  obtain ⟨s, v, _, _, b, p, rfl, hs, hb, hp, hR⟩ := con3_inv h0
  cases hs
  obtain rfl := ofInt_inv hp
  split at hR
  case h_2 => cases hR
  rename_i cols K hsc
  obtain ⟨hbl, hR⟩ := bnd_inv hR
  split at hR
  case isFalse => cases hR
  rename_i h8
  cases hR
  obtain ⟨cv, rfl, hv, cd, vo, vf, vc, vn, vi, hc, hl⟩ := schF hsc
  obtain ⟨vd, -⟩ := bs hb
  obtain ⟨O0, hO0⟩ : ∃ O, O = objs ++ [.cells [cv, .int .i64 K] 0] := ⟨_, rfl⟩
  have hold0 : Old objs O0 := by rw [hO0]; exact Old.ext _ _
  have b1 : Ab.getObj O0 objs.length 0 = some [cv, .int .i64 K] := by rw [hO0]; simp
  have s1 := (k_sch (schD_old hsc hold0)).2
  obtain ⟨E0, hE0'⟩ : ∃ E0, E0 = rowGE cols K b p := ⟨_, rfl⟩
  rw [← hE0']
  refine .go _ rfl rfl ?_
  simp -implicitDefEqProofs (disch := omega) [cd]
  rw [← hO0]
  by_cases hg : chkR cols K = 0
  case neg =>
    have hE : E0 = chkR cols K := by rw [hE0']; exact if_neg hg
    obtain ⟨E, hEE⟩ : ∃ E, E = chkR cols K := ⟨_, rfl⟩
    rw [← hEE] at hg hE s1
    rw [hE]
    have hz2 : (E != 0) = true := by simpa using hg
    simp -implicitDefEqProofs (disch := omega) [b1, cd, c_rSchema, s1, hg, hz2]
  have hE0 : E0 = firstE (fun i => (gcE cols b p i).err) cols.length 0 := by rw [hE0']; exact if_pos hg
  obtain ⟨p1, p2, p3, p4, p5⟩ := chk_pos hg
  rw [hg] at s1
  simp -implicitDefEqProofs (disch := omega) [b1, cd, c_rSchema, s1, clit0]
  obtain ⟨I, hI⟩ : ∃ I : Nat → St → Prop, I = (fun (i : Nat) (z : St) => z.env 1 = v ∧ z.env 2 = .int .i64 (posG cols b p i) ∧ z.env 3 = .ptr objs.length 0 0 ∧ z.env 11 = .int .i64 i ∧ z.low = objs.length ∧ Old objs z.objs ∧ Ab.getObj z.objs objs.length 0 = some [cv, .int .i64 K] ∧ (∀ j, j < i → (gcE cols b p j).err = 0) ∧ z.toks = [i * 3] ∧ z.env 10 = .lst (.tok 0 3) (flatV ceV (rowG cols b p i)) i) := ⟨_, rfl⟩
  refine .up cols.length I (by rw [hI]; exact ⟨by simp, by simp [posG], by simp, by simp, rfl, hold0, b1, fun j hj => absurd hj (by omega), rfl, by simp [rowG, flatV]⟩) ?_
  intro i z hi hz2
  rw [hI] at hz2
  obtain ⟨e1, e2, e3, e11, hlo, hold, bO, hpre, ht, e10⟩ := hz2
  obtain ⟨O, ho⟩ : ∃ O, O = z.objs := ⟨_, rfl⟩
  rw [← ho] at hold bO
  have ho := ho.symm
  have hfl : (flatV ceV (rowG cols b p i)).length = i * 3 := by rw [flatV_len ceV_len, rowG_len]
  have hOl := getObj_lt bO
  rcases Nat.lt_or_ge i cols.length with h | h
  case inr =>
    obtain rfl : i = cols.length := by omega
    have hE1 : E0 = 0 := by rw [hE0]; exact firstE_none fun j _ hj => hpre j (by omega)
    have hrf : norefs objs.length (flatV ceV (rowG cols b p cols.length)) = true := norefs_iff.2 fun u hu => by
      obtain ⟨x, hx, h⟩ := List.mem_flatMap.1 hu
      obtain ⟨j, -, rfl⟩ := List.mem_map.1 hx
      simp only [ceV, ceG, List.mem_cons, List.not_mem_nil, or_false] at h
      rcases h with rfl | rfl | rfl
      · rfl
      · rfl
      · split <;> simp [Ab.noref]
    simp -implicitDefEqProofs (disch := omega) [e1, e2, e3, e11, e10, ht, ho, hlo, bO, vn, cd, hE1, hfl, hrf]
  have ix := vi i h
  obtain ⟨g1, -⟩ := col_get (hv.old hold) h
  obtain ⟨C, hC⟩ : ∃ C, C = nth cols i := ⟨_, rfl⟩
  obtain ⟨q, hq⟩ : ∃ q, q = posG cols b p i := ⟨_, rfl⟩
  have hge : gcE cols b p i = getC C.k C.n b q := by rw [hC, hq]; rfl
  rw [← hC] at g1
  rw [← hq] at e2
  obtain ⟨nm, k, nl⟩ := C
  simp only at hge
  obtain ⟨g, hgg⟩ : ∃ g, g = getC k nl b q := ⟨_, rfl⟩
  rw [← hgg] at hge
  obtain ⟨w, hw⟩ : ∃ w, w = (ceG g).v := ⟨_, rfl⟩
  have hw' : demote w = w ∧ oneCell w = true ∧ isDef w = true ∧ cellsOf w = [w] := by
    rw [hw]; unfold ceG; cases g.b <;> exact ⟨rfl, rfl, rfl, rfl⟩
  obtain ⟨w1, w2, w3, w4⟩ := hw'
  have hcv : cellV g = .agg [.bool g.n, .int .i64 g.i, w] := by rw [hw]; unfold cellV ceG; cases g.b <;> rfl
  obtain ⟨O4, hO4⟩ : ∃ O4, O4 = O ++ [.cells [.bool g.n, .int .i64 g.i, w] 0] := ⟨_, rfl⟩
  have b4 : Ab.getObj O4 O.length 0 = some [.bool g.n, .int .i64 g.i, w] := by rw [hO4]; simp
  have hO4' : O ++ [.cells [.bool g.n, .int .i64 g.i, w] 0] = O4 := hO4.symm
  have hOO4 : Old O O4 := by rw [hO4]; exact Old.ext _ _
  have bO4 : Ab.getObj O4 objs.length 0 = some [cv, .int .i64 K] := by rw [hOO4.2 _ _ hOl]; exact bO
  have n1 : ¬ O.length < objs.length := by have := hold.1; omega
  simp only [coV] at g1
  by_cases he : g.err = 0
  case neg =>
    have hE1 : E0 = g.err := by
      rw [hE0, ← hge]
      exact firstE_at (f := fun i => (gcE cols b p i).err) (by show (gcE cols b p i).err ≠ 0; rw [hge]; exact he) (Nat.zero_le _) (by omega) fun m _ hm => hpre m hm
    have he2 : (g.err != 0) = true := by simpa using he
    rw [hE1]
    simp -implicitDefEqProofs (disch := omega) [e1, e2, e3, e11, e10, ht, ho, hlo, h, bO, vn, cd, ix, g1, coV, setCells, n1, vd, c_rget, k_rget, hb, h8, ← hgg, hcv, w1, w2, w3, w4, hO4', b4, he, he2]
  have hpre2 : ∀ j, j < i + 1 → (gcE cols b p j).err = 0 := fun j hj => by
    rcases Nat.lt_or_ge j i with hj2 | hj2
    · exact hpre j hj2
    · obtain rfl : j = i := by omega
      rw [hge]; exact he
  have hs3 : flatV ceV (rowG cols b p i) ++ [.bool g.n, .int .i64 g.i, w] = flatV ceV (rowG cols b p (i + 1)) := by rw [rowG_succ, hge, ← flatV_snoc, hw]; rfl
  have hm3 : (i * 3 + 3) = (i + 1) * 3 := by omega
  have hpn : posG cols b p (i + 1) = g.next := by rw [posG_succ, hge]
  simp -implicitDefEqProofs (disch := omega) [e1, e2, e3, e11, e10, ht, ho, hlo, h, bO, vn, cd, ix, g1, coV, setCells, n1, vd, c_rget, k_rget, hb, h8, ← hgg, hcv, w1, w2, w3, w4, hO4', b4, he, clit1, hfl, hs3, hm3, wrap_small]
  rw [hI]
  exact ⟨by simp [e1], by simp [hpn], by simp [e3], by simp, rfl, hold.trans hOO4, bO4, hpre2, by simp, by simp⟩)

end Go.Proofs.YtnbgmclbbkfhhaaDoor.B
set_option maxRecDepth 20000
set_option maxHeartbeats 1000000
namespace Go.Proofs.YtnbgmclbbkfhhaaDoor.B
open Go Go.Ab
/-! sets that are got -/
def sgC (cols : List Co) (b : List Int) (p : Int) : CG := getC (nth cols (M.getR b p).1.toNat).k (nth cols (M.getR b p).1.toNat).n b (M.getR b p).2.1
def sgE (cols : List Co) (b : List Int) (p l : Int) : Int := if (M.getR b p).2.2 ≠ 0 then (M.getR b p).2.2 else if (M.getR b p).1 ≤ l ∨ (cols.length : Int) ≤ (M.getR b p).1 then 61 else (sgC cols b p).err
def posS (cols : List Co) (b : List Int) (p : Int) : Nat → Int
  | 0 => p
  | n + 1 => (sgC cols b (posS cols b p n)).next
def lastS (cols : List Co) (b : List Int) (p l : Int) : Nat → Int
  | 0 => l
  | n + 1 => (M.getR b (posS cols b p n)).1
theorem posS_succ {cols : List Co} {b : List Int} {p : Int} {n : Nat} : posS cols b p (n + 1) = (sgC cols b (posS cols b p n)).next := rfl
theorem lastS_succ {cols : List Co} {b : List Int} {p l : Int} {n : Nat} : lastS cols b p l (n + 1) = (M.getR b (posS cols b p n)).1 := rfl
def setsN (b : List Int) (p : Int) : Int := (M.getR b p).1
def setsP (b : List Int) (p : Int) : Int := (M.getR b p).2.1
def sE (cols : List Co) (K : Int) (b : List Int) (p : Int) (i : Nat) : Int := sgE cols b (posS cols b (setsP b p) i) (lastS cols b (setsP b p) (K - 1) i)
def setsGE (cols : List Co) (K : Int) (b : List Int) (p : Int) : Int :=
  if chkR cols K = 0 then (if (M.getR b p).2.2 ≠ 0 then (M.getR b p).2.2 else if setsN b p < 1 ∨ setsN b p > 12 then 61 else firstE (sE cols K b p) (setsN b p).toNat 0) else chkR cols K
def sU (cols : List Co) (b : List Int) (p : Int) (i : Nat) : Int := (M.getR b (posS cols b (setsP b p) i)).1
def sW (cols : List Co) (b : List Int) (p : Int) (i : Nat) : CG := sgC cols b (posS cols b (setsP b p) i)
def setsG (cols : List Co) (b : List Int) (p : Int) (n : Nat) : List Se := (List.range n).map fun i => ⟨sU cols b p i, ceG (sW cols b p i)⟩
theorem sE_zero {cols : List Co} {K : Int} {b : List Int} {p : Int} {i : Nat} (h : sE cols K b p i = 0) : (M.getR b (posS cols b (setsP b p) i)).2.2 = 0 ∧ lastS cols b (setsP b p) (K - 1) i < sU cols b p i ∧ sU cols b p i < cols.length ∧ (sW cols b p i).err = 0 := by
  unfold sE sgE at h
  split at h
  · rename_i h1; exact absurd h h1
  rename_i h1
  split at h
  · cases h
  rename_i h2
  unfold sU sW
  exact ⟨by omega, by omega, by omega, h⟩
theorem last_ge {cols : List Co} {K : Int} {b : List Int} {p : Int} : ∀ {i : Nat}, (∀ j, j < i → sE cols K b p j = 0) → K - 1 ≤ lastS cols b (setsP b p) (K - 1) i ∧ (0 < i → K ≤ lastS cols b (setsP b p) (K - 1) i)
  | 0, _ => ⟨by show K - 1 ≤ K - 1; omega, fun h => by omega⟩
  | i + 1, h => by
    have ih := last_ge (i := i) fun j hj => h j (by omega)
    have := (sE_zero (h i (by omega))).2.1
    rw [lastS_succ]
    unfold sU at this
    omega
/-- Cells beside numbers. -/
def mkS (U : Nat → Int) (R : List Ce) : List Se := (List.range R.length).map fun i => ⟨U i, nth R i⟩
theorem mkS_len {U : Nat → Int} {R : List Ce} : (mkS U R).length = R.length := by simp [mkS]
theorem mkS_at {U : Nat → Int} {R : List Ce} {i : Nat} (h : i < R.length) : nth (mkS U R) i = ⟨U i, nth R i⟩ := by
  unfold mkS
  rw [nth_map (by simpa using h)]
  have : nth (List.range R.length) i = i := by rw [nth_lt (by simpa using h)]; simp
  rw [this]
theorem mkS_snoc {U : Nat → Int} {R : List Ce} {x : Ce} : mkS U (R ++ [x]) = mkS U R ++ [⟨U R.length, x⟩] := by
  unfold mkS
  rw [List.length_append, List.length_singleton, List.range_succ, List.map_append]
  congr 1
  · refine List.map_congr_left fun i hi => ?_
    rw [List.mem_range] at hi
    rw [nth_app_l hi]
  · show [(⟨U R.length, nth (R ++ [x]) R.length⟩ : Se)] = [⟨U R.length, x⟩]
    rw [nth_app_r (Nat.le_refl _), Nat.sub_self]; rfl
theorem mkS_v {U : Nat → Int} {R : List Ce} : (mkS U R).map (·.x.v) = R.map (·.v) := by
  refine ext_nth (by simp [mkS]) fun j hj => ?_
  rw [List.length_map, mkS_len] at hj
  rw [nth_map (by rw [mkS_len]; exact hj), nth_map hj, mkS_at hj]
structure FreshS (objs objs' : List AO) (xv : V) (want : List (Int × Bool × Int × List Int)) : Prop where
  rows : ∃ out, setsR objs' xv = some out ∧ out.map (Se.t objs') = want ∧ Held objs' (out.map (·.x.v)) (want.map fun p => p.2.2.2) ∧ ∀ v ∈ out.map (·.x.v), ∀ id, idOf v = some id → objs.length ≤ id
theorem PartL.freshS {objs O : List AO} {W R : List Ce} {U : Nat → Int} (h : PartL objs O W R) (hl : R.length = W.length) {n : Nat} (hn : n = R.length) (hU : ∀ i, i < n → i64B (U i) = true) : FreshS objs O (.lst .frozen (flatV seV (mkS U R)) n) ((mkS U W).map (Se.t objs)) := by
  have hm : n = (mkS U R).length := by rw [mkS_len, hn]
  refine ⟨mkS U R, ?_, ?_, ?_, ?_⟩
  · rw [hm]
    refine recR_lst seV_len fun x hx => ?_
    obtain ⟨j, hj, rfl⟩ := List.getElem_of_mem hx
    have hj2 := hj
    rw [mkS_len] at hj
    rw [← nth_lt hj2, mkS_at hj]
    refine seD_ok.2 ?_
    unfold seOk
    simp only
    rw [hU j (by omega), h.ok _ (nth_mem hj)]; rfl
  · refine ext_nth (by simp [mkS_len, hl]) fun j hj => ?_
    rw [List.length_map, mkS_len] at hj
    rw [nth_map (by rw [mkS_len]; exact hj), nth_map (by rw [mkS_len]; omega), mkS_at hj, mkS_at (by omega)]
    have this : nth (R.map (Ce.t O)) j = nth (W.map (Ce.t objs)) j := congrArg (fun l => nth l j) (h.t hl)
    rw [nth_map hj, nth_map (by omega)] at this
    unfold Se.t
    simp only
    rw [this]
  · rw [mkS_v]
    have := h.held hl
    have e : ((mkS U W).map (Se.t objs)).map (fun p => p.2.2.2) = (W.map (Ce.t objs)).map fun p => p.2.2 := by
      refine ext_nth (by simp [mkS_len]) fun j hj => ?_
      simp only [List.length_map, mkS_len] at hj
      rw [nth_map (by simpa [mkS_len] using hj), nth_map (by rw [mkS_len]; exact hj), nth_map (by simpa using hj), nth_map hj, mkS_at hj]; rfl
    rw [e]; exact this
  · rw [mkS_v]; exact h.ids
theorem setsG_eq {cols : List Co} {b : List Int} {p : Int} {n : Nat} : setsG cols b p n = mkS (sU cols b p) ((List.range n).map fun i => ceG (sW cols b p i)) := by
  refine ext_nth (by simp [setsG, mkS_len]) fun j hj => ?_
  have hj' : j < n := by simpa [setsG] using hj
  rw [mkS_at (by simpa using hj')]
  unfold setsG
  have e : nth (List.range n) j = j := by rw [nth_lt (by simpa using hj')]; simp
  rw [nth_map (by simpa using hj'), nth_map (by simpa using hj'), e]

end Go.Proofs.YtnbgmclbbkfhhaaDoor.B
