import Derived.Test.YtnbgmclbbkfhhaaDoorGeA
set_option linter.unusedSimpArgs false
set_option linter.unusedVariables false
set_option linter.unusedSectionVars false
set_option maxRecDepth 20000
set_option maxHeartbeats 1000000
namespace Go.Proofs.YtnbgmclbbkfhhaaDoor.B
open Go Go.Ab
def GetSetsP (objs : List AO) (cols : List Co) (K : Int) (b : List Int) (p : Int) (r : Rs) : Prop :=
  ∃ xv objs', r = (.tup [xv, .int .i64 (if setsGE cols K b p = 0 then posS cols b (setsP b p) (setsN b p).toNat else 0), .int .i64 (setsGE cols K b p)], some (objs', objs.length)) ∧ Old objs objs' ∧ demote xv = xv ∧ ntup xv = some xv ∧ (setsGE cols K b p ≠ 0 → xv = .nils) ∧ (setsGE cols K b p = 0 → FreshS objs objs' xv ((setsG cols b p (setsN b p).toNat).map (Se.t objs)))
theorem slit2 (x a b c : V) (hx : isDef x = true) (hx' : cellsOf x = [x]) : listV Tryd.prog 26 1 [(0, .agg [x, a, b, c])] = some ([x, a, b, c], 4) := slit1 x a b c
def p_GetSetsK : List V → List AO → Rs → Prop := fun args objs r => match args with | [s, v, q] => ∀ cols K b p, schD objs s = some (cols, K) → ofInts .u8 v = some b → q = .int .i64 p → GetSetsP objs cols K b p r | _ => False
noncomputable def k_GetSetsK : Ab.Spec := relF (fun a o r => p_GetSetsK a o r ∧ EndsW Tryd.prog (annOf [84] [] [] true [69]) T_rGetRow 42 Tryd.f42 a o r)
noncomputable def T_GetSetsK : CallF := withF T_rGetRow 42 k_GetSetsK
theorem T_GetSetsK_ok : CallOk Tryd.prog T_GetSetsK := con_ofW (A := annOf [84] [] [] true [69]) fit T_rGetRow_ok (fn := Tryd.f42) (by kernel_rfl) (by kernel_rfl) (fun args objs r h0 => (relF_inv h0).2)
theorem s_GetSetsK  {objs : List AO} {s v : V} {cols : List Co} {K p : Int} {b : List Int} (hsc : schD objs s = some (cols, K)) (hb : ofInts .u8 v = some b) (h8 : b8 b = true) (hbl : b.length < 140737488353000) : ∃ r, k_GetSetsK [s, v, .int .i64 p] objs = some r ∧ p_GetSetsK [s, v, .int .i64 p] objs r := by
  have c_schCheck : ∀ a o, T_rGetRow 12 a o = k_schCheck a o := fun _ _ => rfl
  have c_getK : ∀ a o, T_rGetRow 69 a o = k_getK a o := fun _ _ => rfl
  have c_VGet : ∀ a o, T_rGetRow 71 a o = k_VGet a o := fun _ _ => rfl
  have c_misplaced : ∀ a o, T_rGetRow 56 a o = k_misplaced a o := fun _ _ => rfl
  refine rel_goT _ rfl rfl ?_
  obtain ⟨cv, rfl, hv, cd, vo, vf, vc, vn, vi, hc, hl⟩ := schF hsc
  obtain ⟨vd, -⟩ := bs hb
  obtain ⟨O0, hO0⟩ : ∃ O, O = objs ++ [.cells [cv, .int .i64 K] 0] := ⟨_, rfl⟩
  have hold0 : Old objs O0 := by rw [hO0]; exact Old.ext _ _
  have b1 : Ab.getObj O0 objs.length 0 = some [cv, .int .i64 K] := by rw [hO0]; simp
  have s1 := (k_sch (schD_old hsc hold0)).1
  have goal : ∀ r, GetSetsP objs cols K b p r → (match ([.agg [cv, .int .i64 K], v, .int .i64 p] : List V) with | [s, v, q] => ∀ cols K b p, schD objs s = some (cols, K) → ofInts .u8 v = some b → q = .int .i64 p → GetSetsP objs cols K b p r | _ => False) := fun r h cols' K' b' p' h1 h2 h3 => by
    rw [hsc] at h1; rw [hb] at h2
    cases h1; cases h2; cases h3
    exact h
  have gv : ∀ a, getVR b a = some (.tup [.int .u64 (M.getR b a).1, .int .i64 (M.getR b a).2.1, .int .i64 (M.getR b a).2.2], none) := fun a => rfl
  simp -implicitDefEqProofs (disch := omega) [cd]
  rw [← hO0]
  have bad : ∀ (O : List AO) (E : Int), Old objs O → setsGE cols K b p = E → E ≠ 0 → GetSetsP objs cols K b p (.tup [.nils, .int .i64 0, .int .i64 E], some (O, objs.length)) := fun O E ho hE hn => ⟨.nils, _, by rw [hE, if_neg hn], ho, rfl, rfl, fun _ => rfl, fun q => absurd (hE ▸ q) hn⟩
  by_cases hg : chkR cols K = 0
  case neg =>
    have hE : setsGE cols K b p = chkR cols K := if_neg hg
    obtain ⟨E, hEE⟩ : ∃ E, E = chkR cols K := ⟨_, rfl⟩
    rw [← hEE] at hg hE s1
    have hz2 : (E != 0) = true := by simpa using hg
    simp -implicitDefEqProofs (disch := omega) [b1, cd, c_schCheck, s1, hg, hz2]
    exact goal _ (bad _ _ hold0 hE hg)
  have hE0 : setsGE cols K b p = if (M.getR b p).2.2 ≠ 0 then (M.getR b p).2.2 else if setsN b p < 1 ∨ setsN b p > 12 then 61 else firstE (sE cols K b p) (setsN b p).toNat 0 := if_pos hg
  obtain ⟨p1, p2, p3, p4, p5⟩ := chk_pos hg
  rw [hg] at s1
  have hsN : setsN b p = (M.getR b p).1 := rfl
  have hsP : setsP b p = (M.getR b p).2.1 := rfl
  have gv0 := gv p
  obtain ⟨cnt, P1, e0, hh⟩ : ∃ u n e, M.getR b p = (u, n, e) := ⟨_, _, _, rfl⟩
  rw [hh] at hE0 hsN hsP gv0
  simp only at hE0 hsN hsP gv0
  by_cases he0 : e0 = 0
  case neg =>
    rw [if_pos he0] at hE0
    have hz2 : (e0 != 0) = true := by simpa using he0
    simp -implicitDefEqProofs (disch := omega) [b1, cd, c_schCheck, s1, vd, c_VGet, k_VGet, hb, h8, gv0, he0, hz2]
    exact goal _ (bad _ _ hold0 hE0 he0)
  subst he0
  rw [if_neg (by simp), hsN] at hE0
  obtain ⟨-, -, -, -, c0, c1, -⟩ := M.getR_ok (b8_bytes h8) hh
  obtain ⟨n, rfl⟩ := Int.eq_ofNat_of_zero_le c0
  by_cases hn0 : n = 0
  · subst hn0
    rw [if_pos (by omega)] at hE0
    simp -implicitDefEqProofs (disch := omega) [b1, cd, c_schCheck, s1, vd, c_VGet, k_VGet, hb, h8, gv0]
    exact goal _ (bad _ _ hold0 hE0 (by decide))
  have hn0' : ((n : Int) == 0) = false := by simpa using hn0
  by_cases hn12 : 12 < n
  · rw [if_pos (by omega)] at hE0
    simp -implicitDefEqProofs (disch := omega) [b1, cd, c_schCheck, s1, vd, c_VGet, k_VGet, hb, h8, gv0, hn0, hn0', hn12]
    exact goal _ (bad _ _ hold0 hE0 (by decide))
  rw [if_neg (by omega), Int.toNat_natCast] at hE0
  simp -implicitDefEqProofs (disch := omega) [b1, cd, c_schCheck, s1, vd, c_VGet, k_VGet, hb, h8, gv0, hn0, hn0', hn12]
  obtain ⟨W, hW⟩ : ∃ W, W = (List.range n).map fun i => ceG (sW cols b p i) := ⟨_, rfl⟩
  have hWl : W.length = n := by rw [hW]; simp
  have hWat : ∀ i, i < n → W[i]? = some (ceG (sW cols b p i)) := fun i hi => by rw [hW]; simp [hi]
  obtain ⟨L, hL⟩ : ∃ L : Nat → Int, L = fun i => if i = 0 then -1 else lastS cols b (setsP b p) (K - 1) i := ⟨_, rfl⟩
  obtain ⟨I, hI⟩ : ∃ I : Nat → St → Prop, I = (fun (i : Nat) (z : St) => z.env 1 = v ∧ z.env 2 = .int .i64 (posS cols b (setsP b p) i) ∧ z.env 3 = .ptr objs.length 0 0 ∧ z.env 13 = .int .i64 (L i) ∧ z.env 41 = .int .u64 n ∧ z.env 42 = .int .u64 i ∧ z.low = objs.length ∧ Old objs z.objs ∧ Ab.getObj z.objs objs.length 0 = some [cv, .int .i64 K] ∧ (∀ j, j < i → sE cols K b p j = 0) ∧ ∃ R, (i = 0 ∧ z.env 12 = .nils ∧ z.toks = [] ∨ 0 < i ∧ z.env 12 = .lst (.tok 0 4) (flatV seV (mkS (sU cols b p) R)) i ∧ z.toks = [i * 4]) ∧ R.length = i ∧ PartL objs z.objs W R) := ⟨_, rfl⟩
  refine .up n I (by rw [hI]; exact ⟨by simp, by simp [posS, hsP], by simp, by simp [hL], by simp, by simp, rfl, hold0, b1, fun j hj => absurd hj (by omega), [], .inl ⟨rfl, by simp, rfl⟩, rfl, .nil⟩) ?_
  intro i z hi hz2
  rw [hI] at hz2
  obtain ⟨e1, e2, e3, e13, e41, e42, hlo, hold, bO, hpre, R, h12, hRl, hP⟩ := hz2
  obtain ⟨O, ho⟩ : ∃ O, O = z.objs := ⟨_, rfl⟩
  rw [← ho] at hold hP bO
  have ho := ho.symm
  have hOl := getObj_lt bO
  have hfl : (flatV seV (mkS (sU cols b p) R)).length = i * 4 := by rw [flatV_len seV_len, mkS_len, hRl]
  have hUlt : ∀ j, j < i → sU cols b p j < cols.length := fun j hj => (sE_zero (hpre j hj)).2.2.1
  have hUge : ∀ j, 0 ≤ sU cols b p j ∨ (M.getR b (posS cols b (setsP b p) j)).2.2 ≠ 0 := fun j => by
    by_cases q : (M.getR b (posS cols b (setsP b p) j)).2.2 = 0
    · left
      obtain ⟨u, nx, e, hu⟩ : ∃ u nx e, M.getR b (posS cols b (setsP b p) j) = (u, nx, e) := ⟨_, _, _, rfl⟩
      rw [hu] at q
      simp only at q
      subst q
      obtain ⟨-, -, -, -, g5, -, -⟩ := M.getR_ok (b8_bytes h8) hu
      unfold sU; rw [hu]; exact g5
    · exact .inr q
  rcases Nat.lt_or_ge i n with h | h
  case inr =>
    obtain rfl : i = n := by omega
    rcases h12 with ⟨h12, -⟩ | ⟨-, e12, ht⟩
    · omega
    have hE1 : setsGE cols K b p = 0 := by rw [hE0]; exact firstE_none fun j _ hj => hpre j (by omega)
    simp -implicitDefEqProofs (disch := omega) [e1, e2, e3, e13, e41, e42, e12, ht, ho, hlo]
    refine goal _ ⟨_, _, by rw [hE1, hsN, Int.toNat_natCast]; rfl, hold, rfl, rfl, fun q => absurd hE1 q, fun _ => ?_⟩
    rw [hsN, Int.toNat_natCast, setsG_eq, ← hW]
    exact hP.freshS (by omega) (by omega) fun j hj => i64B_iff.2 (by
      have h1 := hUlt j hj
      have h2 := (hUge j).resolve_right fun q => q (sE_zero (hpre j hj)).1
      omega)
  obtain ⟨q, hq⟩ : ∃ q, q = posS cols b (setsP b p) i := ⟨_, rfl⟩
  have gvq := gv q
  have hsEi : sE cols K b p i = sgE cols b q (lastS cols b (setsP b p) (K - 1) i) := by rw [hq]; rfl
  have hsUi : sU cols b p i = (M.getR b q).1 := by rw [hq]; rfl
  have hsWi : sW cols b p i = sgC cols b q := by rw [hq]; rfl
  have hpn : posS cols b (setsP b p) (i + 1) = (sgC cols b q).next := by rw [posS_succ, hq]
  have hln : L (i + 1) = (M.getR b q).1 := by rw [hL]; simp only; rw [if_neg (by omega), lastS_succ, hq]
  rw [← hq] at e2
  obtain ⟨hl1, hl2⟩ := last_ge hpre
  have hLl : lastS cols b (setsP b p) (K - 1) i = if i = 0 then K - 1 else L i := by
    rw [hL]; simp only
    by_cases q : i = 0
    · rw [if_pos q, q]; rfl
    · rw [if_neg q, if_neg q]
  have hL0 : i = 0 → L i = -1 := fun q => by rw [hL]; exact if_pos q
  obtain ⟨ll, hll⟩ : ∃ ll, ll = lastS cols b (setsP b p) (K - 1) i := ⟨_, rfl⟩
  obtain ⟨la, hla⟩ : ∃ la, la = L i := ⟨_, rfl⟩
  rw [← hll] at hsEi hl1 hl2 hLl
  rw [← hla] at hLl e13 hL0
  have hbadE : ∀ E, sE cols K b p i = E → E ≠ 0 → setsGE cols K b p = E := fun E h1 h2 => by
    rw [hE0, ← h1]
    exact firstE_at (f := sE cols K b p) (by rw [h1]; exact h2) (Nat.zero_le _) (by omega) fun m _ hm => hpre m hm
  unfold sgE sgC at hsEi
  unfold sgC at hsWi hpn
  obtain ⟨u, nx, e, hu⟩ : ∃ u nx e, M.getR b q = (u, nx, e) := ⟨_, _, _, rfl⟩
  rw [hu] at gvq hsEi hsUi hsWi hpn hln
  simp only at gvq hsEi hsUi hsWi hpn hln
  have wi1 : IntKind.u64.wrap ((i : Int) + 1) = (i : Int) + 1 := wrap_u64 (by omega) (by omega)
  by_cases he : e = 0
  case neg =>
    rw [if_pos he] at hsEi
    have hz2 : (e != 0) = true := by simpa using he
    have fin := goal _ (bad O _ hold (hbadE _ hsEi he) he)
    rcases h12 with ⟨h12, e12, ht⟩ | ⟨h12, e12, ht⟩
    · simp -implicitDefEqProofs (disch := omega) [e1, e2, e3, e13, e41, e42, e12, ht, ho, hlo, h, vd, c_VGet, k_VGet, hb, h8, gvq, he, hz2]
      exact fin
    · simp -implicitDefEqProofs (disch := omega) [e1, e2, e3, e13, e41, e42, e12, ht, ho, hlo, h, vd, c_VGet, k_VGet, hb, h8, gvq, he, hz2]
      exact fin
  subst he
  rw [if_neg (by simp)] at hsEi
  obtain ⟨-, -, -, -, u0, u1, -⟩ := M.getR_ok (b8_bytes h8) hu
  obtain ⟨m, rfl⟩ := Int.eq_ofNat_of_zero_le u0
  rw [Int.toNat_natCast] at hsEi hsWi hpn
  have hkm : k_misplaced [.agg [cv, .int .i64 K], .int .i64 la, .int .i64 m] O = some (.bool (misB cols K la m), none) := by simp [k_misplaced, schD_old hsc hold]
  by_cases h61 : (m : Int) ≤ ll ∨ (cols.length : Int) ≤ m
  · rw [if_pos h61] at hsEi
    have fin := goal _ (bad O _ hold (hbadE _ hsEi (by decide)) (by decide))
    by_cases hm12 : 12 ≤ m
    · rcases h12 with ⟨h12, e12, ht⟩ | ⟨h12, e12, ht⟩
      · simp -implicitDefEqProofs (disch := omega) [e1, e2, e3, e13, e41, e42, e12, ht, ho, hlo, h, vd, c_VGet, k_VGet, hb, h8, gvq, hm12]
        exact fin
      · simp -implicitDefEqProofs (disch := omega) [e1, e2, e3, e13, e41, e42, e12, ht, ho, hlo, h, vd, c_VGet, k_VGet, hb, h8, gvq, hm12]
        exact fin
    · have hmis : misB cols K la m = true := decide_eq_true (by
        by_cases q : i = 0
        · rw [if_pos q] at hLl; omega
        · rw [if_neg q] at hLl; omega)
      rw [hmis] at hkm
      have wm : IntKind.i64.wrap (m : Int) = m := wrap_small (by omega) (by omega)
      rcases h12 with ⟨h12, e12, ht⟩ | ⟨h12, e12, ht⟩
      · simp -implicitDefEqProofs (disch := omega) [e1, e2, e3, e13, e41, e42, e12, ht, ho, hlo, h, vd, c_VGet, k_VGet, hb, h8, gvq, hm12, bO, cd, convV, wm, c_misplaced, hkm]
        exact fin
      · simp -implicitDefEqProofs (disch := omega) [e1, e2, e3, e13, e41, e42, e12, ht, ho, hlo, h, vd, c_VGet, k_VGet, hb, h8, gvq, hm12, bO, cd, convV, wm, c_misplaced, hkm]
        exact fin
  rw [if_neg h61] at hsEi
  have hml : m < cols.length := by omega
  have hm12 : ¬ 12 ≤ m := by omega
  have hmis : misB cols K la m = false := decide_eq_false (by
    by_cases q : i = 0
    · have := hL0 q
      rw [if_pos q] at hLl; omega
    · have := hl2 (by omega)
      rw [if_neg q] at hLl; omega)
  rw [hmis] at hkm
  have wm : IntKind.i64.wrap (m : Int) = m := wrap_small (by omega) (by omega)
  have ix := hv.idx (P := Tryd.prog) u22 z89 .u64 m (by omega) (by omega)
  rw [Int.toNat_natCast] at ix
  obtain ⟨g1, -⟩ := col_get (hv.old hold) hml
  obtain ⟨C, hC⟩ : ∃ C, C = nth cols m := ⟨_, rfl⟩
  rw [← hC] at g1 hsEi hsWi hpn
  obtain ⟨nm, k, nl⟩ := C
  simp only at hsEi hsWi hpn
  obtain ⟨r, k1, hGP⟩ := s_getK (objs := O) (nm := nm) (k := k) (p := nx) (nl := nl) hb h8 hbl
  obtain ⟨w, O3, rfl, hold3, ⟨w1, w2, w3, w4⟩, hrow, hid⟩ := hGP _ _ _ _ _ rfl hb rfl
  have hok := getC_ok (k := k) (nl := nl) (p := nx) h8
  obtain ⟨g, hgg⟩ : ∃ g, g = getC k nl b nx := ⟨_, rfl⟩
  rw [← hgg] at k1 hok hrow hsEi hsWi hpn
  obtain ⟨O4, hO4⟩ : ∃ O4, O4 = O3 ++ [.cells [.bool g.n, .int .i64 g.i, w] 0] := ⟨_, rfl⟩
  have b4 : Ab.getObj O4 O3.length 0 = some [.bool g.n, .int .i64 g.i, w] := by rw [hO4]; simp
  have hO34 : Old O3 O4 := by rw [hO4]; exact Old.ext _ _
  have hOO4 : Old O O4 := hold3.trans hO34
  have hold4 : Old objs O4 := hold.trans hOO4
  have bO4 : Ab.getObj O4 objs.length 0 = some [cv, .int .i64 K] := by rw [hOO4.2 _ _ hOl]; exact bO
  have hO4' : O3 ++ [.cells [.bool g.n, .int .i64 g.i, w] 0] = O4 := hO4.symm
  have n1 : ¬ O.length < objs.length := by have := hold.1; omega
  have n3 : ¬ O3.length < objs.length := by have := hold3.1; omega
  simp only [coV] at g1
  by_cases hge : g.err = 0
  case neg =>
    have hz2 : (g.err != 0) = true := by simpa using hge
    have fin := goal _ (bad O4 _ hold4 (hbadE _ hsEi hge) hge)
    rcases h12 with ⟨h12, e12, ht⟩ | ⟨h12, e12, ht⟩
    · simp -implicitDefEqProofs (disch := omega) [e1, e2, e3, e13, e41, e42, e12, ht, ho, hlo, h, vd, c_VGet, k_VGet, hb, h8, gvq, hm12, bO, cd, convV, wm, c_misplaced, hkm, ix, g1, setCells, n1, n3, c_getK, k1, w1, w2, w3, w4, hO4', b4, hge, hz2]
      exact fin
    · simp -implicitDefEqProofs (disch := omega) [e1, e2, e3, e13, e41, e42, e12, ht, ho, hlo, h, vd, c_VGet, k_VGet, hb, h8, gvq, hm12, bO, cd, convV, wm, c_misplaced, hkm, ix, g1, setCells, n1, n3, c_getK, k1, w1, w2, w3, w4, hO4', b4, hge, hz2]
      exact fin
  have hpre2 : ∀ j, j < i + 1 → sE cols K b p j = 0 := fun j hj => by
    rcases Nat.lt_or_ge j i with hj2 | hj2
    · exact hpre j hj2
    · obtain rfl : j = i := by omega
      rw [hsEi]; exact hge
  obtain ⟨y1, y2⟩ := ceG_ok (O := objs) hok
  have hP2 := hP.snoc hOO4 hold (x := ⟨g.n, g.i, w⟩) (y := ceG g) (by rw [hRl, hWat i h, hsWi]) y1 rfl rfl (by rw [y2]; exact rowH_old hrow hO34) (fun k hk => by have := hid k hk; omega)
  have hs3 : flatV seV (mkS (sU cols b p) R) ++ [.int .i64 m, .bool g.n, .int .i64 g.i, w] = flatV seV (mkS (sU cols b p) (R ++ [⟨g.n, g.i, w⟩])) := by rw [mkS_snoc, hRl, hsUi, ← flatV_snoc]; rfl
  have hm4 : (i * 4 + 4) = (i + 1) * 4 := by omega
  have hfit := fitS (.int .i64 m) (.bool g.n) (.int .i64 g.i) w rfl rfl
  rcases h12 with ⟨h12, e12, ht⟩ | ⟨h12, e12, ht⟩
  · have hR0 : R = [] := List.eq_nil_of_length_eq_zero (by omega)
    have hs4 : [V.int .i64 m, .bool g.n, .int .i64 g.i, w] = flatV seV (mkS (sU cols b p) (R ++ [⟨g.n, g.i, w⟩])) := by rw [← hs3, hR0]; rfl
    simp -implicitDefEqProofs (disch := omega) [e1, e2, e3, e13, e41, e42, e12, ht, ho, hlo, h, vd, c_VGet, k_VGet, hb, h8, gvq, hm12, bO, cd, convV, wm, c_misplaced, hkm, ix, g1, setCells, n1, n3, c_getK, k1, w1, w2, w3, w4, hO4', b4, hge, hfit, slit1, wi1]
    rw [hI]
    exact ⟨by simp [e1], by simp [hpn], by simp [e3], by simp [hln], by simp [e41], by simp, rfl, hold4, bO4, hpre2, _, .inr ⟨by omega, by simp [hs4, h12], by simp [h12]⟩, by simp [hRl], hP2⟩
  · simp -implicitDefEqProofs (disch := omega) [e1, e2, e3, e13, e41, e42, e12, ht, ho, hlo, h, vd, c_VGet, k_VGet, hb, h8, gvq, hm12, bO, cd, convV, wm, c_misplaced, hkm, ix, g1, setCells, n1, n3, c_getK, k1, w1, w2, w3, w4, hO4', b4, hge, hfit, slit1, hfl, hs3, hm4, wi1]
    rw [hI]
    exact ⟨by simp [e1], by simp [hpn], by simp [e3], by simp [hln], by simp [e41], by simp, rfl, hold4, bO4, hpre2, _, .inr ⟨by omega, by simp, by simp⟩, by simp [hRl], hP2⟩

end Go.Proofs.YtnbgmclbbkfhhaaDoor.B
set_option maxRecDepth 20000
set_option maxHeartbeats 1000000
namespace Go.Proofs.YtnbgmclbbkfhhaaDoor.B
open Go Go.Ab
theorem setsG_succ {cols : List Co} {b : List Int} {p : Int} {n : Nat} : setsG cols b p (n + 1) = setsG cols b p n ++ [⟨sU cols b p n, ceG (sW cols b p n)⟩] := by simp [setsG, List.range_succ]
theorem setsG_len {cols : List Co} {b : List Int} {p : Int} {n : Nat} : (setsG cols b p n).length = n := by simp [setsG]
noncomputable def k_rGetSets : Ab.Spec := con3 some (ofInts .u8) (ofInt .i64) fun s b p objs => match schD objs s with
  | some (cols, K) => bnd b.length 140737488353000 (if b8 b = true then some (.tup [if setsGE cols K b p = 0 then .lst (.fresh 4 false) (flatV seV (setsG cols b p (setsN b p).toNat)) (setsN b p).toNat else .nils, .int .i64 (if setsGE cols K b p = 0 then posS cols b (setsP b p) (setsN b p).toNat else 0), .int .i64 (setsGE cols K b p)], none) else none)
  | none => none
noncomputable def T_rGetSets : CallF := withF T_GetSetsK 43 k_rGetSets
theorem T_rGetSets_ok : CallOk Tryd.prog T_rGetSets := con_of (A := annOf [43,95] [] [] false []) fit T_GetSetsK_ok (fn := Tryd.f43) (by kernel_rfl) (by kernel_rfl) (by
  intro args objs r h0
  have c_rSchema : ∀ a o, T_GetSetsK 13 a o = k_rSchema a o := fun _ _ => rfl
  have c_rget : ∀ a o, T_GetSetsK 70 a o = k_rget a o := fun _ _ => rfl
  have c_RGet : ∀ a o, T_GetSetsK 72 a o = k_RGet a o := fun _ _ => rfl
  obtain ⟨s, v, _, _, b, p, rfl, hs, hb, hp, hR⟩ := con3_inv h0
  cases hs
  obtain rfl := ofInt_inv hp
  split at hR
  case h_2 => cases hR
  rename_i cols K hsc
  obtain ⟨hbl, hR⟩ := bnd_inv hR
  split at hR
  case isFalse => cases hR
  rename_i h8
  cases hR
  obtain ⟨cv, rfl, hv, cd, vo, vf, vc, vn, vi, hc, hl⟩ := schF hsc
  obtain ⟨vd, -⟩ := bs hb
  obtain ⟨O0, hO0⟩ : ∃ O, O = objs ++ [.cells [cv, .int .i64 K] 0] := ⟨_, rfl⟩
  have hold0 : Old objs O0 := by rw [hO0]; exact Old.ext _ _
  have b1 : Ab.getObj O0 objs.length 0 = some [cv, .int .i64 K] := by rw [hO0]; simp
  have s1 := (k_sch (schD_old hsc hold0)).2
  have gv : ∀ a, getVR b a = some (.tup [.int .u64 (M.getR b a).1, .int .i64 (M.getR b a).2.1, .int .i64 (M.getR b a).2.2], none) := fun a => rfl
  obtain ⟨E0, hE0'⟩ : ∃ E0, E0 = setsGE cols K b p := ⟨_, rfl⟩
  rw [← hE0']
  refine .go _ rfl rfl ?_
  simp -implicitDefEqProofs (disch := omega) [cd]
  rw [← hO0]
  by_cases hg : chkR cols K = 0
  case neg =>
    have hE : E0 = chkR cols K := by rw [hE0']; exact if_neg hg
    obtain ⟨E, hEE⟩ : ∃ E, E = chkR cols K := ⟨_, rfl⟩
    rw [← hEE] at hg hE s1
    rw [hE]
    have hz2 : (E != 0) = true := by simpa using hg
    simp -implicitDefEqProofs (disch := omega) [b1, cd, c_rSchema, s1, hg, hz2]
  have hE0 : E0 = if (M.getR b p).2.2 ≠ 0 then (M.getR b p).2.2 else if setsN b p < 1 ∨ setsN b p > 12 then 61 else firstE (sE cols K b p) (setsN b p).toNat 0 := by rw [hE0']; exact if_pos hg
  obtain ⟨p1, p2, p3, p4, p5⟩ := chk_pos hg
  rw [hg] at s1
  have hsN : setsN b p = (M.getR b p).1 := rfl
  have hsP : setsP b p = (M.getR b p).2.1 := rfl
  have gv0 := gv p
  obtain ⟨cnt, P1, e0, hh⟩ : ∃ u n e, M.getR b p = (u, n, e) := ⟨_, _, _, rfl⟩
  rw [hh] at hE0 hsN hsP gv0
  simp only at hE0 hsN hsP gv0
  by_cases he0 : e0 = 0
  case neg =>
    rw [if_pos he0] at hE0
    have hz2 : (e0 != 0) = true := by simpa using he0
    rw [hE0]
    simp -implicitDefEqProofs (disch := omega) [b1, cd, c_rSchema, s1, vd, c_RGet, k_RGet, hb, h8, gv0, he0, hz2]
  subst he0
  rw [if_neg (by simp), hsN] at hE0
  obtain ⟨-, -, -, -, c0, c1, -⟩ := M.getR_ok (b8_bytes h8) hh
  obtain ⟨n, rfl⟩ := Int.eq_ofNat_of_zero_le c0
  by_cases hn0 : n = 0
  · subst hn0
    rw [if_pos (by omega)] at hE0
    rw [hE0]
    simp -implicitDefEqProofs (disch := omega) [b1, cd, c_rSchema, s1, vd, c_RGet, k_RGet, hb, h8, gv0]
  have hn0' : ¬ (n : Int) < 1 := by omega
  by_cases hn12 : 12 < n
  · rw [if_pos (by omega)] at hE0
    rw [hE0]
    simp -implicitDefEqProofs (disch := omega) [b1, cd, c_rSchema, s1, vd, c_RGet, k_RGet, hb, h8, gv0, hn0, hn0', hn12]
  rw [if_neg (by omega), Int.toNat_natCast] at hE0
  have wk : IntKind.i64.wrap (K - 1) = K - 1 := wrap_small (by omega) (by omega)
  rw [hsN, Int.toNat_natCast]
  simp -implicitDefEqProofs (disch := omega) [b1, cd, c_rSchema, s1, vd, c_RGet, k_RGet, hb, h8, gv0, hn0, hn0', hn12, slit0, wk]
  obtain ⟨I, hI⟩ : ∃ I : Nat → St → Prop, I = (fun (i : Nat) (z : St) => z.env 1 = v ∧ z.env 11 = .int .i64 (posS cols b (setsP b p) i) ∧ z.env 3 = .ptr objs.length 0 0 ∧ z.env 14 = .int .i64 (lastS cols b (setsP b p) (K - 1) i) ∧ z.env 10 = .int .u64 n ∧ z.env 15 = .int .u64 i ∧ z.low = objs.length ∧ Old objs z.objs ∧ Ab.getObj z.objs objs.length 0 = some [cv, .int .i64 K] ∧ (∀ j, j < i → sE cols K b p j = 0) ∧ z.toks = [i * 4] ∧ z.env 13 = .lst (.tok 0 4) (flatV seV (setsG cols b p i)) i) := ⟨_, rfl⟩
  refine .up n I (by rw [hI]; exact ⟨by simp, by simp [posS, hsP], by simp, by simp [lastS], by simp, by simp, rfl, hold0, b1, fun j hj => absurd hj (by omega), rfl, by simp [setsG, flatV]⟩) ?_
  intro i z hi hz2
  rw [hI] at hz2
  obtain ⟨e1, e11, e3, e14, e10, e15, hlo, hold, bO, hpre, ht, e13⟩ := hz2
  obtain ⟨O, ho⟩ : ∃ O, O = z.objs := ⟨_, rfl⟩
  rw [← ho] at hold bO
  have ho := ho.symm
  have hOl := getObj_lt bO
  have hfl : (flatV seV (setsG cols b p i)).length = i * 4 := by rw [flatV_len seV_len, setsG_len]
  rcases Nat.lt_or_ge i n with h | h
  case inr =>
    obtain rfl : i = n := by omega
    have hE1 : E0 = 0 := by rw [hE0]; exact firstE_none fun j _ hj => hpre j (by omega)
    have hrf : norefs objs.length (flatV seV (setsG cols b p i)) = true := norefs_iff.2 fun u hu => by
      obtain ⟨x, hx, h⟩ := List.mem_flatMap.1 hu
      obtain ⟨j, -, rfl⟩ := List.mem_map.1 hx
      simp only [seV, ceV, ceG, List.mem_cons, List.not_mem_nil, or_false] at h
      rcases h with rfl | rfl | rfl | rfl
      · rfl
      · rfl
      · rfl
      · split <;> simp [Ab.noref]
    simp -implicitDefEqProofs (disch := omega) [e1, e11, e3, e14, e10, e15, e13, ht, ho, hlo, hE1, hfl, hrf]
  obtain ⟨q, hq⟩ : ∃ q, q = posS cols b (setsP b p) i := ⟨_, rfl⟩
  have gvq := gv q
  have hsEi : sE cols K b p i = sgE cols b q (lastS cols b (setsP b p) (K - 1) i) := by rw [hq]; rfl
  have hsUi : sU cols b p i = (M.getR b q).1 := by rw [hq]; rfl
  have hsWi : sW cols b p i = sgC cols b q := by rw [hq]; rfl
  have hpn : posS cols b (setsP b p) (i + 1) = (sgC cols b q).next := by rw [posS_succ, hq]
  have hln : lastS cols b (setsP b p) (K - 1) (i + 1) = (M.getR b q).1 := by rw [lastS_succ, hq]
  rw [← hq] at e11
  obtain ⟨ll, hll⟩ : ∃ ll, ll = lastS cols b (setsP b p) (K - 1) i := ⟨_, rfl⟩
  rw [← hll] at hsEi e14
  have hbadE : ∀ E, sE cols K b p i = E → E ≠ 0 → E0 = E := fun E h1 h2 => by
    rw [hE0, ← h1]
    exact firstE_at (f := sE cols K b p) (by rw [h1]; exact h2) (Nat.zero_le _) (by omega) fun m _ hm => hpre m hm
  unfold sgE sgC at hsEi
  unfold sgC at hsWi hpn
  obtain ⟨u, nx, e, hu⟩ : ∃ u nx e, M.getR b q = (u, nx, e) := ⟨_, _, _, rfl⟩
  rw [hu] at gvq hsEi hsUi hsWi hpn hln
  simp only at gvq hsEi hsUi hsWi hpn hln
  have wi1 : IntKind.u64.wrap ((i : Int) + 1) = (i : Int) + 1 := wrap_u64 (by omega) (by omega)
  by_cases he : e = 0
  case neg =>
    rw [if_pos he] at hsEi
    have hz2 : (e != 0) = true := by simpa using he
    rw [hbadE _ hsEi he]
    simp -implicitDefEqProofs (disch := omega) [e1, e11, e3, e14, e10, e15, e13, ht, ho, hlo, h, vd, c_RGet, k_RGet, hb, h8, gvq, he, hz2]
  subst he
  rw [if_neg (by simp)] at hsEi
  obtain ⟨-, -, -, -, u0, u1, -⟩ := M.getR_ok (b8_bytes h8) hu
  obtain ⟨m, rfl⟩ := Int.eq_ofNat_of_zero_le u0
  rw [Int.toNat_natCast] at hsEi hsWi hpn
  have wl : IntKind.u64.wrap (cols.length : Int) = cols.length := wrap_u64 (by omega) (by omega)
  by_cases hml : cols.length ≤ m
  · rw [if_pos (.inr (by omega))] at hsEi
    rw [hbadE _ hsEi (by decide)]
    simp -implicitDefEqProofs (disch := omega) [e1, e11, e3, e14, e10, e15, e13, ht, ho, hlo, h, vd, c_RGet, k_RGet, hb, h8, gvq, bO, cd, vn, convV, wl, hml]
  have wm : IntKind.i64.wrap (m : Int) = m := wrap_small (by omega) (by omega)
  by_cases hmll : (m : Int) ≤ ll
  · rw [if_pos (.inl hmll)] at hsEi
    rw [hbadE _ hsEi (by decide)]
    simp -implicitDefEqProofs (disch := omega) [e1, e11, e3, e14, e10, e15, e13, ht, ho, hlo, h, vd, c_RGet, k_RGet, hb, h8, gvq, bO, cd, vn, convV, wl, wm, hml, hmll]
  rw [if_neg (by omega)] at hsEi
  have ix := hv.idx (P := Tryd.prog) u22 z89 .u64 m (by omega) (by omega)
  rw [Int.toNat_natCast] at ix
  obtain ⟨g1, -⟩ := col_get (hv.old hold) (i := m) (by omega)
  obtain ⟨C, hC⟩ : ∃ C, C = nth cols m := ⟨_, rfl⟩
  rw [← hC] at g1 hsEi hsWi hpn
  obtain ⟨nm, k, nl⟩ := C
  simp only at hsEi hsWi hpn
  obtain ⟨g, hgg⟩ : ∃ g, g = getC k nl b nx := ⟨_, rfl⟩
  rw [← hgg] at hsEi hsWi hpn
  obtain ⟨w, hw⟩ : ∃ w, w = (ceG g).v := ⟨_, rfl⟩
  have hw' : demote w = w ∧ oneCell w = true ∧ isDef w = true ∧ cellsOf w = [w] := by
    rw [hw]; unfold ceG; cases g.b <;> exact ⟨rfl, rfl, rfl, rfl⟩
  obtain ⟨w1, w2, w3, w4⟩ := hw'
  have hcv : cellV g = .agg [.bool g.n, .int .i64 g.i, w] := by rw [hw]; unfold cellV ceG; cases g.b <;> rfl
  obtain ⟨O4, hO4⟩ : ∃ O4, O4 = O ++ [.cells [.bool g.n, .int .i64 g.i, w] 0] := ⟨_, rfl⟩
  have b4 : Ab.getObj O4 O.length 0 = some [.bool g.n, .int .i64 g.i, w] := by rw [hO4]; simp
  have hO4' : O ++ [.cells [.bool g.n, .int .i64 g.i, w] 0] = O4 := hO4.symm
  have hOO4 : Old O O4 := by rw [hO4]; exact Old.ext _ _
  have bO4 : Ab.getObj O4 objs.length 0 = some [cv, .int .i64 K] := by rw [hOO4.2 _ _ hOl]; exact bO
  have n1 : ¬ O.length < objs.length := by have := hold.1; omega
  simp only [coV] at g1
  by_cases hge : g.err = 0
  case neg =>
    have hz2 : (g.err != 0) = true := by simpa using hge
    rw [hbadE _ hsEi hge]
    simp -implicitDefEqProofs (disch := omega) [e1, e11, e3, e14, e10, e15, e13, ht, ho, hlo, h, vd, c_RGet, k_RGet, hb, h8, gvq, bO, cd, vn, convV, wl, wm, hml, hmll, ix, g1, setCells, n1, c_rget, k_rget, ← hgg, hcv, w1, w2, w3, w4, hO4', b4, hge, hz2]
  have hpre2 : ∀ j, j < i + 1 → sE cols K b p j = 0 := fun j hj => by
    rcases Nat.lt_or_ge j i with hj2 | hj2
    · exact hpre j hj2
    · obtain rfl : j = i := by omega
      rw [hsEi]; exact hge
  have hs3 : flatV seV (setsG cols b p i) ++ [.int .i64 m, .bool g.n, .int .i64 g.i, w] = flatV seV (setsG cols b p (i + 1)) := by rw [setsG_succ, hsUi, hsWi, ← flatV_snoc, hw]; rfl
  have hm4 : (i * 4 + 4) = (i + 1) * 4 := by omega
  have hfit := fitS (.int .i64 m) (.bool g.n) (.int .i64 g.i) w rfl rfl
  simp -implicitDefEqProofs (disch := omega) [e1, e11, e3, e14, e10, e15, e13, ht, ho, hlo, h, vd, c_RGet, k_RGet, hb, h8, gvq, bO, cd, vn, convV, wl, wm, hml, hmll, ix, g1, setCells, n1, c_rget, k_rget, ← hgg, hcv, w1, w2, w3, w4, hO4', b4, hge, hfit, slit1, hfl, hs3, hm4, wi1]
  rw [hI]
  exact ⟨by simp [e1], by simp [hpn], by simp [e3], by simp [hln], by simp [e10], by simp, rfl, hold.trans hOO4, bO4, hpre2, by simp, by simp⟩)

end Go.Proofs.YtnbgmclbbkfhhaaDoor.B
