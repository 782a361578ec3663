import Derived.Test.YtiaihiccaoibgaaDoorKxA
set_option linter.unusedSimpArgs false
set_option linter.unusedVariables false
set_option linter.unusedSectionVars false
set_option maxRecDepth 20000
set_option maxHeartbeats 1000000
namespace Go.Proofs.YtiaihiccaoibgaaDoor.B
open Go Go.Ab
/-! the document's reading -/
theorem rd8_ne {c : Int} (h : c ≠ 0) : ∀ (r : List Int), rd8 (c :: r) = (rd8 r).map fun q => (c :: q.1, q.2 + 1)
  | [] => rfl
  | d :: r => by rw [rd8_cc, if_neg h]
theorem rd7_ne {c : Int} (h : c ≠ 0) (r : List Int) : rd7 (c :: r) = (rd7 r).map fun q => (c :: q.1, q.2 + 1) := if_neg h
def rdX (k : Int) (l : List Int) : Option (List Int × Nat) := if k = 7 then rd7 l else rd8 l
theorem rdX_ne {k c : Int} (h : c ≠ 0) (r : List Int) : rdX k (c :: r) = (rdX k r).map fun q => (c :: q.1, q.2 + 1) := by
  unfold rdX; split
  · exact rd7_ne h r
  · exact rd8_ne h r
def cellR (p : Int) (g : DG) : V := .tup [.agg [.bool false, .int .i64 g.i, (cD g).v], .int .i64 (if g.ok = true then p + g.n else -1)]
theorem knum_backR {k u : Int} (h1 : 1 ≤ k) (h6 : k ≤ 4) (u0 : 0 ≤ u) (u1 : u < 256 ^ (ksize k).toNat) : IntKind.i64.wrap (IntKind.u64.wrap (u + IntKind.u64.wrap (leastR k))) = unK k u := by
  have hw : ∀ x : Int, IntKind.i64.wrap x = Go.RowKit.wrap64 x := fun x => by simp [IntKind.wrap, Go.RowKit.wrap64]; omega
  rw [hw, wrapU64, wrapU64]
  unfold Go.RowKit.wrap64
  obtain rfl | rfl | rfl | rfl : k = 1 ∨ k = 2 ∨ k = 3 ∨ k = 4 := by omega
  all_goals
    simp [ksize] at u1
    simp [unK, leastR]
    omega
noncomputable def k_rRd : Ab.Spec := con3 (ofInt .i64) (ofInts .u8) (ofInt .i64) fun k b p _ => if 1 ≤ k ∧ k ≤ 8 ∧ 0 ≤ p ∧ p ≤ b.length ∧ b8 b = true then bnd b.length 140737488353000 (some (cellR p (rdG k (b.drop p.toNat)), none)) else none
noncomputable def T_rRd : CallF := withF T_Dec 46 k_rRd
theorem T_rRd_ok : CallOk Tryd.prog T_rRd := con_of (A := annOf [52,71,112] [] [] false []) fit T_Dec_ok (fn := Tryd.f46) (by kernel_rfl) (by kernel_rfl) (by
  intro args objs r h0
  have c_rksize : ∀ a o, T_Dec 56 a o = k_rksize a o := fun _ _ => rfl
  have c_Least : ∀ a o, T_Dec 52 a o = k_Least a o := fun _ _ => rfl
  obtain ⟨_, v, _, k, b, p, rfl, hk, hb, hp, hR⟩ := con3_inv h0
  obtain rfl := ofInt_inv hk
  obtain rfl := ofInt_inv hp
  split at hR
  case isFalse => cases hR
  rename_i hc
  obtain ⟨k1, k8, p0, p1, h8⟩ := hc
  obtain ⟨hbl, hR⟩ := bnd_inv hR
  cases hR
  have hB := b8_iff.1 h8
  obtain ⟨vd, vn, vi, -⟩ := bs hb
  obtain ⟨q, rfl⟩ := Int.eq_ofNat_of_zero_le p0
  rw [Int.toNat_natCast]
  have hql : q ≤ b.length := by omega
  obtain ⟨O, hO⟩ : ∃ O, O = objs ++ [AO.cells [.bool false, .int .i64 0, .nils] 0] := ⟨_, rfl⟩
  have b1 : Ab.getObj O objs.length 0 = some [.bool false, .int .i64 0, .nils] := by rw [hO]; simp
  have hOs : ∀ X, O.set objs.length X = objs ++ [X] := fun X => by rw [hO]; simp
  refine .go _ rfl rfl ?_
  by_cases k6 : k ≤ 6
  · obtain ⟨n1, n8⟩ := ksize_pos ⟨k1, k6⟩
    obtain ⟨n, hn⟩ := Int.eq_ofNat_of_zero_le (show 0 ≤ ksize k by omega)
    have hG : rdG k (b.drop q) = if (b.drop q).length < n then .bad else ⟨unK k (uN ((b.drop q).take n)), none, n, true⟩ := by unfold rdG; rw [if_pos k6, hn]; rfl
    rw [hG, List.length_drop]
    have wq : IntKind.i64.wrap ((b.length : Int) - q) = (b.length : Int) - q := wrap_small (by omega) (by omega)
    by_cases hs : b.length - q < n
    · rw [if_pos hs]
      have hs2 : ((b.length : Int) - q < n) := by omega
      simp -implicitDefEqProofs (disch := omega) [vd, vn, k6, c_rksize, k_rksize, k1, hn, wq, hs2, fitC0, setCells, cellR, DG.bad, cD]
    rw [if_neg hs]
    have hs2 : ¬ ((b.length : Int) - q < n) := by omega
    obtain ⟨L, hL⟩ : ∃ L, L = (b.drop q).take n := ⟨_, rfl⟩
    have hLl : L.length = n := by rw [hL, List.length_take, List.length_drop]; omega
    have hLB : ∀ c ∈ L, 0 ≤ c ∧ c < 256 := fun c hc => hB c (List.mem_of_mem_drop (List.mem_of_mem_take (hL ▸ hc)))
    obtain ⟨u0, u1⟩ := uN_range n hLB hLl
    rw [← hL]
    simp -implicitDefEqProofs (disch := omega) [vd, vn, k6, c_rksize, k_rksize, k1, hn, wq, hs2]
    rw [← hO]
    obtain ⟨I, hI⟩ : ∃ I : Nat → St → Prop, I = (fun (i : Nat) (z : St) => z.env 0 = .int .i64 k ∧ z.env 1 = v ∧ z.env 2 = .int .i64 q ∧ z.env 6 = .ptr objs.length 0 0 ∧ z.env 8 = .int .u64 (uN (L.take i)) ∧ z.env 9 = .int .i64 i ∧ z.toks = [] ∧ z.low = objs.length ∧ z.objs = O) := ⟨_, rfl⟩
    refine .up n I (by rw [hI]; exact ⟨by simp, by simp, by simp, by simp, by simp [uN], by simp, rfl, rfl, rfl⟩) ?_
    intro i z hi hz
    rw [hI] at hz
    obtain ⟨e0, e1, e2, e6, e8, e9, ht, hlo, ho⟩ := hz
    rcases Nat.lt_or_ge i n with h | h
    case inr =>
      obtain rfl : i = n := by omega
      rw [List.take_of_length_le (by omega)] at e8
      obtain ⟨U, hU⟩ : ∃ U, U = uN L := ⟨_, rfl⟩
      rw [← hU] at e8 u0 u1 ⊢
      by_cases k4 : k ≤ 4
      · have hkb := knum_backR k1 k4 u0 (by rw [hn]; exact u1)
        simp -implicitDefEqProofs (disch := omega) [e0, e1, e2, e6, e8, e9, ht, ho, hlo, c_rksize, k_rksize, k1, k6, hn, k4, c_Least, k_Least, convV, hkb, fitC2, b1, hOs, setCells, cellR, cD, wrap_small]
      · have m5 := (knum_back k1 k6 u0 (by rw [hn]; exact u1)).2.2 k4
        have hK : unK k U = U := if_neg k4
        simp -implicitDefEqProofs (disch := omega) [e0, e1, e2, e6, e8, e9, ht, ho, hlo, c_rksize, k_rksize, k1, k6, hn, k4, convV, m5, fitC2, b1, hOs, setCells, cellR, cD, hK, wrap_small]
    have ix := vi .i64 ((q : Int) + i) (by omega) (by omega)
    rw [show ((q : Int) + i).toNat = q + i by omega] at ix
    have g := ints_nth (k := .u8) (l := b) (i := q + i) (by omega)
    have hnth : nth b (q + i) = nth L i := by
      rw [nth_lt (by omega), nth_lt (by omega)]
      simp [hL]
    rw [hnth] at g
    have hx := hLB _ (nth_mem (l := L) (i := i) (by omega))
    obtain ⟨x, hxx⟩ : ∃ x, x = nth L i := ⟨_, rfl⟩
    have hs3 : uN (L.take (i + 1)) = uN (L.take i) * 256 + x := by rw [take_nth (by omega), uN_snoc, hxx]
    rw [← hxx] at g hx
    obtain ⟨v0, v1⟩ := uN_range i (l := L.take i) (fun c hc => hLB c (List.mem_of_mem_take hc)) (by rw [List.length_take]; omega)
    obtain ⟨U, hU⟩ : ∃ U, U = uN (L.take i) := ⟨_, rfl⟩
    rw [← hU] at e8 hs3 v0 v1
    have hi7 : U < 72057594037927936 := by
      have := Nat.pow_le_pow_right (show 0 < 256 by decide) (show i ≤ 7 by omega)
      have e : ((256 : Int) ^ i) = ((256 ^ i : Nat) : Int) := by simp
      rw [e] at v1; omega
    have w1 : IntKind.u64.wrap (U * 256) = U * 256 := wrap_u64 (by omega) (by omega)
    have w2 : IntKind.u64.wrap x = x := wrap_u64 (by omega) (by omega)
    have w3 : IntKind.u64.wrap (U * 256 + x) = U * 256 + x := wrap_u64 (by omega) (by omega)
    have w4 : IntKind.i64.wrap ((q : Int) + i) = (q : Int) + i := wrap_small (by omega) (by omega)
    simp -implicitDefEqProofs (disch := omega) [e0, e1, e2, e6, e8, e9, ht, ho, hlo, c_rksize, k_rksize, k1, k6, hn, h, ix, g, convV, w1, w2, w3, w4, wrap_small]
    rw [hI]
    exact ⟨by simp [e0], by simp [e1], by simp [e2], by simp [e6], by simp [hs3], by simp, rfl, rfl, rfl⟩
  have hG : rdG k (b.drop q) = rdT (rdX k (b.drop q)) := by
    unfold rdG rdX
    rw [if_neg k6]
    split <;> rfl
  rw [hG]
  simp -implicitDefEqProofs (disch := omega) [vd, k6, blit0]
  rw [← hO]
  obtain ⟨I, hI⟩ : ∃ I : Nat → St → Prop, I = (fun (j : Nat) (z : St) => ∃ (a : Nat) (out : List Int), q + j ≤ a ∧ a ≤ b.length ∧ out.length ≤ a ∧ rdX k (b.drop q) = (rdX k (b.drop a)).map (fun y => (out ++ y.1, y.2 + (a - q))) ∧ z.env 0 = .int .i64 k ∧ z.env 1 = v ∧ z.env 6 = .ptr objs.length 0 0 ∧ z.env 10 = .lst (.tok 0 1) (ints .u8 out) out.length ∧ z.env 11 = .int .i64 a ∧ z.toks = [out.length] ∧ z.low = objs.length ∧ z.objs = O) := ⟨_, rfl⟩
  refine .up b.length I (by rw [hI]; exact ⟨q, [], by omega, by omega, by simp, by cases h : rdX k (b.drop q) <;> simp [h], by simp, by simp, by simp, by simp [ints_nil], by simp, by simp, rfl, rfl⟩) ?_
  intro j z hj hz
  rw [hI] at hz
  obtain ⟨a, out, hja, hab, hol, hrd, e0, e1, e6, e10, e11, ht, hlo, ho⟩ := hz
  have bad : rdX k (b.drop q) = none → cellR q (rdT (rdX k (b.drop q))) = .tup [.agg [.bool false, .int .i64 0, .nils], .int .i64 (-1)] := fun h => by rw [h]; rfl
  have good : ∀ t m, rdX k (b.drop q) = some (t, m) → cellR q (rdT (rdX k (b.drop q))) = .tup [.agg [.bool false, .int .i64 0, .lst .frozen (ints .u8 t) t.length], .int .i64 ((q : Int) + m)] := fun t m h => by rw [h]; rfl
  rcases Nat.lt_or_ge a b.length with h | h
  case inr =>
    have hn : rdX k (b.drop q) = none := by
      rw [hrd, List.drop_of_length_le h]
      unfold rdX; split <;> rfl
    have h' : ¬ a < b.length := by omega
    simp -implicitDefEqProofs (disch := omega) [e0, e1, e6, e10, e11, ht, ho, hlo, vn, h', fitC0, b1, hOs, setCells, bad hn]
  have ix := vi .i64 a (by omega) (by omega)
  rw [Int.toNat_natCast] at ix
  have g := ints_nth (k := .u8) (l := b) (i := a) h
  obtain ⟨c, hcc⟩ : ∃ c, c = nth b a := ⟨_, rfl⟩
  rw [drop_nth h, ← hcc] at hrd
  rw [← hcc] at g
  by_cases c0 : c = 0
  case neg =>
    have c0' : (c != 0) = true := by simpa using c0
    rw [rdX_ne c0] at hrd
    simp -implicitDefEqProofs (disch := omega) [e0, e1, e6, e10, e11, ht, ho, hlo, vn, h, ix, g, c0, c0', blit1, wrap_small, Nat.mod_one]
    rw [hI]
    refine ⟨by omega, a + 1, out ++ [c], by omega, by omega, by simp; omega, ?_, by simp [e0], by simp [e1], by simp [e6], by simp, by simp, by simp, rfl, rfl⟩
    rw [hrd]
    cases rdX k (b.drop (a + 1)) with
    | none => rfl
    | some y => simp; omega
  rw [c0] at g hrd
  by_cases k7 : k = 7
  · subst k7
    have hr : rdX 7 (b.drop q) = some (out, 1 + (a - q)) := by rw [hrd]; show Option.map _ (some ([], 1)) = _; simp
    have hgd := good _ _ hr
    rw [show (q : Int) + ((1 + (a - q) : Nat) : Int) = (a : Int) + 1 by omega] at hgd
    have f3 := fitC3 (.lst .frozen (ints .u8 out) out.length) rfl rfl
    simp -implicitDefEqProofs (disch := omega) [e0, e1, e6, e10, e11, ht, ho, hlo, vn, h, ix, g, f3, b1, hOs, setCells, hgd, wrap_small]
  have hX : ∀ l, rdX k l = rd8 l := fun l => if_neg k7
  rw [hX, hX] at hrd
  rcases Nat.lt_or_ge (a + 1) b.length with h2 | h2
  case inr =>
    have hn : rdX k (b.drop q) = none := by rw [hX, hrd, List.drop_of_length_le h2]; rfl
    have q1 : (b.length : Int) ≤ (a : Int) + 1 := by omega
    simp -implicitDefEqProofs (disch := omega) [e0, e1, e6, e10, e11, ht, ho, hlo, vn, h, ix, g, k7, q1, fitC0, b1, hOs, setCells, bad hn, wrap_small]
  have ix2 := vi .i64 ((a : Int) + 1) (by omega) (by omega)
  rw [show ((a : Int) + 1).toNat = a + 1 by omega] at ix2
  have g2 := ints_nth (k := .u8) (l := b) (i := a + 1) h2
  obtain ⟨d, hdd⟩ : ∃ d, d = nth b (a + 1) := ⟨_, rfl⟩
  rw [drop_nth h2, ← hdd, rd8_cc, if_pos rfl] at hrd
  rw [← hdd] at g2
  have q1 : ¬ (b.length : Int) ≤ (a : Int) + 1 := by omega
  have w1 : IntKind.i64.wrap ((a : Int) + 1) = (a : Int) + 1 := wrap_small (by omega) (by omega)
  by_cases d0 : d = 0
  · subst d0
    have hr : rdX k (b.drop q) = some (out, 2 + (a - q)) := by rw [hX, hrd]; simp
    have hgd := good _ _ hr
    rw [show (q : Int) + ((2 + (a - q) : Nat) : Int) = (a : Int) + 2 by omega] at hgd
    have f3 := fitC3 (.lst .frozen (ints .u8 out) out.length) rfl rfl
    simp -implicitDefEqProofs (disch := omega) [e0, e1, e6, e10, e11, ht, ho, hlo, vn, h, ix, g, k7, q1, w1, ix2, g2, f3, b1, hOs, setCells, hgd, wrap_small]
  rw [if_neg d0] at hrd
  have d0' : (d != 0) = true := by simpa using d0
  by_cases d1 : d = 255
  · subst d1
    rw [if_pos rfl] at hrd
    simp -implicitDefEqProofs (disch := omega) [e0, e1, e6, e10, e11, ht, ho, hlo, vn, h, ix, g, k7, q1, w1, ix2, g2, blit1, wrap_small, Nat.mod_one]
    rw [hI]
    refine ⟨by omega, a + 2, out ++ [0], by omega, by omega, by simp; omega, ?_, by simp [e0], by simp [e1], by simp [e6], by simp, by simp; omega, by simp, rfl, rfl⟩
    rw [hX, hX, hrd]
    cases rd8 (b.drop (a + 1 + 1)) with
    | none => rfl
    | some y => simp; omega
  · have d1' : (d != 255) = true := by simpa using d1
    have hn : rdX k (b.drop q) = none := by rw [hX, hrd, if_neg d1]; rfl
    simp -implicitDefEqProofs (disch := omega) [e0, e1, e6, e10, e11, ht, ho, hlo, vn, h, ix, g, k7, q1, w1, ix2, g2, d0, d0', d1, d1', fitC0, b1, hOs, setCells, bad hn, wrap_small])

end Go.Proofs.YtiaihiccaoibgaaDoor.B
set_option maxRecDepth 20000
set_option maxHeartbeats 1000000
namespace Go.Proofs.YtiaihiccaoibgaaDoor.B
open Go Go.Ab
def posD (cols : List Co) (b : List Int) : Nat → Nat
  | 0 => 0
  | i + 1 => posD cols b i + (gD cols b i).n
theorem restD_pos {cols : List Co} {b : List Int} : ∀ i, restD cols b i = b.drop (posD cols b i)
  | 0 => rfl
  | i + 1 => by rw [restD_succ, restD_pos i, List.drop_drop]; rfl
theorem rowD_refs {cols : List Co} {b : List Int} {n m : Nat} : norefs m (flatV ceV (rowD cols b n)) = true := norefs_iff.2 fun u hu => by
  obtain ⟨x, hx, h⟩ := List.mem_flatMap.1 hu
  obtain ⟨j, -, rfl⟩ := List.mem_map.1 hx
  simp only [ceV, cD, List.mem_cons, List.not_mem_nil, or_false] at h
  rcases h with rfl | rfl | rfl
  · rfl
  · rfl
  · split <;> simp [Ab.noref]
noncomputable def k_rDec : Ab.Spec := con2 some (ofInts .u8) fun s b objs => match schD objs s with
  | some (cols, K) => bnd b.length 140737488353000 (if b8 b = true then some (.tup [if decE cols K b = 0 then .lst (.fresh 3 false) (flatV ceV (rowD cols b K.toNat)) K.toNat else .nils, .int .i64 (decE cols K b)], none) else none)
  | none => none
noncomputable def T_rDec : CallF := withF T_rRd 18 k_rDec
theorem T_rDec_ok : CallOk Tryd.prog T_rDec := con_of (A := annOf [17,52] [] [] false []) fit T_rRd_ok (fn := Tryd.f18) (by kernel_rfl) (by kernel_rfl) (by
  intro args objs r h0
  have c_rSchema : ∀ a o, T_rRd 36 a o = k_rSchema a o := fun _ _ => rfl
  have c_rRd : ∀ a o, T_rRd 46 a o = k_rRd a o := fun _ _ => rfl
  have c_rCheck : ∀ a o, T_rRd 37 a o = k_rCheck a o := fun _ _ => rfl
  obtain ⟨s, v, _, b, rfl, hs, hb, hR⟩ := con2_inv h0
  cases hs
  split at hR
  case h_2 => cases hR
  rename_i cols K hsc
  obtain ⟨hbl, hR⟩ := bnd_inv hR
  split at hR
  case isFalse => cases hR
  rename_i h8
  cases hR
  obtain ⟨cv, rfl, hv, cd, vo, vf, vc, vn, vi, hc, hl⟩ := schF hsc
  obtain ⟨vd, bn, -⟩ := bs hb
  obtain ⟨O0, hO0⟩ : ∃ O, O = objs ++ [.cells [cv, .int .i64 K] 0] := ⟨_, rfl⟩
  have hold0 : Old objs O0 := by rw [hO0]; exact Old.ext _ _
  have b1 : Ab.getObj O0 objs.length 0 = some [cv, .int .i64 K] := by rw [hO0]; simp
  have s1 := (k_sch (schD_old hsc hold0)).2
  obtain ⟨E0, hE0'⟩ : ∃ E0, E0 = decE cols K b := ⟨_, rfl⟩
  rw [← hE0']
  refine .go _ rfl rfl ?_
  simp -implicitDefEqProofs (disch := omega) [cd]
  rw [← hO0]
  by_cases hg : chkR cols K = 0
  case neg =>
    have hE : E0 = chkR cols K := by rw [hE0']; exact if_neg hg
    obtain ⟨E, hEE⟩ : ∃ E, E = chkR cols K := ⟨_, rfl⟩
    rw [← hEE] at hg hE s1
    rw [hE]
    have hz2 : (E != 0) = true := by simpa using hg
    simp -implicitDefEqProofs (disch := omega) [b1, cd, c_rSchema, s1, hg, hz2]
  have hE0 : E0 = if firstE (okD cols b) K.toNat 0 = 0 ∧ restD cols b K.toNat = [] then 0 else 70 := by rw [hE0']; exact if_pos hg
  obtain ⟨p1, p2, p3, p4, p5⟩ := chk_pos hg
  obtain ⟨n, rfl⟩ := Int.eq_ofNat_of_zero_le (show 0 ≤ K by omega)
  rw [Int.toNat_natCast] at hE0
  rw [hg] at s1
  simp -implicitDefEqProofs (disch := omega) [b1, cd, c_rSchema, s1, clit0]
  obtain ⟨I, hI⟩ : ∃ I : Nat → St → Prop, I = (fun (i : Nat) (z : St) => z.env 1 = v ∧ z.env 2 = .ptr objs.length 0 0 ∧ z.env 8 = .int .i64 (posD cols b i) ∧ z.env 9 = .int .i64 i ∧ z.low = objs.length ∧ Old objs z.objs ∧ Ab.getObj z.objs objs.length 0 = some [cv, .int .i64 (n : Int)] ∧ posD cols b i ≤ b.length ∧ (∀ j, j < i → okD cols b j = 0) ∧ z.toks = [i * 3] ∧ z.env 7 = .lst (.tok 0 3) (flatV ceV (rowD cols b i)) i) := ⟨_, rfl⟩
  refine .up n I (by rw [hI]; exact ⟨by simp, by simp, by simp [posD], by simp, rfl, hold0, b1, by simp [posD], fun j hj => absurd hj (by omega), rfl, by simp [rowD, flatV]⟩) ?_
  intro i z hi hz2
  rw [hI] at hz2
  obtain ⟨e1, e2, e8, e9, hlo, hold, bO, hpl, hpre, ht, e7⟩ := hz2
  obtain ⟨O, ho⟩ : ∃ O, O = z.objs := ⟨_, rfl⟩
  rw [← ho] at hold bO
  have ho := ho.symm
  have hfl : (flatV ceV (rowD cols b i)).length = i * 3 := by rw [flatV_len ceV_len, rowD_len]
  have hOl := getObj_lt bO
  rcases Nat.lt_or_ge i n with h | h
  case inr =>
    obtain rfl : i = n := by omega
    have hF : firstE (okD cols b) i 0 = 0 := firstE_none fun j _ hj => hpre j (by omega)
    by_cases hr : restD cols b i = []
    · have hE1 : E0 = 0 := by rw [hE0, if_pos ⟨hF, hr⟩]
      have hge : ¬ posD cols b i < b.length := by
        rw [restD_pos, List.drop_eq_nil_iff] at hr; omega
      simp -implicitDefEqProofs (disch := omega) [e1, e2, e8, e9, e7, ht, ho, hlo, bO, bn, hE1, hge, hfl, rowD_refs]
    · have hE1 : E0 = 70 := by rw [hE0, if_neg fun q => hr q.2]
      have hge : posD cols b i < b.length := by
        rw [restD_pos, List.drop_eq_nil_iff] at hr; omega
      simp -implicitDefEqProofs (disch := omega) [e1, e2, e8, e9, e7, ht, ho, hlo, bO, bn, hE1, hge]
  have ix := vi i (by omega)
  obtain ⟨-, -, g3, g4⟩ := col_get (hv.old hold) (i := i) (by omega)
  have hk := chk_kind hg (i := i) (by omega)
  have hgd := gD_ok hg h8 hbl (i := i) (by omega)
  have hok : okD cols b i = if (gD cols b i).ok = true then checkR (nth cols i).k false false (gD cols b i).i ((gD cols b i).t.getD []) else 1 := rfl
  have hge0 : gD cols b i = rdG (nth cols i).k (b.drop (posD cols b i)) := by rw [← restD_pos]; rfl
  have hps : posD cols b (i + 1) = posD cols b i + (gD cols b i).n := rfl
  rw [restD_pos, List.length_drop] at hgd
  obtain ⟨C, hC⟩ : ∃ C, C = nth cols i := ⟨_, rfl⟩
  rw [← hC] at g3 g4 hk hok hge0
  obtain ⟨nm, k, nl⟩ := C
  simp only at hge0 hk hok g3 g4
  have hE70 : okD cols b i ≠ 0 → E0 = 70 := fun q => by
    rw [hE0, if_neg]
    rintro ⟨q2, -⟩
    exact q (firstE_zero q2 i (Nat.zero_le _) (by omega))
  obtain ⟨q, hq⟩ : ∃ q, q = posD cols b i := ⟨_, rfl⟩
  rw [← hq] at e8 hge0 hpl hps hgd
  have kk : ∀ M, k_rRd [.int .i64 k, v, .int .i64 q] M = some (cellR q (rdG k (b.drop q)), none) := fun M => by
    simp (disch := omega) [k_rRd, hb, h8, hk, hpl]
  obtain ⟨g, hgg⟩ : ∃ g, g = gD cols b i := ⟨_, rfl⟩
  rw [← hge0, ← hgg] at kk
  rw [← hgg] at hok hgd hps
  unfold cellR at kk
  obtain ⟨gi, gn, gt⟩ := hgd
  obtain ⟨x, hx⟩ : ∃ x, x = (cD g).v := ⟨_, rfl⟩
  rw [← hx] at kk
  have hx' : demote x = x ∧ oneCell x = true ∧ isDef x = true ∧ cellsOf x = [x] := by
    rw [hx]; unfold cD; cases g.t <;> exact ⟨rfl, rfl, rfl, rfl⟩
  obtain ⟨w1, w2, w3, w4⟩ := hx'
  obtain ⟨y1, y2⟩ := cD_ok (g := g) (O := []) ⟨gi, gt⟩
  obtain ⟨z1, z2, z3, z4⟩ := ceOk_inv y1
  rw [y2] at z2 z3 z4
  have z2' : ∀ M, ofIntsR .u8 M x = some (g.t.getD []) := fun M => by
    rw [hx]; exact ofIntsR_of (told_of z2)
  obtain ⟨T, hT⟩ : ∃ T, T = g.t.getD [] := ⟨_, rfl⟩
  rw [← hT] at z3 z4 hok z2'
  obtain ⟨O4, hO4⟩ : ∃ O4, O4 = O ++ [.cells [.bool false, .int .i64 g.i, x] 0] := ⟨_, rfl⟩
  have b4 : Ab.getObj O4 O.length 0 = some [.bool false, .int .i64 g.i, x] := by rw [hO4]; simp
  have hO4' : O ++ [.cells [.bool false, .int .i64 g.i, x] 0] = O4 := hO4.symm
  have hOO4 : Old O O4 := by rw [hO4]; exact Old.ext _ _
  have bO4 : Ab.getObj O4 objs.length 0 = some [cv, .int .i64 (n : Int)] := by rw [hOO4.2 _ _ hOl]; exact bO
  obtain ⟨-, -, h3, h4⟩ := col_get (hv.old (hold.trans hOO4)) (i := i) (by omega)
  rw [← hC] at h3 h4
  simp only at h3 h4
  have n1 : ¬ O.length < objs.length := by have := hold.1; omega
  cases hgo : g.ok with
  | false =>
    rw [hgo, if_neg (by simp)] at hok
    rw [hgo, if_neg (by simp)] at kk
    have hE1 := hE70 (by rw [hok]; decide)
    simp -implicitDefEqProofs (disch := omega) [e1, e2, e8, e9, e7, ht, ho, hlo, h, bO, cd, ix, g3, g4, col_f1, col_f2, setCells, n1, vd, c_rRd, kk, w1, w2, w3, w4, hO4', b4, bO4, h3, h4, hE1]
  | true =>
    rw [hgo, if_pos rfl] at hok kk
    have hgnn : ¬ ((q : Int) + g.n < 0) := by omega
    obtain ⟨X, hX⟩ : ∃ X, X = checkR k false false g.i T := ⟨_, rfl⟩
    rw [← hX] at hok
    by_cases hX0 : X = 0
    case neg =>
      have hX2 : (X != 0) = true := by simpa using hX0
      have hE1 := hE70 (by rw [hok]; exact hX0)
      simp -implicitDefEqProofs (disch := omega) [e1, e2, e8, e9, e7, ht, ho, hlo, h, bO, cd, ix, g3, g4, col_f1, col_f2, setCells, n1, vd, c_rRd, kk, w1, w2, w3, w4, hO4', b4, bO4, h3, h4, hgnn, c_rCheck, k_rCheck, z2', gi, ← hX, hX2, hE1]
    rw [hX0] at hX hok
    have hpre2 : ∀ j, j < i + 1 → okD cols b j = 0 := fun j hj => by
      rcases Nat.lt_or_ge j i with hj2 | hj2
      · exact hpre j hj2
      · obtain rfl : j = i := by omega
        exact hok
    have hs3 : flatV ceV (rowD cols b i) ++ [.bool false, .int .i64 g.i, x] = flatV ceV (rowD cols b (i + 1)) := by rw [rowD_succ, ← hgg, ← flatV_snoc, hx]; rfl
    have hm3 : (i * 3 + 3) = (i + 1) * 3 := by omega
    simp -implicitDefEqProofs (disch := omega) [e1, e2, e8, e9, e7, ht, ho, hlo, h, bO, cd, ix, g3, g4, col_f1, col_f2, setCells, n1, vd, c_rRd, kk, w1, w2, w3, w4, hO4', b4, bO4, h3, h4, hgnn, c_rCheck, k_rCheck, z2', gi, ← hX, clit1, hfl, hs3, hm3, wrap_small]
    rw [hI]
    exact ⟨by simp [e1], by simp [e2], by simp [hps], by simp, rfl, hold.trans hOO4, bO4, by omega, hpre2, by simp, by simp⟩)

end Go.Proofs.YtiaihiccaoibgaaDoor.B
set_option maxRecDepth 20000
set_option maxHeartbeats 1000000
namespace Go.Proofs.YtiaihiccaoibgaaDoor.B
open Go Go.Ab
theorem EndsW.goK {P : Program} {A : Ann} {T : CallF} {f : FuncId} {c : Code} {fn : Func} {args : List V} {objs : List AO} {r : V × Option (List AO × Nat)} (rs : List ResultVar) (hb : fn.body = some c) (hr : fn.results.toList = rs) (hk : A.keep f = true) (h : ToW P A T f 0 c ⟨entryEnv args, [], objs, objs.length⟩ (FinQ P A f rs objs r)) : EndsW P A T f fn args objs r := by
  obtain ⟨e, s, h1, h2⟩ := h
  subst hr
  have hbs : baseOf A f objs.length = 0 := by unfold baseOf; rw [hk]; rfl
  exact ⟨c, e, s, hb, h2.1, by rw [hbs]; exact h1, h2.2⟩
noncomputable def k_ApartK : Ab.Spec := con3 some some some fun v w u objs => match v with
  | .nils => match ofIntsR .u8 objs w, ofIntsR .u8 objs u with | some b, some c => if b = [] ∧ c = [] then some (.bool true, some (objs, objs.length)) else none | _, _ => none
  | .ref id ver 0 n 1 => match Ab.getObj objs id ver with
    | some cs => (ofCellsI .u8 cs).bind fun a => bnd a.length 140737488354000 (if n = a.length ∧ ofIntsR .u8 objs w = some a ∧ ofIntsR .u8 objs u = some a ∧ ofIntsR .u8 (objs.set id (.cells (ints .u8 (a.map spF)) ver)) w = some a ∧ ofIntsR .u8 (objs.set id (.cells (ints .u8 (a.map spF)) ver)) u = some a then some (.bool true, if n = 0 then some (objs, objs.length) else some (objs.set id (.cells (ints .u8 (a.map spF)) ver), id)) else none)
    | _ => none
  | _ => none
noncomputable def T_ApartK : CallF := withF T_rDec 14 k_ApartK
theorem T_ApartK_ok : CallOk Tryd.prog T_ApartK := con_ofW (A := annOf [] [] [] true [42]) fit T_rDec_ok (fn := Tryd.f14) (by kernel_rfl) (by kernel_rfl) (by
  intro args objs r h0
  have c_SameR : ∀ a o, T_rDec 26 a o = k_SameR a o := fun _ _ => rfl
  have c_TurnedR : ∀ a o, T_rDec 43 a o = k_TurnedR a o := fun _ _ => rfl
  have c_Spoil : ∀ a o, T_rDec 42 a o = k_Spoil a o := fun _ _ => rfl
  obtain ⟨v, w, u, _, _, _, rfl, hv, hw, hu, hR⟩ := con3_inv h0
  cases hv; cases hw; cases hu
  refine EndsW.goK _ rfl rfl rfl ?_
  split at hR
  · split at hR
    case h_2 => cases hR
    rename_i b c hb hc
    split at hR
    case isFalse => cases hR
    rename_i e
    obtain ⟨rfl, rfl⟩ := e
    cases hR
    have hn : ofIntsR .u8 objs V.nils = some [] := rfl
    obtain ⟨pb, wd, wn, -⟩ := bsR hb
    obtain ⟨pc, ud, un, -⟩ := bsR hc
    refine .thenT ?_
    simp
    refine .thenT ?_
    simp -implicitDefEqProofs (disch := omega) [wd, ud, c_SameR, k_SameR, hn, hb, hc]
    refine .thenT ?_
    simp -implicitDefEqProofs (disch := omega) [c_Spoil, k_Spoil]
    refine .thenT ?_
    simp -implicitDefEqProofs (disch := omega)
    refine .then (.thenT ?_)
    simp -implicitDefEqProofs (disch := omega)
    refine .cut (grow_block (N := 70) (n := 0) (X := fun _ => True) (LB := [7, 30, 29, 28, 27, 26]) (by omega) (by omega) (.inl ⟨rfl, rfl⟩) rfl (fun _ _ _ _ _ _ => trivial) (fun _ _ _ _ => trivial) (body_byte u28 (by kernel_rfl) v5 u3 u5 (by omega) (by decide)) (by simp) (by decide) (by decide)) ?_
    show ToW _ _ _ _ _ _ _ _
    refine .of ?_
    simp -implicitDefEqProofs (disch := omega) [grownEnv, wd, ud, un, c_TurnedR, k_TurnedR, c_SameR, k_SameR, hn, hb, hc, wrap_small]
  · rename_i id ver n
    split at hR
    case h_2 => cases hR
    rename_i cs hg
    obtain ⟨a, ecs, hR2⟩ := Option.bind_eq_some_iff.1 hR
    obtain rfl := ofCellsI_inv ecs
    clear hR
    obtain ⟨hl, hR⟩ := bnd_inv hR2
    split at hR
    case isFalse => cases hR
    rename_i e
    obtain ⟨rfl, hb, hc, hb2, hc2⟩ := e
    have hid := getObj_lt hg
    have hn := ofIntsR_ref hg (n := a.length) rfl
    obtain ⟨pb, wd, wn, -⟩ := bsR hb
    obtain ⟨pc, ud, un, -⟩ := bsR hc
    have hl2 : a.length < 140737488355000 := by omega
    refine .thenT ?_
    simp
    refine .thenT ?_
    simp -implicitDefEqProofs (disch := omega) [wd, ud, c_SameR, k_SameR, hn, hb, hc]
    refine .thenT ?_
    by_cases hz : a.length = 0
    · rw [if_pos hz] at hR
      cases hR
      obtain rfl := List.eq_nil_of_length_eq_zero hz
      simp -implicitDefEqProofs (disch := omega) [c_Spoil, k_Spoil, hg, ofCellsI_ints]
      refine .thenT ?_
      simp -implicitDefEqProofs (disch := omega)
      refine .then (.thenT ?_)
      simp -implicitDefEqProofs (disch := omega)
      refine .cut (grow_block (N := 70) (n := 0) (X := fun _ => True) (LB := [7, 30, 29, 28, 27, 26]) (by omega) (by omega) (.inr ⟨id, ver, _, rfl, hg, by simp⟩) rfl (fun _ _ _ _ _ _ => trivial) (fun _ _ _ _ => trivial) (body_byte u28 (by kernel_rfl) v5 u3 u5 (by omega) (by decide)) (by simp) (by decide) (by decide)) ?_
      show ToW _ _ _ _ _ _ _ _
      refine .of ?_
      simp at hn
      simp -implicitDefEqProofs (disch := omega) [grownEnv, wd, ud, un, c_TurnedR, k_TurnedR, c_SameR, k_SameR, hn, hb, hc, wrap_small]
    · rw [if_neg hz] at hR
      cases hR
      have hgs := getObj_set (cs := ints .u8 (a.map spF)) (v := ver) hid
      have hn2 := ofIntsR_ref hgs (n := a.length) (by simp)
      simp -implicitDefEqProofs (disch := omega) [c_Spoil, k_Spoil, hg, ofCellsI_ints, hl2, hz, hid]
      refine .thenT ?_
      simp -implicitDefEqProofs (disch := omega)
      refine .then (.thenT ?_)
      simp -implicitDefEqProofs (disch := omega)
      refine .cut (grow_block (N := 70) (n := a.length) (X := fun _ => True) (LB := [7, 30, 29, 28, 27, 26]) (by omega) (by omega) (.inr ⟨id, ver, _, rfl, hgs, by simp⟩) rfl (fun _ _ _ _ _ _ => trivial) (fun _ _ _ _ => trivial) (body_byte u28 (by kernel_rfl) v5 u3 u5 (by omega) (by decide)) (by simp) (by decide) (by decide)) ?_
      show ToW _ _ _ _ _ _ _ _
      refine .of ?_
      have htk : (objs.set id (AO.cells (ints .u8 (a.map spF)) ver)).take objs.length = objs.set id (AO.cells (ints .u8 (a.map spF)) ver) := List.take_of_length_le (by simp)
      simp -implicitDefEqProofs (disch := omega) [grownEnv, wd, ud, un, c_TurnedR, k_TurnedR, c_SameR, k_SameR, hn2, hb2, hc2, hl, htk, hid, wrap_small]
  · cases hR)

end Go.Proofs.YtiaihiccaoibgaaDoor.B
set_option maxRecDepth 20000
set_option maxHeartbeats 1000000
namespace Go.Proofs.YtiaihiccaoibgaaDoor.B
open Go Go.Ab
theorem chk_len {k i : Int} {nl n : Bool} {l : List Int} (h : checkR k nl n i l = 0) : l.length ≤ 200 := by
  unfold checkR at h
  split at h
  · cases h
  split at h
  · split at h
    · split at h
      · rename_i h2; rw [h2.2]; simp
      · cases h
    · cases h
  split at h
  · split at h
    · rename_i h2; rw [h2]; simp
    · cases h
  · split at h
    · unfold textR at h
      split at h
      · cases h
      · omega
    · cases h
theorem cD_t {g : DG} {O : List AO} (h : i64B g.i = true ∧ ∀ l, g.t = some l → b8 l = true ∧ l.length < 140737488355000) : (cD g).t O = (false, g.i, g.t.getD []) := by
  unfold Ce.t
  rw [(cD_ok h).2]; rfl
theorem rowD_good {cols : List Co} {K : Int} {b : List Int} (hg : chkR cols K = 0) (h8 : b8 b = true) (hl : b.length < 140737488353000) {n : Nat} (hn : n ≤ cols.length) : ∀ x ∈ rowD cols b n, ∃ j, j < n ∧ x = cD (gD cols b j) ∧ i64B (gD cols b j).i = true ∧ ∀ t, (gD cols b j).t = some t → b8 t = true ∧ t.length < 140737488355000 := fun x hx => by
  obtain ⟨j, hj, rfl⟩ := List.mem_map.1 hx
  rw [List.mem_range] at hj
  obtain ⟨h1, -, h2⟩ := gD_ok hg h8 hl (i := j) (by omega)
  exact ⟨j, hj, rfl, h1, h2⟩
theorem decE_zero {cols : List Co} {K : Int} {b : List Int} (h : decE cols K b = 0) : chkR cols K = 0 ∧ (∀ i, i < K.toNat → okD cols b i = 0) ∧ restD cols b K.toNat = [] := by
  unfold decE at h
  split at h
  · rename_i hg
    split at h
    · rename_i h2
      exact ⟨hg, fun i hi => firstE_zero h2.1 i (Nat.zero_le _) (by omega), h2.2⟩
    · cases h
  · rename_i hg; exact absurd h hg
theorem okD_zero {cols : List Co} {b : List Int} {i : Nat} (h : okD cols b i = 0) : (gD cols b i).ok = true ∧ checkR (nth cols i).k false false (gD cols b i).i ((gD cols b i).t.getD []) = 0 := by
  unfold okD at h
  split at h
  · rename_i h1; exact ⟨h1, h⟩
  · cases h
noncomputable def k_KeysDecodes : Ab.Spec := con2 some (ofInts .u8) fun s b objs => match objs with
  | [] => match schD [] s with | some _ => bnd b.length 140737488352000 (if b8 b = true then some (.bool true, none) else none) | none => none
  | _ => none
noncomputable def T_KeysDecodes : CallF := withF T_ApartK 4 k_KeysDecodes
theorem T_KeysDecodes_ok : CallOk Tryd.prog T_KeysDecodes := con_of (A := annOf [53,58] [] [(54, [.ref])] false [17, 19, 14]) fit T_ApartK_ok (fn := Tryd.f4) (by kernel_rfl) (by kernel_rfl) (by
  intro args objs r h0
  have c_aliveA : ∀ a o, T_ApartK 10 a o = k_aliveA a o := fun _ _ => rfl
  have c_Wide : ∀ a o, T_ApartK 16 a o = k_Wide a o := fun _ _ => rfl
  have c_Dec : ∀ a o, T_ApartK 17 a o = k_Dec a o := fun _ _ => rfl
  have c_rDec : ∀ a o, T_ApartK 18 a o = k_rDec a o := fun _ _ => rfl
  have c_AlikeRow : ∀ a o, T_ApartK 15 a o = k_AlikeRow a o := fun _ _ => rfl
  have c_Texts : ∀ a o, T_ApartK 20 a o = k_Texts a o := fun _ _ => rfl
  have c_ApartAll : ∀ a o, T_ApartK 19 a o = k_ApartAll a o := fun _ _ => rfl
  have c_CatR : ∀ a o, T_ApartK 21 a o = k_CatR a o := fun _ _ => rfl
  have c_Next : ∀ a o, T_ApartK 22 a o = k_Next a o := fun _ _ => rfl
  have c_ApartK : ∀ a o, T_ApartK 14 a o = k_ApartK a o := fun _ _ => rfl
  have c_Intact : ∀ a o, T_ApartK 23 a o = k_Intact a o := fun _ _ => rfl
  obtain ⟨s, y, _, b, rfl, hs, hy, hR⟩ := con2_inv h0
  cases hs
  split at hR
  case h_2 => cases hR
  split at hR
  case h_2 => cases hR
  rename_i pr hsc
  obtain ⟨cols, K⟩ := pr
  obtain ⟨hbl, hR⟩ := bnd_inv hR
  split at hR
  case isFalse => cases hR
  rename_i h8
  cases hR
  obtain ⟨v, rfl, hc, hl, hsh⟩ := schD_inv hsc
  have vd := (colsV hc).dem
  obtain ⟨yd, yn, yi, -⟩ := bs hy
  have S1 := fun O => schD_old hsc (old_nil O)
  have hwl := wide_len b
  have hwt : (wide b).take b.length = b := by simp [wide]
  have e0 : ofInts .u8 (.lst .frozen (ints .u8 (wide b)) (b.length + 64)) = some (wide b) := ofInts_lst (by rw [hwl])
  have e1 : ofInts .u8 (.lst .frozen (ints .u8 b) b.length) = some b := ofInts_lst rfl
  obtain ⟨O1, hO1⟩ : ∃ O1, O1 = [AO.cells [v, .int .i64 K] 0] := ⟨_, rfl⟩
  obtain ⟨r, k1, k1p⟩ := s_Dec (objs := O1) (S1 O1) e1 h8 (by omega)
  obtain ⟨xv, O2, rfl, hold2, xd, xnt, xbad, xgood⟩ := k1p _ _ _ (S1 O1) e1
  obtain ⟨E, hE⟩ : ∃ E, E = decE cols K b := ⟨_, rfl⟩
  obtain ⟨WV0, hWV0⟩ : ∃ W : V, W = if decE cols K b = 0 then .lst (.fresh 3 false) (flatV ceV (rowD cols b K.toNat)) K.toNat else .nils := ⟨_, rfl⟩
  rw [← hE] at hWV0
  have k1' : ∀ O, k_rDec [.agg [v, .int .i64 K], y] O = some (.tup [WV0, .int .i64 E], none) := fun O => by
    simp (disch := omega) [k_rDec, S1 O, hy, h8, ← hE, ← hWV0]
  rw [← hE] at k1
  rw [← hE] at xbad xgood
  obtain ⟨X, O3, low3, Wn, WV, a1, a2, ⟨a3, a4, wvd, wve, wvn, wvm⟩, hl3, same3⟩ : ∃ (X : List Ce) (O3 : List AO) (low : Nat) (Wn : List Ce) (WV : V), k_AlikeRow [xv, WV] O2 = some (.bool true, none) ∧ k_Texts [xv] O2 = some (.lst (.fresh 1 false) (X.map (·.v)) X.length, none) ∧ (k_Texts [WV] O2 = some (.lst (.fresh 1 false) (Wn.map (·.v)) Wn.length, none) ∧
      k_ApartAll [.lst .frozen (X.map (·.v)) X.length, .lst .frozen (Wn.map (·.v)) Wn.length] O2 = some (.bool true, some (O3, low)) ∧ demote WV0 = WV ∧ demote WV = WV ∧ ntup WV = some WV ∧ ntup WV0 = some WV0) ∧ O3.length = O2.length ∧ ∀ id ver, id < O1.length → Ab.getObj O3 id ver = Ab.getObj O2 id ver := by
    by_cases hz : E = 0
    · have hW2 : WV0 = .lst (.fresh 3 false) (flatV ceV (rowD cols b K.toNat)) K.toNat := by rw [hWV0]; exact if_pos hz
      obtain ⟨hg, hok, -⟩ := decE_zero (hE ▸ hz)
      obtain ⟨p1, p2, p3, p4, p5⟩ := chk_pos hg
      have hgood := rowD_good hg h8 (by omega : b.length < 140737488353000) (n := K.toNat) (by omega)
      have hrow : ∀ O, rowR O (.lst .frozen (flatV ceV (rowD cols b K.toNat)) K.toNat) = some (rowD cols b K.toNat) := fun O => by
        have h := recR_lst (objs := O) (d := ceD O) (l := rowD cols b K.toNat) ceV_len fun x hx => by
          obtain ⟨j, hj, rfl, g1, g2⟩ := hgood x hx
          exact ceD_ok.2 (cD_ok ⟨g1, g2⟩).1
        rw [rowD_len] at h
        exact h
      have hmt : ∀ O, (rowD cols b K.toNat).map (Ce.t O) = (rowD cols b K.toNat).map (Ce.t O1) := fun O => List.map_congr_left fun x hx => by
        obtain ⟨j, hj, rfl, g1, g2⟩ := hgood x hx
        rw [cD_t ⟨g1, g2⟩, cD_t ⟨g1, g2⟩]
      have h200 : ∀ q ∈ (rowD cols b K.toNat).map (Ce.t O1), q.2.2.length ≤ 200 := fun q hq => by
        obtain ⟨x, hx, rfl⟩ := List.mem_map.1 hq
        obtain ⟨j, hj, rfl, g1, g2⟩ := hgood x hx
        rw [cD_t ⟨g1, g2⟩]
        exact chk_len (okD_zero (hok j hj)).2
      obtain ⟨X, O3, low, q1, q2, q3, q4, q5, q6⟩ := fresh_law (wv := .lst .frozen (flatV ceV (rowD cols b K.toNat)) K.toNat) (Wn := rowD cols b K.toNat) (xgood hz) hrow hmt h200 (by rw [List.length_map, rowD_len]; omega)
      exact ⟨X, O3, low, _, _, q1, q2, ⟨q3, q4, by rw [hW2]; rfl, rfl, rfl, by rw [hW2]; rfl⟩, q5, q6⟩
    · have hW2 : WV0 = .nils := by rw [hWV0]; exact if_neg hz
      have hx := xbad hz
      obtain ⟨X, O3, low, q1, q2, q3, q4, q5, q6⟩ := fresh_law (objs := O1) (O := O2) (xv := xv) (wv := .nils) (Wn := []) (want := []) (by rw [hx]; exact Fresh.nil) (fun O => rfl) (fun O => rfl) (by simp) (by simp)
      exact ⟨X, O3, low, _, _, q1, q2, ⟨q3, q4, by rw [hW2]; rfl, rfl, rfl, by rw [hW2]; rfl⟩, q5, q6⟩
  have hO1l : O1.length = 1 := by rw [hO1]; rfl
  have g1 : Ab.getObj O1 0 0 = some [v, .int .i64 K] := by rw [hO1]; rfl
  have g2 : Ab.getObj O2 0 0 = some [v, .int .i64 K] := by rw [hold2.2 0 0 (by omega)]; exact g1
  obtain ⟨N, hN⟩ : ∃ N, N = b ++ [0] := ⟨_, rfl⟩
  have lN : N.length = b.length + 1 := by rw [hN]; simp
  have f1 : ∀ (O : List AO) (x : List Int), ofIntsR .u8 O (.lst .frozen (ints .u8 x) x.length) = some x := fun O x => ofIntsR_of (ofInts_lst rfl)
  have f0 : ∀ O : List AO, ofIntsR .u8 O (.lst .frozen [.int .u8 0] 1) = some [0] := fun O => f1 O [0]
  have yO := fun O => ofIntsR_of (objs := O) hy
  have kC : ∀ O, k_CatR [y, .lst .frozen [.int .u8 0] 1] O = some (.lst (.fresh 1 false) (ints .u8 N) N.length, none) := fun O => by
    simp (disch := omega) [k_CatR, yO, f0, hN]
  have kN : ∀ O, k_Next [.lst .frozen (ints .u8 b) b.length] O = some (.lst (.fresh 1 true) (ints .u8 N) N.length, none) := fun O => by
    simp (disch := omega) [k_Next, f1, hN]
  have hN0 : ¬ N = [] := by rintro q; rw [q] at lN; simp at lN
  have hNz : ¬ N.length = 0 := by omega
  have hgO : Ab.getObj (O3 ++ [.cells (ints .u8 N) 0]) O3.length 0 = some (ints .u8 N) := by simp
  have kA : k_ApartK [.ref O3.length 0 0 N.length 1, .lst .frozen (ints .u8 N) N.length, .lst .frozen (ints .u8 N) N.length] (O3 ++ [.cells (ints .u8 N) 0]) = some (.bool true, some ((O3 ++ [AO.cells (ints .u8 N) 0]).set O3.length (AO.cells (ints .u8 (N.map spF)) 0), O3.length)) := by
    simp (disch := omega) [k_ApartK, con3, hgO, ofCellsI_ints, f1, hNz, hN0, bnd_pos]
  refine .go _ rfl rfl ?_
  simp -implicitDefEqProofs [vd]
  rw [← hO1]
  simp -implicitDefEqProofs (maxSteps := 1000000) (disch := omega) [vd, yd, yn, hy, h8, e0, e1, hwl, hwt, c_aliveA, aliveA, c_Wide, k_Wide, g1, c_Dec, k1, xd, xnt, g2, c_rDec, k1', wvd, wve, wvn, wvm, c_AlikeRow, a1, c_Texts, a2, a3, c_ApartAll, a4, blit1, c_CatR, kC, c_Next, kN, c_ApartK, kA, c_Intact, k_Intact])

end Go.Proofs.YtiaihiccaoibgaaDoor.B
set_option maxRecDepth 20000
set_option maxHeartbeats 1000000
namespace Go.Proofs.YtiaihiccaoibgaaDoor.B
open Go Go.Ab
theorem walk_KeysDecodes {D M n : Nat} {vs : List V} {args : Array Value} {W : World} (hS : ShpAll Tryd.prog (D + 64) M n [24, 28] vs) (hA : AR (top W) W vs args.toList) : Calls Tryd.prog 4 args W fun e W' => e = .returned (.bool true) ∧ Go.RowKit.Below W.heap.size W W' := by
  match vs, hS with
  | [v0, v1], ⟨s0, s1, _⟩ =>
    obtain ⟨cols, K, c1, c2, -⟩ := in_schema s0
    obtain ⟨b, k1, k2, k3⟩ := in_b8 s1
    refine whole fit T_KeysDecodes_ok (fn := Tryd.f4) (by kernel_rfl) (by kernel_rfl) ?_ hA
    show k_KeysDecodes [v0, v1] [] = _
    simp (disch := omega) [k_KeysDecodes, c1, k1, k2]

end Go.Proofs.YtiaihiccaoibgaaDoor.B
