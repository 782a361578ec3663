import Derived.Test.YtjjldepikokogaaPxe
set_option linter.unusedSimpArgs false
set_option linter.unusedVariables false
set_option linter.unusedSectionVars false
set_option maxRecDepth 20000
set_option maxHeartbeats 1000000
namespace Go.Proofs.Ytjjldepikokogaa.B
open Go Go.Ab
/-! a text behind the one ahead -/
structure Txt where
  s : List Int
  next : Int
  err : Int
def Txt.bad (e : Int) : Txt := ⟨[], 0, e⟩
def textS (b last : List Int) (k m to : Nat) : List Int := last.take k ++ (b.drop to).take m
def textW (b last : List Int) (whole : Bool) (k m to : Nat) : Txt :=
  if last.length < k ∨ whole = true ∧ 0 < k then .bad 5
  else if 200 < m + k then .bad 4
  else if b.length < to + m then .bad 2
  else if whole = false ∧ sharedN last (textS b last k m to) ≠ k then .bad 5
  else ⟨textS b last k m to, ((to + m : Nat) : Int), 0⟩
def textZ (b last : List Int) (at_ : Int) (whole : Bool) : Txt := match M.getR b at_ with
  | (k, n1, e1) => if e1 ≠ 0 then .bad e1 else match M.getR b n1 with
    | (m, to, e2) => if e2 ≠ 0 then .bad e2 else textW b last whole k.toNat m.toNat to.toNat
theorem textZ_e1 {b last : List Int} {at_ k n1 e1 : Int} {whole : Bool} (h : M.getR b at_ = (k, n1, e1)) (he : e1 ≠ 0) : textZ b last at_ whole = .bad e1 := by
  unfold textZ; rw [h]; simp [he]
theorem textZ_e2 {b last : List Int} {at_ k n1 m to e2 : Int} {whole : Bool} (h : M.getR b at_ = (k, n1, 0)) (h2 : M.getR b n1 = (m, to, e2)) (he : e2 ≠ 0) : textZ b last at_ whole = .bad e2 := by
  unfold textZ; rw [h]; simp [h2, he]
theorem textZ_ok {b last : List Int} {at_ k n1 m to : Int} {whole : Bool} (h : M.getR b at_ = (k, n1, 0)) (h2 : M.getR b n1 = (m, to, 0)) : textZ b last at_ whole = textW b last whole k.toNat m.toNat to.toNat := by
  unfold textZ; rw [h]; simp [h2]
theorem textS_len {b last : List Int} {k m to : Nat} (h1 : k ≤ last.length) (h2 : to + m ≤ b.length) : (textS b last k m to).length = k + m := by
  simp [textS]; omega
theorem shared_ge {last x : List Int} : ∀ {k : Nat}, k ≤ last.length → k ≤ sharedN last (last.take k ++ x) := by
  induction last with
  | nil => intro k h; simp at h; subst h; omega
  | cons a p ih =>
    intro k h
    cases k with
    | zero => omega
    | succ k =>
      have := ih (k := k) (by simpa using h)
      simp only [List.take_succ_cons, List.cons_append, sharedN, if_true]
      omega
def txtV (nil : Bool) (t : Txt) : V := if t.err ≠ 0 then .nils else if nil = true ∧ t.s = [] then .nils else .lst (.fresh 1 true) (ints .u8 t.s) t.s.length
noncomputable def k_ptext : Ab.Spec := con4 (ofInts .u8) (ofInt .i64) some ofBool fun b p lv whole objs => match ofIntsR .u8 objs lv with
  | some last => bnd b.length 140737488352000 (if b8 b = true ∧ last.length ≤ 200 then some (.tup [txtV (isNils lv) (textZ b last p whole), .int .i64 (textZ b last p whole).next, .int .i64 (textZ b last p whole).err], none) else none)
  | none => none
noncomputable def T_ptext : CallF := withF T_CloneR 34 k_ptext
theorem T_ptext_ok : CallOk Try.prog T_ptext := con_of (A := annOf [64,72] [73] [(65, [.ref])] false []) fit T_CloneR_ok (fn := Try.f34) (by kernel_rfl) (by kernel_rfl) (by
  intro args objs r h0
  have c_VGet : ∀ a o, T_CloneR 33 a o = k_VGet a o := fun _ _ => rfl
  have c_CloneR : ∀ a o, T_CloneR 40 a o = k_CloneR a o := fun _ _ => rfl
  have c_shared : ∀ a o, T_CloneR 26 a o = k_shared a o := fun _ _ => rfl
  obtain ⟨v, _, lv, _, b, p, _, whole, rfl, ha, hp, hlv, hw, hR⟩ := con4_inv h0
  obtain rfl := ofInt_inv hp
  cases hlv
  obtain rfl := ofBool_inv hw
  split at hR
  case h_2 => cases hR
  rename_i last hla
  obtain ⟨hl, hR⟩ := bnd_inv hR
  split at hR
  case isFalse => cases hR
  rename_i hc
  obtain ⟨h8, h200⟩ := hc
  cases hR
  have hBy := b8_bytes h8
  obtain ⟨vd, vn, vi, -⟩ := bs ha
  obtain ⟨_, ld, ln, -⟩ := bsR hla
  refine .go _ rfl rfl ?_
  obtain ⟨k, n1, e1, hg1⟩ : ∃ k n1 e1, M.getR b p = (k, n1, e1) := ⟨_, _, _, rfl⟩
  have gv1 : getVR b p = some (.tup [.int .u64 k, .int .i64 n1, .int .i64 e1], none) := by unfold getVR; rw [hg1]
  by_cases he1 : e1 = 0
  case neg =>
    have ht := textZ_e1 (last := last) (whole := whole) hg1 he1
    have he1' : (e1 != 0) = true := by simpa using he1
    simp -implicitDefEqProofs (disch := omega) [vd, ld, ha, c_VGet, k_VGet, h8, gv1, ht, Txt.bad, txtV, he1, he1']
  subst he1
  obtain ⟨g1, g2, g3, g4, g5, g6, g7⟩ := M.getR_ok hBy hg1
  obtain ⟨m, to, e2, hg2⟩ : ∃ m to e2, M.getR b n1 = (m, to, e2) := ⟨_, _, _, rfl⟩
  have gv2 : getVR b n1 = some (.tup [.int .u64 m, .int .i64 to, .int .i64 e2], none) := by unfold getVR; rw [hg2]
  by_cases he2 : e2 = 0
  case neg =>
    have ht := textZ_e2 (last := last) (whole := whole) hg1 hg2 he2
    have he2' : (e2 != 0) = true := by simpa using he2
    simp -implicitDefEqProofs (disch := omega) [vd, ld, ha, c_VGet, k_VGet, h8, gv1, gv2, ht, Txt.bad, txtV, he2, he2']
  subst he2
  obtain ⟨f1, f2, f3, f4, f5, f6, f7⟩ := M.getR_ok hBy hg2
  have ht := textZ_ok (last := last) (whole := whole) hg1 hg2
  obtain ⟨K, rfl⟩ := Int.eq_ofNat_of_zero_le g5
  obtain ⟨m', rfl⟩ := Int.eq_ofNat_of_zero_le f5
  obtain ⟨t', rfl⟩ := Int.eq_ofNat_of_zero_le (show 0 ≤ to by omega)
  simp only [Int.toNat_natCast] at ht
  have wl : IntKind.u64.wrap (last.length : Int) = last.length := wrap_u64 (by omega) (by omega)
  by_cases cA : last.length < K
  · have hW : textW b last whole K m' t' = .bad 5 := by unfold textW; rw [if_pos (.inl cA)]
    rw [hW] at ht
    simp -implicitDefEqProofs (disch := omega) [vd, ld, ln, ha, c_VGet, k_VGet, h8, gv1, gv2, ht, Txt.bad, txtV, convV, wl, cA]
  by_cases cB : whole = true ∧ 0 < K
  · obtain ⟨rfl, cB⟩ := cB
    have hW : textW b last true K m' t' = .bad 5 := by unfold textW; rw [if_pos (.inr ⟨rfl, cB⟩)]
    rw [hW] at ht
    simp -implicitDefEqProofs (disch := omega) [vd, ld, ln, ha, c_VGet, k_VGet, h8, gv1, gv2, ht, Txt.bad, txtV, convV, wl, cA, cB]
  have w2 : IntKind.u64.wrap (200 - (K : Int)) = ((200 - K : Nat) : Int) := by rw [wrap_u64 (by omega) (by omega)]; omega
  have hnc : ¬ (last.length < K ∨ whole = true ∧ 0 < K) := fun q => q.elim cA cB
  by_cases cC : 200 < m' + K
  · have hW : textW b last whole K m' t' = .bad 4 := by unfold textW; rw [if_neg hnc, if_pos cC]
    rw [hW] at ht
    have cC' : ((200 - K : Nat) : Int) < m' := by omega
    have cC2 : 200 - K < m' := by omega
    cases whole with
    | true =>
      have cK : ¬ 0 < K := fun q => cB ⟨rfl, q⟩
      simp -implicitDefEqProofs (disch := omega) [vd, ld, ln, ha, c_VGet, k_VGet, h8, gv1, gv2, ht, Txt.bad, txtV, convV, wl, cA, cK, w2, cC', cC2]
    | false => simp -implicitDefEqProofs (disch := omega) [vd, ld, ln, ha, c_VGet, k_VGet, h8, gv1, gv2, ht, Txt.bad, txtV, convV, wl, cA, w2, cC', cC2]
  have cC2 : ¬ 200 - K < m' := by omega
  have wm : IntKind.i64.wrap (m' : Int) = m' := wrap_small (by omega) (by omega)
  have wbl : IntKind.i64.wrap ((b.length : Int) - t') = ((b.length - t' : Nat) : Int) := by rw [wrap_small (by omega) (by omega)]; omega
  by_cases cD : b.length < t' + m'
  · have hW : textW b last whole K m' t' = .bad 2 := by unfold textW; rw [if_neg hnc, if_neg cC, if_pos cD]
    rw [hW] at ht
    have cD2 : b.length - t' < m' := by omega
    cases whole with
    | true =>
      have cK : ¬ 0 < K := fun q => cB ⟨rfl, q⟩
      simp -implicitDefEqProofs (disch := omega) [vd, ld, ln, ha, c_VGet, k_VGet, h8, gv1, gv2, ht, Txt.bad, txtV, convV, wl, cA, cK, w2, cC2, wm, vn, wbl, cD2]
    | false => simp -implicitDefEqProofs (disch := omega) [vd, ld, ln, ha, c_VGet, k_VGet, h8, gv1, gv2, ht, Txt.bad, txtV, convV, wl, cA, w2, cC2, wm, vn, wbl, cD2]
  have cD2 : ¬ b.length - t' < m' := by omega
  have wtm : IntKind.i64.wrap ((t' : Int) + m') = (t' : Int) + m' := wrap_small (by omega) (by omega)
  obtain ⟨w1, cw1, dw1, nw1, mw1, -⟩ := cutR hla none (some (.int .u64 (K : Int))) none 0 K rfl (by simp [boundV]) (by omega) (by omega) (.inl rfl)
  rw [List.drop_zero] at dw1
  obtain ⟨w2', cw2, dw2⟩ := bcut ha [] (some (.int .i64 (t' : Int))) (some (.int .i64 ((t' : Int) + m'))) t' (t' + m') (by simp [boundV]) (by simp [boundV]; omega) (by omega) (by omega)
  have hdt : (b.take (t' + m')).drop t' = (b.drop t').take m' := by rw [List.drop_take]; congr 1; omega
  rw [hdt] at dw2
  obtain ⟨wd2, -, -, wa2, -⟩ := bs dw2
  have hSl := textS_len (b := b) (last := last) (k := K) (m := m') (to := t') (by omega) (by omega)
  obtain ⟨X, hX⟩ : ∃ X, X = (b.drop t').take m' := ⟨_, rfl⟩
  have hXl : X.length = m' := by rw [hX]; simp; omega
  rw [← hX] at dw2 wa2
  obtain ⟨Y, hY⟩ : ∃ Y, Y = last.take K := ⟨_, rfl⟩
  have hYl : Y.length = K := by rw [hY]; simp; omega
  rw [← hY] at dw1
  have hSX : textS b last K m' t' = Y ++ X := by rw [hX, hY]; rfl
  obtain ⟨S, hS⟩ : ∃ S, S = Y ++ X := ⟨_, rfl⟩
  rw [← hS] at hSX
  have hSl2 : S.length = K + m' := by rw [← hSX]; exact hSl
  rw [hSX] at hSl
  by_cases hnil : isNils lv = true
  · have hlast : last = [] := by
      unfold isNils at hnil; split at hnil
      · cases hla; rfl
      · cases hnil
    have hK0 : K = 0 := by rw [hlast] at cA; simp at cA; exact cA
    have hY0 : Y = [] := List.eq_nil_of_length_eq_zero (by omega)
    rw [hY0, List.nil_append] at hS
    have hlvn : lv = .nils := by
      unfold isNils at hnil; split at hnil
      · rfl
      · cases hnil
    have hw1n : w1 = .nils := by
      rw [hnil] at nw1
      unfold isNils at nw1; split at nw1
      · rfl
      · cases nw1
    subst hlvn
    subst hw1n
    subst hlast
    have hsh : sharedN [] S = 0 := by simp [sharedN]
    have hW : textW b [] whole K m' t' = ⟨S, ((t' + m' : Nat) : Int), 0⟩ := by
      unfold textW
      rw [if_neg hnc, if_neg cC, if_neg cD, hSX, if_neg (fun q => q.2 (by rw [hsh, hK0]))]
    rw [hW] at ht
    have eN : ∀ O, ofIntsR .u8 O V.nils = some [] := fun _ => rfl
    have wz : IntKind.u64.wrap 0 = 0 := rfl
    have wz3 : IntKind.i64.wrap 0 = 0 := rfl
    have w200 : IntKind.u64.wrap 200 = 200 := rfl
    have cw0 : ∀ O, cutV Try.prog 25 O V.nils none (some (.int .u64 0)) none = some .nils := fun O => by have := cw1 O; rw [hK0] at this; exact this
    have cC3 : ¬ (200 : Int) < m' := by omega
    by_cases hz : S = []
    · have hX0 : X = [] := by rw [← hS]; exact hz
      have ey : ints .u8 X = [] := by rw [hX0]; rfl
      have hm0 : m' = 0 := by rw [hX0] at hXl; simpa using hXl.symm
      cases whole with
      | true => simp -implicitDefEqProofs (disch := omega) [vd, ha, c_VGet, k_VGet, h8, gv1, gv2, ht, txtV, convV, wl, cA, hK0, w2, cC2, wm, vn, wbl, cD2, wtm, cw0, cw2, wz, wz3, w200, cC3, c_CloneR, k_CloneR, eN, isNils, wa2, ey, hz]
      | false => simp -implicitDefEqProofs (disch := omega) [vd, ha, c_VGet, k_VGet, h8, gv1, gv2, ht, txtV, convV, wl, cA, hK0, w2, cC2, wm, vn, wbl, cD2, wtm, cw0, cw2, wz, wz3, w200, cC3, c_CloneR, k_CloneR, eN, isNils, wa2, ey, hz, c_shared, k_shared, sharedN]
    · have hX0 : ¬ ints .u8 S = [] := fun q => hz (by have := congrArg List.length q; simp at this; exact this)
      rw [← hS] at wa2
      have eS : ∀ O : List AO, ofIntsR .u8 (O ++ [.cells (ints .u8 S) 0]) (.ref O.length 0 0 S.length 1) = some S := fun O => ofIntsR_ref (by simp) rfl
      cases whole with
      | true => simp -implicitDefEqProofs (disch := omega) [vd, ha, c_VGet, k_VGet, h8, gv1, gv2, ht, txtV, convV, wl, cA, hK0, w2, cC2, wm, vn, wbl, cD2, wtm, cw0, cw2, wz, wz3, w200, cC3, c_CloneR, k_CloneR, eN, isNils, wa2, hX0, hz, Nat.mod_one]
      | false => simp -implicitDefEqProofs (disch := omega) [vd, ha, c_VGet, k_VGet, h8, gv1, gv2, ht, txtV, convV, wl, cA, hK0, w2, cC2, wm, vn, wbl, cD2, wtm, cw0, cw2, wz, wz3, w200, cC3, c_CloneR, k_CloneR, eN, isNils, wa2, hX0, hz, c_shared, k_shared, eS, sharedN, Nat.mod_one]
  · have hnil : isNils lv = false := by simpa using hnil
    rw [hnil] at nw1
    have eA : ∀ m, ofIntsR .u8 (objs ++ m) lv = some last := fun m => ofIntsR_app hla
    have eS : ofIntsR .u8 (objs ++ [.cells (ints .u8 S) 1]) (.ref objs.length 1 0 (K + m') 1) = some S := ofIntsR_ref (by simp) hSl2.symm
    have es : ints .u8 Y ++ ints .u8 X = ints .u8 S := by rw [ints_app, hS]
    have hnn : (0 : Int) ≤ (K : Int) + m' := by omega
    have kw : IntKind.i64.wrap (K : Int) = K := wrap_small (by omega) (by omega)
    cases whole with
    | true =>
      have cK : ¬ 0 < K := fun q => cB ⟨rfl, q⟩
      have hW : textW b last true K m' t' = ⟨S, ((t' + m' : Nat) : Int), 0⟩ := by
        unfold textW
        rw [if_neg hnc, if_neg cC, if_neg cD, hSX, if_neg (fun q => by cases q.1)]
      rw [hW] at ht
      simp -implicitDefEqProofs (disch := omega) [vd, ld, ln, ha, c_VGet, k_VGet, h8, gv1, gv2, ht, txtV, convV, wl, cA, cK, w2, cC2, wm, vn, wbl, cD2, wtm, cw1, cw2, mw1, wd2, c_CloneR, k_CloneR, dw1, nw1, wa2, hYl, hXl, es, Nat.mod_one, hnn, hSl2, hnil]
    | false =>
      by_cases hsh : sharedN last S = K
      · have hW : textW b last false K m' t' = ⟨S, ((t' + m' : Nat) : Int), 0⟩ := by
          unfold textW
          rw [if_neg hnc, if_neg cC, if_neg cD, hSX, if_neg (fun q => q.2 hsh)]
        rw [hW] at ht
        simp -implicitDefEqProofs (disch := omega) [vd, ld, ln, ha, c_VGet, k_VGet, h8, gv1, gv2, ht, txtV, convV, wl, cA, w2, cC2, wm, vn, wbl, cD2, wtm, cw1, cw2, mw1, wd2, c_CloneR, k_CloneR, dw1, nw1, wa2, hYl, hXl, es, Nat.mod_one, hnn, hSl2, hnil, c_shared, k_shared, eA, eS, hsh, kw]
      · have hW : textW b last false K m' t' = .bad 5 := by
          unfold textW
          rw [if_neg hnc, if_neg cC, if_neg cD, hSX, if_pos ⟨rfl, hsh⟩]
        rw [hW] at ht
        have hne : ((sharedN last S : Int) != (K : Int)) = true := by simp only [bne_iff_ne, ne_eq]; omega
        simp -implicitDefEqProofs (disch := omega) [vd, ld, ln, ha, c_VGet, k_VGet, h8, gv1, gv2, ht, Txt.bad, txtV, convV, wl, cA, w2, cC2, wm, vn, wbl, cD2, wtm, cw1, cw2, mw1, wd2, c_CloneR, k_CloneR, dw1, nw1, wa2, hYl, hXl, es, Nat.mod_one, hnn, hSl2, hnil, c_shared, k_shared, eA, eS, hne, kw])

end Go.Proofs.Ytjjldepikokogaa.B
