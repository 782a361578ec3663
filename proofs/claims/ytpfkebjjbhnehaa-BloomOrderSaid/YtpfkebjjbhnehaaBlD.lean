import Derived.Test.YtpfkebjjbhnehaaBlC
set_option linter.unusedSimpArgs false
set_option linter.unusedVariables false
set_option linter.unusedSectionVars false
set_option maxRecDepth 20000
set_option maxHeartbeats 1000000
namespace Go.Proofs.Ytpfkebjjbhnehaa.B
open Go Go.Ab
def putVT (u : Int) : Option Res := if 0 ≤ u ∧ u < 18446744073709551616 then some (.lst (.fresh 1 false) (ints .u8 (M.putL u.toNat)) (M.putL u.toNat).length, none) else none
theorem putVT_nat {u : Nat} (h : u < 18446744073709551616) : putVT u = some (.lst (.fresh 1 false) (ints .u8 (M.putL u)) (M.putL u).length, none) := by
  unfold putVT; rw [if_pos (by omega), Int.toNat_natCast]
noncomputable def k_VPutT : Ab.Spec := con1 (ofInt .u64) fun u _ => putVT u
noncomputable def T_VPutT : CallF := withF T_Count 37 k_VPutT
theorem T_VPutT_ok : CallOk Try.prog T_VPutT := con_of (A := annOf [11,18] [] [] false []) fit T_Count_ok (fn := Try.f37) (by kernel_rfl) (by kernel_rfl) (by
  intro args objs r h0
  obtain ⟨_, u0, rfl, hb, hR⟩ := con1_inv h0
  obtain rfl := ofInt_inv hb
  unfold putVT at hR
  split at hR
  case isFalse => cases hR
  rename_i hu
  obtain ⟨hu0, hu1⟩ := hu
  cases hR
  obtain ⟨U, rfl⟩ := Int.eq_ofNat_of_zero_le hu0
  rw [Int.toNat_natCast]
  have hlen := M.putL_len10 (u := U) (by omega)
  obtain ⟨W, hW⟩ : ∃ W, W = M.putL U := ⟨_, rfl⟩
  rw [← hW] at hlen ⊢
  refine .go _ rfl rfl ?_
  simp
  refine .dn U (fun n s => n ≤ U ∧ s.env 0 = .int .u64 n ∧ s.objs = objs ∧ s.low = objs.length ∧ ∃ p, p ++ M.putL n = W ∧ (p = [] ∧ s.env 3 = .nils ∧ s.toks = [] ∨ p ≠ [] ∧ s.env 3 = .lst (.tok 0 1) (ints .u8 p) p.length ∧ s.toks = [p.length])) (by simp; exact hW.symm) ?_
  rintro n s ⟨hnU, g0, ho, hlo, p, hp, h3⟩
  have hpl := congrArg List.length hp
  rw [List.length_append] at hpl
  have hpos := M.putL_pos n
  have wu8 : IntKind.u8.wrap (n : Int) = (n : Int) % 256 := rfl
  have hfd : (n : Int).fdiv 128 = ((n / 128 : Nat) : Int) := by rw [Int.fdiv_eq_ediv_of_nonneg _ (by decide)]; omega
  by_cases hn : n < 128
  · rw [M.putL_small hn] at hp
    have hwb : IntKind.u8.wrap (n : Int) = n := wrap_u8 (by omega) (by omega)
    have hge : ¬ (128 : Int) ≤ n := by omega
    rcases h3 with ⟨rfl, g3, ht⟩ | ⟨hne, g3, ht⟩
    · have hpW : W = [(n : Int)] := hp.symm
      subst hpW
      simp -implicitDefEqProofs (disch := omega) [g0, g3, ht, hlo, ho, hge, convV, hwb, blit1, getObj_last]
      exact rfl
    · obtain ⟨k, hk⟩ : ∃ k, p.length = k + 1 := ⟨p.length - 1, by have := List.length_pos_iff.2 hne; omega⟩
      rw [hk] at g3 ht
      have hWl : W.length = k + 2 := by rw [← hp]; simp [hk]
      have es : ints .u8 p ++ [.int .u8 n] = ints .u8 W := by rw [← hp]; simp [ints]
      simp -implicitDefEqProofs (disch := omega) [g0, g3, ht, hlo, ho, hge, convV, hwb, blit1, getObj_last, set_last, hk, es, hWl]
  · have hge : (128 : Int) ≤ n := by omega
    rw [M.putL_big hn] at hp
    have hor : Go.bits .or .u8 ((n : Int) % 256) 128 = ((n % 128 + 128 : Nat) : Int) := by rw [or128 (by omega) (by omega)]; omega
    have hp' : p ++ [((n % 128 + 128 : Nat) : Int)] ++ M.putL (n / 128) = W := by rw [List.append_assoc]; exact hp
    have hlt : n / 128 < n := by omega
    have hle : n / 128 ≤ U := by omega
    rcases h3 with ⟨rfl, g3, ht⟩ | ⟨hne, g3, ht⟩
    · simp -implicitDefEqProofs (disch := omega) [g0, g3, ht, hlo, ho, hge, convV, wu8, hor, hfd, blit1, getObj_last]
      exact ⟨n / 128, hlt, hle, by omega, [((n % 128 + 128 : Nat) : Int)], hp', by simp, by simp [ints]⟩
    · obtain ⟨k, hk⟩ : ∃ k, p.length = k + 1 := ⟨p.length - 1, by have := List.length_pos_iff.2 hne; omega⟩
      rw [hk] at g3 ht
      have es : ints .u8 p ++ [.int .u8 ((n % 128 + 128 : Nat) : Int)] = ints .u8 (p ++ [((n % 128 + 128 : Nat) : Int)]) := by simp [ints]
      simp -implicitDefEqProofs (disch := omega) [g0, g3, ht, hlo, ho, hge, convV, wu8, hor, hfd, blit1, getObj_last, set_last, hk]
      exact ⟨n / 128, hlt, hle, by omega, p ++ [((n % 128 + 128 : Nat) : Int)], hp', by simp, by simp [hk], by simp [hk]⟩)

noncomputable def k_SealT : Ab.Spec := con1 (ofInts .u8) fun l objs => bnd l.length 140737488355000 (some (.lst (.fresh 1 (scalarObjs objs)) (ints .u8 (sealZ l)) (l.length + 4), none))
noncomputable def T_SealT : CallF := withF T_VPutT 36 k_SealT
theorem T_SealT_ok : CallOk Try.prog T_SealT := con_of (A := annOf [11] [] [] false [] true) fit T_VPutT_ok (fn := Try.f36) (by kernel_rfl) (by kernel_rfl) (by
  intro args objs r h0
  have c_Sum : ∀ a o, T_VPutT 49 a o = k_Sum a o := fun _ _ => rfl
  have c_tail : ∀ a o, T_VPutT 48 a o = k_tail a o := fun _ _ => rfl
  obtain ⟨v, l, rfl, ha, hR⟩ := con1_inv h0
  obtain ⟨hl, hR⟩ := bnd_inv hR
  cases hR
  obtain ⟨vd, vn, vi, va, -⟩ := bs ha
  obtain ⟨p1, p2⟩ := part1 ha
  have hl2 : l.length < 140737488355328 := by omega
  refine .go _ rfl rfl ?_
  simp -implicitDefEqProofs (disch := omega) [if_pos, vn, vd, va, p1, p2, c_Sum, c_tail, k_Sum, k_tail, hl2, setCells, getObj_last, wrap_small, Nat.mod_one, sealZ, tailZ_len, tailZ_take])
noncomputable def k_SealTH : Ab.Spec := heldF k_SealT
noncomputable def T_SealTH : CallF := withF T_SealT 36 k_SealTH
theorem T_SealTH_ok : CallOk Try.prog T_SealTH := con_held T_SealT_ok (fun _ _ => rfl)

end Go.Proofs.Ytpfkebjjbhnehaa.B
set_option maxRecDepth 20000
set_option maxHeartbeats 1000000
namespace Go.Proofs.Ytpfkebjjbhnehaa.B
open Go Go.Ab
/-! a filter written -/
def bencZ (row : List Int) : List Int := sealZ (M.putL row.length ++ row)
noncomputable def k_Enc : Ab.Spec := con1 some fun f objs => match filR objs f with | some (_, _, row) => bnd row.length 1000000000 (some (.lst (.fresh 1 true) (ints .u8 (bencZ row)) (bencZ row).length, none)) | none => none
noncomputable def T_Enc : CallF := withF T_SealTH 23 k_Enc
theorem T_Enc_ok : CallOk Try.prog T_Enc := con_of (A := annOf [] [] [(9, [.tok]),(15, [.ref])] false []) fit T_SealTH_ok (fn := Try.f23) (by kernel_rfl) (by kernel_rfl) (by
  intro args objs r h0
  have c_VPutT : ∀ a o, T_SealTH 37 a o = k_VPutT a o := fun _ _ => rfl
  have c_SealTH : ∀ a o, T_SealTH 36 a o = k_SealTH a o := fun _ _ => rfl
  obtain ⟨f, _, rfl, hf, hR⟩ := con1_inv h0
  cases hf
  split at hR
  case h_2 => cases hR
  rename_i R rv row hfil
  obtain ⟨hl, hR⟩ := bnd_inv hR
  cases hR
  obtain ⟨F, fv, rfl, g1, g2, g3⟩ := filR_inv hfil
  have wl : IntKind.u64.wrap (row.length : Int) = row.length := wrap_u64 (by omega) (by omega)
  have hp := putVT_nat (u := row.length) (by omega)
  obtain ⟨W, hW⟩ : ∃ W, W = M.putL row.length := ⟨_, rfl⟩
  have hlen := M.putL_len10 (u := row.length) (by omega)
  rw [← hW] at hp hlen
  have hb : bencZ row = sealZ (W ++ row) := by rw [bencZ, hW]
  have hs : k_SealTH [.lst .frozen (ints .u8 (W ++ row)) (W.length + row.length)] objs = some (.lst (.fresh 1 true) (ints .u8 (sealZ (W ++ row))) (W.length + row.length + 4), none) := by
    refine heldF_of (args' := [.lst .frozen (ints .u8 (W ++ row)) (W.length + row.length)]) rfl ?_ (by simp [norefs, noref]) (by simp [loneR, loneV])
    have h1 : ofInts .u8 (.lst .frozen (ints .u8 (W ++ row)) (W.length + row.length)) = some (W ++ row) := ofInts_lst (by simp)
    simp (disch := omega) [k_SealT, h1]
  have hse : ints .u8 W ++ ints .u8 row = ints .u8 (W ++ row) := by simp [ints]
  have hsl : (sealZ (W ++ row)).length = W.length + row.length + 4 := by rw [sealZ_len]; simp
  rw [hb, hsl]
  refine .go _ rfl rfl ?_
  simp -implicitDefEqProofs (disch := omega) [g1, g2, convV, wl, c_VPutT, k_VPutT, hp, hse, c_SealTH, hs, Nat.mod_one, hsl])

end Go.Proofs.Ytpfkebjjbhnehaa.B
set_option maxRecDepth 20000
set_option maxHeartbeats 1000000
namespace Go.Proofs.Ytpfkebjjbhnehaa.B
open Go Go.Ab
/-! a filter read -/
noncomputable def k_SealedH : Ab.Spec := heldF k_Sealed
noncomputable def T_SealedH : CallF := withF T_Enc 41 k_SealedH
theorem T_SealedH_ok : CallOk Try.prog T_SealedH := con_held T_Enc_ok (fun _ _ => rfl)
noncomputable def k_VGetH : Ab.Spec := heldF k_VGet
noncomputable def T_VGetH : CallF := withF T_SealedH 42 k_VGetH
theorem T_VGetH_ok : CallOk Try.prog T_VGetH := con_held T_SealedH_ok (fun _ _ => rfl)
theorem sealedH {objs : List AO} {v : V} {l : List Int} (h : ofIntsR .u8 objs v = some l) (hl : l.length < 140737488355000) : k_SealedH [v] objs = some (.bool (sealedB l), none) := by
  obtain ⟨h1, h2⟩ := told_R h
  refine heldF_of (args' := [toldV objs v]) rfl ?_ (by simp [norefs, h2]) rfl
  simp (disch := omega) [k_Sealed, h1]
theorem vgetH {objs : List AO} {v : V} {l : List Int} (h : ofIntsR .u8 objs v = some l) (hl : l.length < 140737488355000) (h8 : b8 l = true) (a : Int) : k_VGetH [v, .int .i64 a] objs = some (.tup [.int .u64 (M.getR l a).1, .int .i64 (M.getR l a).2.1, .int .i64 (M.getR l a).2.2], none) := by
  obtain ⟨h1, h2⟩ := told_R h
  refine heldF_of (args' := [toldV objs v, .int .i64 a]) rfl ?_ (by simp [norefs, h2, noref]) rfl
  simp (disch := omega) [k_VGet, h1, h8, getVR]
def bodyZ (l : List Int) : List Int := l.take (l.length - 4)
/-- The error's number, and where the row begins. -/
def decE (l : List Int) : Int :=
  if sealedB l = false then 6 else
  if (M.getR (bodyZ l) 0).2.2 ≠ 0 then (M.getR (bodyZ l) 0).2.2 else
  if (M.getR (bodyZ l) 0).1 < 8 ∨ 5120 < (M.getR (bodyZ l) 0).1 then 5 else
  if ((bodyZ l).length : Int) - (M.getR (bodyZ l) 0).2.1 < (M.getR (bodyZ l) 0).1 then 2 else
  if (M.getR (bodyZ l) 0).1 < ((bodyZ l).length : Int) - (M.getR (bodyZ l) 0).2.1 then 3 else 0
def decRow (l : List Int) : List Int := (bodyZ l).drop (M.getR (bodyZ l) 0).2.1.toNat
def decRes (n : Nat) (l : List Int) : V × List AO := if decE l = 0 then (.tup [.ptr (n + 1) 0 0, .int .i64 0], [.cells (ints .u8 (decRow l)) 0, .cells [.ref n 0 0 (decRow l).length 1] 0]) else (.tup [.nilp, .int .i64 (decE l)], [])
theorem sealed_4 {l : List Int} (h : sealedB l = true) : 4 ≤ l.length := by
  unfold sealedB at h
  simp only [decide_eq_true_eq] at h
  exact h.1
theorem nils_no {objs : List AO} {v : V} {l : List Int} (h : ofIntsR .u8 objs v = some l) (hl : 0 < l.length) : isNils v = false := by
  cases v <;> first | rfl | skip
  simp [ofIntsR, ofInts] at h
  subst h
  simp at hl
noncomputable def k_DecK : Ab.Spec := con1 some fun v objs => match ofIntsR .u8 objs v with | some l => bnd l.length 140737488353000 (if b8 l = true then some ((decRes objs.length l).1, some (objs ++ (decRes objs.length l).2, objs.length)) else none) | none => none
noncomputable def T_DecK : CallF := withF T_VGetH 26 k_DecK
theorem T_DecK_ok : CallOk Try.prog T_DecK := con_of (A := annOf [] [] [(51, [.ref])] true []) fit T_VGetH_ok (fn := Try.f26) (by kernel_rfl) (by kernel_rfl) (by
  intro args objs r h0
  have c_SealedH : ∀ a o, T_VGetH 41 a o = k_SealedH a o := fun _ _ => rfl
  have c_VGetH : ∀ a o, T_VGetH 42 a o = k_VGetH a o := fun _ _ => rfl
  have c_CloneR : ∀ a o, T_VGetH 43 a o = k_CloneR a o := fun _ _ => rfl
  obtain ⟨v, _, rfl, hv, hR⟩ := con1_inv h0
  cases hv
  split at hR
  case h_2 => cases hR
  rename_i l ha
  obtain ⟨hl, hR⟩ := bnd_inv hR
  split at hR
  case isFalse => cases hR
  rename_i h8
  cases hR
  obtain ⟨pa, vd, vn, vi, vl⟩ := bsR ha
  have s1 := sealedH ha (by omega)
  refine .goK _ rfl rfl rfl ?_
  cases hs : sealedB l with
  | false =>
    rw [hs] at s1
    have hd : decRes objs.length l = (.tup [.nilp, .int .i64 6], []) := by
      have e : decE l = 6 := by unfold decE; rw [if_pos hs]
      unfold decRes; rw [e]; rfl
    rw [hd]
    simp -implicitDefEqProofs (disch := omega) [vd, c_SealedH, s1]
  | true =>
    rw [hs] at s1
    have h4 := sealed_4 hs
    obtain ⟨m, hm⟩ : ∃ m, l.length = m + 4 := ⟨l.length - 4, by omega⟩
    obtain ⟨w, cw, hw, hwn, wd, wt⟩ := cutR ha none (some (.int .i64 (m : Int))) none 0 m rfl (by simp [boundV]) (by omega) (by omega) (.inl rfl)
    rw [List.drop_zero] at hw
    have hb : bodyZ l = l.take m := by rw [bodyZ, hm]; rfl
    obtain ⟨b, hbb⟩ : ∃ b, b = l.take m := ⟨_, rfl⟩
    rw [← hbb] at hw hb
    have hbl : b.length = m := by rw [hbb, List.length_take]; omega
    have hb8 : b8 b = true := b8_iff.2 fun c hc => b8_iff.1 h8 c (by rw [hbb] at hc; exact List.mem_of_mem_take hc)
    obtain ⟨n, p, e, hg⟩ : ∃ n p e, M.getR b 0 = (n, p, e) := ⟨_, _, _, rfl⟩
    have k1 := vgetH hw (by omega) hb8 0
    rw [hg] at k1
    obtain ⟨-, -, wn, -⟩ := bsR hw
    rw [hbl] at wn
    have hE : decE l = if e ≠ 0 then e else if n < 8 ∨ 5120 < n then 5 else if (m : Int) - p < n then 2 else if n < (m : Int) - p then 3 else 0 := by
      unfold decE
      rw [if_neg (by rw [hs]; simp), hb, hg, hbl]
    have hRw : decRow l = b.drop p.toNat := by unfold decRow; rw [hb, hg]
    have w4 : IntKind.i64.wrap ((l.length : Int) - 4) = (m : Int) := by rw [wrap_small (by omega) (by omega)]; omega
    have nn := nils_no ha (by omega)
    rw [nn] at hwn
    by_cases he : e = 0
    case neg =>
      rw [if_pos he] at hE
      have hd : decRes objs.length l = (.tup [.nilp, .int .i64 e], []) := by unfold decRes; rw [hE, if_neg he]
      rw [hd]
      simp -implicitDefEqProofs (disch := omega) [vd, vn, c_SealedH, s1, w4, cw, wd, wt, c_VGetH, k1, he]
    subst he
    rw [if_neg (by simp)] at hE
    obtain ⟨g1, g2, g3, g4, g5, g6, g7⟩ := M.getR_ok (b8_iff.1 hb8) hg
    by_cases c1 : n < 8 ∨ 5120 < n
    · rw [if_pos c1] at hE
      have hd : decRes objs.length l = (.tup [.nilp, .int .i64 5], []) := by unfold decRes; rw [hE]; rfl
      rw [hd]
      by_cases c2 : n < 8
      · simp -implicitDefEqProofs (disch := omega) [vd, vn, c_SealedH, s1, w4, cw, wd, wt, c_VGetH, k1, c2]
      · have c3 : 5120 < n := by omega
        simp -implicitDefEqProofs (disch := omega) [vd, vn, c_SealedH, s1, w4, cw, wd, wt, c_VGetH, k1, c2, c3]
    rw [if_neg c1] at hE
    have c2 : ¬ n < 8 := by omega
    have c3 : ¬ 5120 < n := by omega
    have wn2 : IntKind.i64.wrap n = n := wrap_small (by omega) (by omega)
    have wp : IntKind.i64.wrap ((m : Int) - p) = (m : Int) - p := wrap_small (by omega) (by omega)
    by_cases c4 : (m : Int) - p < n
    · rw [if_pos c4] at hE
      have hd : decRes objs.length l = (.tup [.nilp, .int .i64 2], []) := by unfold decRes; rw [hE]; rfl
      rw [hd]
      simp -implicitDefEqProofs (disch := omega) [vd, vn, wn, c_SealedH, s1, w4, cw, wd, wt, c_VGetH, k1, c2, c3, convV, wn2, wp, c4]
    rw [if_neg c4] at hE
    by_cases c5 : n < (m : Int) - p
    · rw [if_pos c5] at hE
      have hd : decRes objs.length l = (.tup [.nilp, .int .i64 3], []) := by unfold decRes; rw [hE]; rfl
      rw [hd]
      simp -implicitDefEqProofs (disch := omega) [vd, vn, wn, c_SealedH, s1, w4, cw, wd, wt, c_VGetH, k1, c2, c3, convV, wn2, wp, c4, c5]
    rw [if_neg c5] at hE
    obtain ⟨q, rfl⟩ := Int.eq_ofNat_of_zero_le (show 0 ≤ p by omega)
    rw [Int.toNat_natCast] at hRw
    obtain ⟨u, cu, hu, hun, ud, ut⟩ := cutR hw (some (.int .i64 (q : Int))) none none q m (by simp [boundV]) (by simp [boundV, hbl]) (by omega) (by omega) (.inl rfl)
    rw [← hbl, List.take_length, ← hRw] at hu
    rw [hwn] at hun
    obtain ⟨row, hrow⟩ : ∃ row, row = decRow l := ⟨_, rfl⟩
    have hd : decRes objs.length l = (.tup [.ptr (objs.length + 1) 0 0, .int .i64 0], [.cells (ints .u8 row) 0, .cells [.ref objs.length 0 0 row.length 1] 0]) := by unfold decRes; rw [hE, hrow]; rfl
    rw [hd]
    rw [← hrow] at hu hRw
    have hrl : row.length = m - q := by rw [hRw, List.length_drop, hbl]
    have kc : k_CloneR [u] objs = some (.lst (.fresh 1 true) (ints .u8 row) row.length, none) := by simp (disch := omega) [k_CloneR, hu, hun]
    simp -implicitDefEqProofs (disch := omega) [vd, vn, wn, c_SealedH, s1, w4, cw, wd, wt, c_VGetH, k1, c2, c3, convV, wn2, wp, c4, c5, cu, ud, ut, c_CloneR, kc, fitF])

end Go.Proofs.Ytpfkebjjbhnehaa.B
set_option maxRecDepth 20000
set_option maxHeartbeats 1000000
namespace Go.Proofs.Ytpfkebjjbhnehaa.B
open Go Go.Ab
/-! two rows put together -/
def or8 (c d : Int) : Int := Go.bits .or .u8 c d
theorem bitI_nat (c k : Nat) : bitI (c : Int) k = c.testBit k := by
  rw [bitI, Nat.testBit_eq_decide_div_mod_eq]
  exact decide_eq_decide.2 (by
    rw [show (2 : Int) ^ k = ((2 ^ k : Nat) : Int) by simp]
    constructor <;> intro h <;> omega)
theorem or8_at {c d : Int} (h0 : 0 ≤ c) (h1 : c < 256) (h2 : 0 ≤ d) (h3 : d < 256) : 0 ≤ or8 c d ∧ or8 c d < 256 ∧ ∀ j, bitI (or8 c d) j = (bitI c j || bitI d j) := by
  obtain ⟨a, rfl⟩ := Int.eq_ofNat_of_zero_le h0
  obtain ⟨b, rfl⟩ := Int.eq_ofNat_of_zero_le h2
  have e : or8 (a : Int) (b : Int) = ((a ||| b : Nat) : Int) := (Go.bits_nat .u8 8 (by decide) Go.wraps_u8 a b (by omega) (by omega)).2
  have hlt : a ||| b < 2 ^ 8 := Nat.or_lt_two_pow (by omega) (by omega)
  rw [e]
  refine ⟨by omega, by omega, fun j => ?_⟩
  rw [bitI_nat, bitI_nat, bitI_nat, Nat.testBit_or]
def orP (r s : List Int) : Nat → List Int
  | 0 => r
  | i + 1 => (orP r s i).set i (or8 (nth (orP r s i) i) (nth s i))
theorem orP_len (r s : List Int) : ∀ i, (orP r s i).length = r.length
  | 0 => rfl
  | i + 1 => by rw [orP, List.length_set]; exact orP_len r s i
theorem orP_nth (r s : List Int) : ∀ i, i ≤ r.length → ∀ j, j < r.length → nth (orP r s i) j = if j < i then or8 (nth r j) (nth s j) else nth r j
  | 0, _, j, _ => by simp [orP]
  | i + 1, hi, j, hj => by
    have ih := orP_nth r s i (by omega)
    rw [orP]
    by_cases e : j = i
    · subst e
      rw [nthS_eq (by rw [orP_len]; exact hj), ih j hj, if_neg (by omega), if_pos (by omega)]
    · rw [nthS_ne e, ih j hj]
      by_cases q : j < i
      · rw [if_pos q, if_pos (by omega)]
      · rw [if_neg q, if_neg (by omega)]
def orR (r s : List Int) : List Int := orP r s r.length
theorem orR_len (r s : List Int) : (orR r s).length = r.length := orP_len r s _
theorem orR_nth {r s : List Int} {j : Nat} (hj : j < r.length) : nth (orR r s) j = or8 (nth r j) (nth s j) := by rw [orR, orP_nth r s _ (Nat.le_refl _) j hj, if_pos hj]
theorem orR_b8 {r s : List Int} (h1 : b8 r = true) (h2 : b8 s = true) (hl : r.length = s.length) : b8 (orR r s) = true := by
  refine b8_iff.2 fun c hc => ?_
  obtain ⟨j, hj, rfl⟩ := List.getElem_of_mem hc
  rw [orR_len] at hj
  rw [← nth_lt (by rw [orR_len]; exact hj), orR_nth hj]
  obtain ⟨a0, a1⟩ := b8_iff.1 h1 _ (nth_mem hj)
  obtain ⟨b0, b1⟩ := b8_iff.1 h2 _ (nth_mem (show j < s.length by omega))
  exact ⟨(or8_at a0 a1 b0 b1).1, (or8_at a0 a1 b0 b1).2.1⟩
theorem orR_bits {r s : List Int} (h1 : b8 r = true) (h2 : b8 s = true) (hl : r.length = s.length) {p : Nat} (hp : p < 8 * r.length) : nth (bitsZ (orR r s)) p = (nth (bitsZ r) p || nth (bitsZ s) p) := by
  have hj : p / 8 < r.length := by omega
  rw [bitsZ_nth _ _ (by rw [orR_len]; exact hp), bitsZ_nth _ _ hp, bitsZ_nth _ _ (by omega), orR_nth hj]
  obtain ⟨a0, a1⟩ := b8_iff.1 h1 _ (nth_mem hj)
  obtain ⟨b0, b1⟩ := b8_iff.1 h2 _ (nth_mem (show p / 8 < s.length by omega))
  exact (or8_at a0 a1 b0 b1).2.2 _
theorem bound_of {objs : List AO} {id ver : Nat} {cs : List V} (h : Ab.getObj objs id ver = some cs) : id < objs.length := getObj_lt h
noncomputable def k_Merge : Ab.Spec := con2 some some fun f o objs => match filR objs f, filR objs o with
  | some (R, rv, row), some (Q, _, row2) => bnd row.length 1099511627776 (if row.length = row2.length then (if 0 < row.length ∧ R ≠ Q then some (.int .i64 0, some (objs.set R (.cells (ints .u8 (orR row row2)) rv), R)) else none) else some (.int .i64 1, none))
  | _, _ => none
noncomputable def T_Merge : CallF := withF T_DecK 29 k_Merge
theorem T_Merge_ok : CallOk Try.prog T_Merge := con_of (A := annOf [] [] [] false []) fit T_DecK_ok (fn := Try.f29) (by kernel_rfl) (by kernel_rfl) (by
  intro args objs r h0
  obtain ⟨f, o, _, _, rfl, hf, ho, hR⟩ := con2_inv h0
  cases hf; cases ho
  split at hR
  case h_2 => cases hR
  rename_i R rv row Q qv row2 hfil hfil2
  obtain ⟨hl, hR⟩ := bnd_inv hR
  obtain ⟨F, fv, rfl, g1, g2, g3⟩ := filR_inv hfil
  obtain ⟨O, ov, rfl, q1, q2, q3⟩ := filR_inv hfil2
  refine .go _ rfl rfl ?_
  split at hR
  case isFalse =>
    rename_i hne
    cases hR
    have hz : ¬ ((row.length : Int) = row2.length) := by omega
    simp -implicitDefEqProofs (disch := omega) [g1, q1, hz]
  rename_i heq
  split at hR
  case isFalse => cases hR
  rename_i hc
  obtain ⟨hpos, hRQ⟩ := hc
  cases hR
  rw [← heq] at q1
  simp -implicitDefEqProofs (disch := omega) [g1, q1]
  have hRl := getObj_lt g2
  have hQl := getObj_lt q2
  obtain ⟨S, hS⟩ : ∃ S : List Int → List AO, S = fun r => objs.set R (.cells (ints .u8 r) rv) := ⟨_, rfl⟩
  have hS0 : S row = objs := by
    rw [hS]
    refine List.ext_getElem? fun k => ?_
    show (objs.set R _)[k]? = _
    by_cases q : R = k
    · subst q; rw [List.getElem?_set_self hRl]; exact (getObj_get g2).symm
    · rw [List.getElem?_set_ne q]
  have sne : ∀ r id ver, id ≠ R → Ab.getObj (S r) id ver = Ab.getObj objs id ver := fun r id ver h => by rw [hS]; exact getObj_set_ne (fun q => h q.symm)
  have sR : ∀ r, Ab.getObj (S r) R rv = some (ints .u8 r) := fun r => by rw [hS]; exact getObj_set hRl
  have sS : ∀ r r', (S r).set R (.cells (ints .u8 r') rv) = S r' := fun r r' => by rw [hS]; show (objs.set R _).set R _ = _; rw [List.set_set]
  have sl : ∀ r, (S r).length = objs.length := fun r => by rw [hS]; simp
  have cell1 : ∀ {X : Nat} {xv m : Nat}, Ab.getObj objs X xv = some [.ref R rv 0 m 1] → X ≠ R := fun {X xv m} h q => by
    subst q
    have a1 := getObj_get h
    have a2 := getObj_get g2
    rw [a1] at a2
    injection a2 with a2
    injection a2 with a2 a3
    cases row with
    | nil => simp at hpos
    | cons c row => simp [ints] at a2
  have hFR := cell1 g1
  have sF : ∀ r, Ab.getObj (S r) F fv = some [.ref R rv 0 row.length 1] := fun r => by rw [sne r _ _ hFR]; exact g1
  have sQ : ∀ r, Ab.getObj (S r) Q qv = some (ints .u8 row2) := fun r => by rw [sne r _ _ (fun q => hRQ q.symm)]; exact q2
  obtain ⟨I, hI⟩ : ∃ I : Nat → St → Prop, I = (fun (i : Nat) (z : St) => z.env 0 = .ptr F fv 0 ∧ z.env 21 = .ref Q qv 0 row.length 1 ∧ z.env 22 = .int .i64 row.length ∧ z.env 23 = .int .i64 i ∧ z.toks = [] ∧ z.objs = S (orP row row2 i) ∧ z.low = if i = 0 then objs.length else R) := ⟨_, rfl⟩
  refine .up row.length I (by rw [hI]; exact ⟨by simp, by simp, by simp, by simp, rfl, by simp [orP, hS0], by simp⟩) ?_
  intro i z hi hz
  rw [hI] at hz
  obtain ⟨e0, e21, e22, e23, ht, ho, hlo⟩ := hz
  rcases Nat.lt_or_ge i row.length with h | h
  · obtain ⟨r, hr⟩ : ∃ r, r = orP row row2 i := ⟨_, rfl⟩
    have hrl : r.length = row.length := by rw [hr, orP_len]
    have hst : orP row row2 (i + 1) = r.set i (or8 (nth r i) (nth row2 i)) := by rw [hr]; rfl
    rw [← hr] at ho
    have l1 : (ints .u8 r)[i]? = some (.int .u8 (nth r i)) := map_nth (by omega)
    have l2 : (ints .u8 row2)[i]? = some (.int .u8 (nth row2 i)) := map_nth (by omega)
    have hset := intsS (k := .u8) (c := or8 (nth r i) (nth row2 i)) (show i < r.length by omega)
    have ho' : Go.bits .or .u8 (nth r i) (nth row2 i) = or8 (nth r i) (nth row2 i) := rfl
    have h1 : i + 1 ≤ row.length := h
    have wi : IntKind.i64.wrap ((i : Int) + 1) = (i : Int) + 1 := wrap_small (by omega) (by omega)
    have hRl' : R < objs.length := hRl
    simp -implicitDefEqProofs (disch := omega) [e0, e21, e22, e23, ht, ho, sF, sQ, sR, h, h1, l1, l2, ho', hset, hrl, sS, wi]
    rw [hI]
    refine ⟨by simp [e0], by simp [e21], by simp [e22], by simp, by simp, by rw [hst], ?_⟩
    show (if R < z.low then R else z.low) = if i + 1 = 0 then objs.length else R
    rw [if_neg (show ¬ i + 1 = 0 by omega), hlo]
    by_cases q : i = 0
    · rw [if_pos q, if_pos (by omega)]
    · rw [if_neg q, if_neg (by omega)]
  · obtain rfl : i = row.length := by omega
    have hlo2 : z.low = R := by rw [hlo, if_neg (by omega)]
    simp -implicitDefEqProofs (disch := omega) [e0, e21, e22, e23, ht, ho, hlo2, sl, hRl]
    rw [show orP row row2 row.length = orR row row2 from rfl, hS]
    rw [List.take_of_length_le (by simp)])

end Go.Proofs.Ytpfkebjjbhnehaa.B
set_option maxRecDepth 20000
set_option maxHeartbeats 1000000
namespace Go.Proofs.Ytpfkebjjbhnehaa.B
open Go Go.Ab
/-! the sum, plain mathematics -/
def R32 (s : Int) : Prop := 0 ≤ s ∧ s < 4294967296
theorem xor_r (a b : Int) : R32 (Go.bits .xor .u32 a b) := by
  have h := Go.bits_within .xor .u32 a b
  have h1 : IntKind.u32.min = 0 := rfl
  have h2 : IntKind.u32.max = 4294967295 := rfl
  rw [h1, h2] at h
  exact ⟨h.1, by omega⟩
theorem wrap32 {n : Int} (h0 : 0 ≤ n) (h1 : n < 4294967296) : IntKind.u32.wrap n = n := by
  show (if (false && decide (n % 4294967296 ≥ 2147483648)) then n % 4294967296 - 4294967296 else n % 4294967296) = n
  rw [if_neg (by simp)]
  exact Int.emod_eq_of_lt h0 h1
theorem step_eq {s : Int} (h : R32 s) : rstepZ s = stepZ s ∧ R32 (stepZ s) := by
  obtain ⟨h0, h1⟩ := h
  have e1 : s.fdiv 2 = s / 2 := by rw [Int.fdiv_eq_ediv_of_nonneg _ (by omega)]
  have e2 : s.tdiv 2 = s / 2 := Int.tdiv_eq_ediv_of_nonneg h0
  have e3 : s.tmod 2 = s % 2 := Int.tmod_eq_emod_of_nonneg h0
  have e4 : Go.bits .and .u32 s 1 = s % 2 := by
    rw [Go.u32_and s 1 h0 h1 (by omega) (by omega)]
    have : s.toNat &&& (1 : Int).toNat = s.toNat % 2 := Nat.and_one_is_mod _
    rw [this]; omega
  have e5 : IntKind.u32.wrap (s / 2) = s / 2 := wrap32 (by omega) (by omega)
  unfold rstepZ stepZ
  rw [e1, e2, e3, e4, e5]
  have : s % 2 = 0 ∨ s % 2 = 1 := by omega
  rcases this with h | h
  · rw [if_neg (by omega), if_pos h]; exact ⟨rfl, by omega, by omega⟩
  · rw [if_pos h, if_neg (by omega)]; exact ⟨rfl, xor_r _ _⟩
def itS : Nat → Int → Int | 0, z => z | n + 1, z => stepZ (itS n z)
theorem it_eq : ∀ (n : Nat) {z : Int}, R32 z → iterR n z = itS n z ∧ R32 (itS n z)
  | 0, z, h => ⟨rfl, h⟩
  | n + 1, z, h => by
    obtain ⟨a, b⟩ := it_eq n h
    obtain ⟨c, d⟩ := step_eq b
    simp only [iterR, itS, a]
    exact ⟨c, d⟩
theorem feed_it (s c : Int) : feedZ s c = itS 8 (Go.bits .xor .u32 s (IntKind.u32.wrap c)) := by simp only [feedZ, itS]
theorem feed_eq (s c : Int) : rfeedZ s c = feedZ s c ∧ R32 (feedZ s c) := by
  rw [feed_it]; unfold rfeedZ
  exact it_eq 8 (xor_r _ _)
theorem rextZ_cons (s c : Int) (l : List Int) : rextZ s (c :: l) = rextZ (rfeedZ s c) l := by simp only [rextZ, List.foldl_cons]
theorem ext_eq : ∀ (l : List Int) {s : Int}, R32 s → rextZ s l = extZ s l ∧ R32 (extZ s l)
  | [], s, h => ⟨rfl, h⟩
  | c :: l, s, h => by
    obtain ⟨a, b⟩ := feed_eq s c
    rw [rextZ_cons, a]
    simp only [extZ]
    exact ext_eq l b
theorem ext_app (a b : List Int) : ∀ s : Int, extZ s (a ++ b) = extZ (extZ s a) b := by
  induction a with
  | nil => intro s; rfl
  | cons c a ih => intro s; simp only [List.cons_append, extZ, ih]
theorem not_eq {s : Int} (h : R32 s) : notZ s = 4294967295 - s ∧ R32 (notZ s) := by
  refine ⟨?_, xor_r _ _⟩
  unfold notZ
  have h2 : IntKind.u32.max = 4294967295 := rfl
  rw [h2, Go.u32_xor _ _ (by omega) (by omega) h.1 h.2]
  have e : (4294967295 : Int).toNat = 2 ^ 32 - 1 := rfl
  have hb := BitVec.toNat_not (x := BitVec.ofNat 32 s.toNat)
  have h1 := h.1; have h3 := h.2
  rw [← BitVec.xor_allOnes, BitVec.toNat_xor, BitVec.toNat_allOnes, BitVec.toNat_ofNat, Nat.mod_eq_of_lt (by omega)] at hb
  rw [e, Nat.xor_comm, hb]
  have := h.1; have := h.2
  omega
theorem not_not {s : Int} (h : R32 s) : notZ (notZ s) = s := by
  obtain ⟨a, b⟩ := not_eq h
  rw [(not_eq b).1, a]; omega
theorem not0 : notZ 0 = 4294967295 := by rw [(not_eq ⟨by omega, by omega⟩).1]; rfl
theorem extend_app {s : Int} (h : R32 s) (a b : List Int) : extendZ (extendZ s a) b = extendZ s (a ++ b) := by
  unfold extendZ
  rw [not_not (ext_eq a (not_eq h).2).2, ext_app]
theorem extend_r (s : Int) (l : List Int) : R32 (extendZ s l) := xor_r _ _
theorem extend_nil {s : Int} (h : R32 s) : extendZ s [] = s := by unfold extendZ; simp only [extZ]; exact not_not h
theorem rsum_eq (l : List Int) : rsumZ l = extendZ 0 l := by
  unfold rsumZ extendZ
  rw [not0, (ext_eq l (s := 4294967295) ⟨by omega, by omega⟩).1]
  have hr := (ext_eq l (s := 4294967295) ⟨by omega, by omega⟩).2
  unfold notZ
  have h2 : IntKind.u32.max = 4294967295 := rfl
  rw [h2, Go.u32_xor _ _ hr.1 hr.2 (by omega) (by omega), Go.u32_xor _ _ (by omega) (by omega) hr.1 hr.2, Nat.xor_comm]
/-! the sum is linear -/
def stepN (s : Nat) : Nat := if s % 2 = 0 then s / 2 else s / 2 ^^^ 2197175160
theorem stepN_xor (a b : Nat) : stepN (a ^^^ b) = stepN a ^^^ stepN b := by
  have h1 : (a ^^^ b) / 2 = a / 2 ^^^ b / 2 := by
    apply Nat.eq_of_testBit_eq; intro i
    simp [Nat.testBit_xor, Nat.testBit_div_two]
  have h2 : (a ^^^ b) % 2 = (a % 2) ^^^ (b % 2) := by
    have := Nat.xor_mod_two_pow (a := a) (b := b) (n := 1)
    simpa using this
  unfold stepN
  rw [h1, h2]
  have ha : a % 2 = 0 ∨ a % 2 = 1 := by omega
  have hb : b % 2 = 0 ∨ b % 2 = 1 := by omega
  rcases ha with ha | ha <;> rcases hb with hb | hb <;> simp only [ha, hb] <;> simp
  · rw [Nat.xor_assoc]
  · ac_rfl
  · rw [Nat.xor_assoc (a / 2), Nat.xor_comm 2197175160, Nat.xor_assoc (b / 2), Nat.xor_self, Nat.xor_zero]
theorem step_N {s : Int} (h : R32 s) : stepZ s = (stepN s.toNat : Nat) := by
  obtain ⟨h0, h1⟩ := h
  have e1 : s.fdiv 2 = s / 2 := by rw [Int.fdiv_eq_ediv_of_nonneg _ (by omega)]
  have e4 : Go.bits .and .u32 s 1 = s % 2 := by
    rw [Go.u32_and s 1 h0 h1 (by omega) (by omega)]
    have : s.toNat &&& (1 : Int).toNat = s.toNat % 2 := Nat.and_one_is_mod _
    rw [this]; omega
  unfold stepZ stepN
  rw [e1, e4]
  by_cases h : s % 2 = 0
  · rw [if_pos h, if_pos (by omega)]; omega
  · rw [if_neg h, if_neg (by omega), Go.u32_xor _ _ (by omega) (by omega) (by omega) (by omega)]
    have : (s / 2).toNat = s.toNat / 2 := by omega
    rw [this]; rfl
def itN : Nat → Nat → Nat | 0, z => z | n + 1, z => stepN (itN n z)
theorem itN_xor : ∀ (n a b : Nat), itN n (a ^^^ b) = itN n a ^^^ itN n b
  | 0, _, _ => rfl
  | n + 1, a, b => by simp only [itN]; rw [itN_xor n, stepN_xor]
theorem itN_add : ∀ (n m a : Nat), itN (n + m) a = itN n (itN m a)
  | 0, m, a => by rw [Nat.zero_add]; rfl
  | n + 1, m, a => by rw [Nat.succ_add]; simp only [itN]; rw [itN_add n]
theorem it_N : ∀ (n : Nat) {z : Int}, R32 z → itS n z = (itN n z.toNat : Nat)
  | 0, z, h => by simp only [itS, itN]; have := h.1; omega
  | n + 1, z, h => by
    have h2 : R32 (itS n z) := (it_eq n h).2
    simp only [itS, itN]
    rw [step_N h2, it_N n h]; rfl
def feedN (s c : Nat) : Nat := itN 8 (s ^^^ c)
theorem feed_N {s c : Int} (hs : R32 s) (hc : 0 ≤ c ∧ c < 256) : feedZ s c = (feedN s.toNat c.toNat : Nat) := by
  rw [feed_it, it_N 8 (xor_r _ _), wrap32 hc.1 (by omega), Go.u32_xor _ _ hs.1 hs.2 hc.1 (by omega)]
  rfl
def extN (s : Nat) (l : List Nat) : Nat := l.foldl feedN s
def B8 (l : List Int) : Prop := ∀ c ∈ l, 0 ≤ c ∧ c < 256
theorem ext_N : ∀ (l : List Int) {s : Int}, R32 s → B8 l → extZ s l = (extN s.toNat (l.map Int.toNat) : Nat)
  | [], s, h, _ => by have := h.1; simp only [extZ, extN, List.map_nil, List.foldl_nil]; omega
  | c :: l, s, h, hc => by
    have h1 := feed_N h (hc c (by simp))
    simp only [extZ, extN, List.map_cons, List.foldl_cons]
    rw [ext_N l (feed_eq s c).2 (fun d hd => hc d (by simp [hd])), h1]; rfl
theorem B8.take {l : List Int} (h : B8 l) (n : Nat) : B8 (l.take n) := fun c hc => h c (List.mem_of_mem_take hc)
theorem B8.drop {l : List Int} (h : B8 l) (n : Nat) : B8 (l.drop n) := fun c hc => h c (List.mem_of_mem_drop hc)
theorem B8.app {l m : List Int} (h : B8 l) (k : B8 m) : B8 (l ++ m) := fun c hc => by
  rcases List.mem_append.1 hc with q | q
  · exact h c q
  · exact k c q
theorem B8.nth {l : List Int} (h : B8 l) (i : Nat) : 0 ≤ nth l i ∧ nth l i < 256 := by
  rcases Nat.lt_or_ge i l.length with q | q
  · exact h _ (nth_mem q)
  · have : Go.Ab.nth l i = 0 := by simp [Go.Ab.nth, List.getElem?_eq_none q]
    rw [this]; omega
theorem B8_tail (s : Int) : B8 (tailZ s) := by
  intro c hc
  simp only [tailZ, List.mem_cons, List.not_mem_nil, or_false] at hc
  rcases hc with rfl | rfl | rfl | rfl <;> rw [wrapU8] <;> omega
theorem xor_zero_eq {x y : Nat} (h : x ^^^ y = 0) : x = y := by
  have : x ^^^ y ^^^ y = y := by rw [h, Nat.zero_xor]
  rwa [Nat.xor_assoc, Nat.xor_self, Nat.xor_zero] at this
/-! bytes as one number -/
def num : List Nat → Nat | [] => 0 | c :: l => c ^^^ (num l <<< 8)
theorem itN_shift : ∀ (k y : Nat), itN k (y <<< k) = y
  | 0, y => by simp [itN]
  | k + 1, y => by
    rw [itN_add k 1]
    have h : stepN (y <<< (k + 1)) = y <<< k := by
      unfold stepN
      have e : y <<< (k + 1) = 2 * (y <<< k) := by rw [Nat.shiftLeft_succ]
      rw [e, if_pos (by omega)]; omega
    show itN k (stepN (y <<< (k + 1))) = y
    rw [h, itN_shift k]
theorem extN_num : ∀ (l : List Nat) (r : Nat), extN r l = itN (8 * l.length) (r ^^^ num l)
  | [], r => by simp [extN, num, itN]
  | c :: l, r => by
    have h := extN_num l (feedN r c)
    simp only [extN, List.foldl_cons] at h ⊢
    rw [h]
    simp only [num, List.length_cons]
    rw [show 8 * (l.length + 1) = 8 * l.length + 8 by omega, itN_add, ← Nat.xor_assoc, itN_xor 8, itN_shift]
    rfl
theorem stepN_lt {x : Nat} (h : x < 4294967296) : stepN x < 4294967296 := by
  unfold stepN
  split
  · omega
  · exact Nat.xor_lt_two_pow (n := 32) (by omega) (by decide)
theorem stepN_pos {x : Nat} (h : x < 4294967296) (h0 : 0 < x) : 0 < stepN x := by
  unfold stepN
  split
  · omega
  · apply Nat.pos_of_ne_zero
    intro q
    have := xor_zero_eq q
    omega
theorem itN_pos : ∀ (n : Nat) {x : Nat}, x < 4294967296 → 0 < x → 0 < itN n x ∧ itN n x < 4294967296
  | 0, x, h, h0 => ⟨h0, h⟩
  | n + 1, x, h, h0 => by
    obtain ⟨a, b⟩ := itN_pos n h h0
    exact ⟨stepN_pos b a, stepN_lt b⟩
theorem itN_inj {n x y : Nat} (hx : x < 4294967296) (hy : y < 4294967296) (h : itN n x = itN n y) : x = y := by
  rcases Nat.eq_zero_or_pos (x ^^^ y) with q | q
  · exact xor_zero_eq q
  · exfalso
    have h2 := (itN_pos n (Nat.xor_lt_two_pow (n := 32) hx hy) q).1
    rw [itN_xor, h, Nat.xor_self] at h2
    omega
theorem xor_low {c y : Nat} (h : c < 256) : (c ^^^ (y <<< 8)) % 256 = c ∧ (c ^^^ (y <<< 8)) / 256 = y := by
  constructor
  · have := Nat.xor_mod_two_pow (a := c) (b := y <<< 8) (n := 8)
    have h2 : (y <<< 8) % 2 ^ 8 = 0 := by rw [Nat.shiftLeft_eq]; exact Nat.mul_mod_left _ _
    have h3 : c % 2 ^ 8 = c := Nat.mod_eq_of_lt h
    rw [h2, h3, Nat.xor_zero] at this
    exact this
  · have e : (c ^^^ (y <<< 8)) / 256 = (c ^^^ (y <<< 8)) >>> 8 := by rw [Nat.shiftRight_eq_div_pow]
    rw [e, Nat.shiftRight_xor_distrib]
    have h2 : c >>> 8 = 0 := by rw [Nat.shiftRight_eq_div_pow]; exact Nat.div_eq_of_lt h
    rw [h2, Nat.zero_xor, Nat.shiftLeft_shiftRight]
theorem num_inj : ∀ {l m : List Nat}, l.length = m.length → (∀ c ∈ l, c < 256) → (∀ c ∈ m, c < 256) → num l = num m → l = m
  | [], [], _, _, _, _ => rfl
  | c :: l, d :: m, h, hl, hm, e => by
    simp only [num] at e
    obtain ⟨a1, a2⟩ := xor_low (c := c) (y := num l) (hl c (by simp))
    obtain ⟨b1, b2⟩ := xor_low (c := d) (y := num m) (hm d (by simp))
    rw [e] at a1 a2
    have h1 : c = d := by omega
    have h2 : num l = num m := by omega
    rw [h1, num_inj (by simpa using h) (fun x hx => hl x (by simp [hx])) (fun x hx => hm x (by simp [hx])) h2]
def nats (l : List Int) : List Nat := l.map Int.toNat
theorem nats_lt {l : List Int} (h : B8 l) : ∀ c ∈ nats l, c < 256 := by
  intro c hc
  obtain ⟨x, hx, rfl⟩ := List.mem_map.1 hc
  have := h x hx; omega
theorem nats_inj {l m : List Int} (hl : B8 l) (hm : B8 m) (h : nats l = nats m) : l = m := by
  have hlen : l.length = m.length := by have := congrArg List.length h; simpa [nats] using this
  refine ext_nth hlen fun i hi => ?_
  have h1 : nth (nats l) i = nth (nats m) i := by rw [h]
  unfold nats at h1
  rw [nth_map hi, nth_map (by omega)] at h1
  have a := hl.nth i; have b := hm.nth i
  omega
theorem numZ_inj {l m : List Int} (hl : B8 l) (hm : B8 m) (hn : l.length = m.length) (h : num (nats l) = num (nats m)) : l = m :=
  nats_inj hl hm (num_inj (by simpa [nats] using hn) (nats_lt hl) (nats_lt hm) h)
theorem num4 {a b c d : Nat} (ha : a < 256) (hb : b < 256) (hc : c < 256) (hd : d < 256) : num [a, b, c, d] = a + 256 * (b + 256 * (c + 256 * d)) := by
  have h1 := xor_low (c := d) (y := 0) hd
  have h2 := xor_low (c := c) (y := num [d]) hc
  have h3 := xor_low (c := b) (y := num [c, d]) hb
  have h4 := xor_low (c := a) (y := num [b, c, d]) ha
  simp only [num] at h1 h2 h3 h4 ⊢
  simp only [Nat.zero_shiftLeft, Nat.xor_zero] at h1 h2 h3 h4 ⊢
  omega
theorem num_tail {s : Int} (h : R32 s) : num (nats (tailZ s)) = s.toNat := by
  obtain ⟨h0, h1⟩ := h
  have e1 : s.fdiv 256 = s / 256 := by rw [Int.fdiv_eq_ediv_of_nonneg _ (by omega)]
  have e2 : s.fdiv 65536 = s / 65536 := by rw [Int.fdiv_eq_ediv_of_nonneg _ (by omega)]
  have e3 : s.fdiv 16777216 = s / 16777216 := by rw [Int.fdiv_eq_ediv_of_nonneg _ (by omega)]
  unfold tailZ nats
  rw [e1, e2, e3]
  simp only [wrapU8, List.map_cons, List.map_nil]
  rw [num4 (by omega) (by omega) (by omega) (by omega)]
  omega
theorem num_lt4 {l : List Int} (h : B8 l) (hl : l.length = 4) : num (nats l) < 4294967296 := by
  match l, hl with
  | [a, b, c, d], _ =>
    have ha := h a (by simp); have hb := h b (by simp); have hc := h c (by simp); have hd := h d (by simp)
    simp only [nats, List.map_cons, List.map_nil]
    rw [num4 (by omega) (by omega) (by omega) (by omega)]
    omega
/-- The register behind all bytes. -/
def regN (l : List Int) : Nat := extN 4294967295 (nats l)
theorem regN_num (l : List Int) : regN l = itN (8 * l.length) (4294967295 ^^^ num (nats l)) := by
  unfold regN; rw [extN_num]; simp [nats]
theorem nats_app (l m : List Int) : nats (l ++ m) = nats l ++ nats m := by simp [nats]
theorem sum1 {l : List Int} (h : B8 l) : sumZ [l] = 4294967295 - (regN l : Int) ∧ R32 (sumZ [l]) ∧ regN l < 4294967296 := by
  have e : sumZ [l] = notZ (extZ 4294967295 l) := by show notZ (extZ (notZ 0) l) = _; rw [not0]
  have hr := (ext_eq l (s := 4294967295) ⟨by omega, by omega⟩).2
  have h2 := ext_N l (s := 4294967295) ⟨by omega, by omega⟩ h
  have h3 : extZ 4294967295 l = (regN l : Int) := h2
  rw [e]
  refine ⟨by rw [(not_eq hr).1, h3], (not_eq hr).2, ?_⟩
  have := hr.2; omega
theorem xor_ones {x : Nat} (h : x < 4294967296) : 4294967295 ^^^ x = 4294967295 - x := by
  have hb := BitVec.toNat_not (x := BitVec.ofNat 32 x)
  rw [← BitVec.xor_allOnes, BitVec.toNat_xor, BitVec.toNat_allOnes, BitVec.toNat_ofNat, Nat.mod_eq_of_lt (by omega)] at hb
  rw [Nat.xor_comm]
  have e : (4294967295 : Nat) = 2 ^ 32 - 1 := rfl
  rw [e, hb]
def sealC : Nat := itN 32 4294967295
/-- Sealed just where the register is the one. -/
theorem sealed_iff {l : List Int} (h : B8 l) : sealedB l = true ↔ 4 ≤ l.length ∧ regN l = sealC := by
  unfold sealedB
  rw [decide_eq_true_eq]
  refine and_congr_right fun h4 => ?_
  obtain ⟨n, hn⟩ : ∃ n, n = l.length - 4 := ⟨_, rfl⟩
  rw [← hn]
  obtain ⟨s1, s2, s3⟩ := sum1 (h.take n)
  have ht : (l.drop n).length = 4 := by simp; omega
  have hl := num_lt4 (h.drop n) ht
  have e1 : regN l = itN 32 (regN (l.take n) ^^^ num (nats (l.drop n))) := by
    have : regN l = extN (regN (l.take n)) (nats (l.drop n)) := by
      unfold regN extN
      rw [← List.foldl_append, ← nats_app, List.take_append_drop]
    have h8 : (nats (l.drop n)).length = 4 := by unfold nats; rw [List.length_map, ht]
    rw [this, extN_num, h8]
  rw [e1]
  have hx := xor_ones s3
  constructor
  · intro q
    have h5 : num (nats (l.drop n)) = 4294967295 ^^^ regN (l.take n) := by
      rw [q, num_tail s2, s1, hx]; omega
    rw [h5, Nat.xor_comm 4294967295, ← Nat.xor_assoc, Nat.xor_self, Nat.zero_xor]; rfl
  · intro q
    have h6 : regN (l.take n) ^^^ num (nats (l.drop n)) = 4294967295 := itN_inj (Nat.xor_lt_two_pow (n := 32) s3 hl) (by omega) q
    have h7 : num (nats (l.drop n)) = 4294967295 ^^^ regN (l.take n) := by
      rw [← h6, Nat.xor_comm (regN _), Nat.xor_assoc, Nat.xor_self, Nat.xor_zero]
    refine numZ_inj (h.drop n) (B8_tail _) (by rw [ht]; rfl) ?_
    rw [num_tail s2, h7, hx, s1]; omega
theorem sealZ_B8 {l : List Int} (h : B8 l) : B8 (sealZ l) := h.app (B8_tail _)
theorem sealed_seal (l : List Int) : sealedB (sealZ l) = true := by
  unfold sealedB
  rw [sealZ_len, show l.length + 4 - 4 = l.length by omega]
  simp [sealZ]
/-- A turned run is told. -/
theorem told_run {x y : List Int} (hx : B8 x) (hy : B8 y) (hn : y.length = x.length) {p k : Nat} (hp : 0 < p) (hp2 : p < 4294967296) (hk : k ≤ 8 * x.length) (h : num (nats y) = num (nats x) ^^^ (p <<< k)) (hs : sealedB x = true) : sealedB y = false := by
  obtain ⟨h4, hr⟩ := (sealed_iff hx).1 hs
  rw [Bool.eq_false_iff]
  intro q
  obtain ⟨_, hr2⟩ := (sealed_iff hy).1 q
  rw [regN_num] at hr hr2
  rw [hn, h, ← Nat.xor_assoc, itN_xor, hr] at hr2
  have e : itN (8 * x.length) (p <<< k) = itN (8 * x.length - k) p := by
    rw [show 8 * x.length = (8 * x.length - k) + k by omega, itN_add, itN_shift]
    congr 1; omega
  have hz : itN (8 * x.length) (p <<< k) = 0 := by
    have := congrArg (fun z => sealC ^^^ z) hr2
    rwa [← Nat.xor_assoc, Nat.xor_self, Nat.zero_xor] at this
  rw [e] at hz
  have := (itN_pos (8 * x.length - k) hp2 hp).1
  omega
/-! turned bits, as numbers -/
theorem shl_xor (a b k : Nat) : (a ^^^ b) <<< k = (a <<< k) ^^^ (b <<< k) := Nat.shiftLeft_xor_distrib
theorem num_set : ∀ (l : List Nat) (i d : Nat), i < l.length → num (l.set i (nth l i ^^^ d)) = num l ^^^ (d <<< (8 * i))
  | [], i, d, h => by simp at h
  | c :: l, 0, d, h => by
    simp only [List.set_cons_zero, num, nth_cons_zero, Nat.mul_zero, Nat.shiftLeft_zero]
    rw [Nat.xor_assoc, Nat.xor_comm d, ← Nat.xor_assoc]
  | c :: l, i + 1, d, h => by
    simp only [List.set_cons_succ, num, nth_cons_succ]
    rw [num_set l i d (by simpa using h), shl_xor, ← Nat.xor_assoc, ← Nat.shiftLeft_add]
    rfl

/-! the document's sum behind the bytes is the program's -/
theorem u64_small {n : Int} (h0 : 0 ≤ n) (h1 : n < 18446744073709551616) : IntKind.u64.wrap n = n := wrap_u64 h0 h1
theorem divs_le {s : Int} (h0 : 0 ≤ s) (h1 : s < 18446744073709551616) : IntKind.u64.wrap (s.tdiv 256) = s / 256 := by
  rw [Int.tdiv_eq_ediv_of_nonneg h0, u64_small (by omega) (by omega)]
theorem low4 {s : Int} (h : R32 s) : lowZ 4 (IntKind.u64.wrap s) = tailZ s := by
  obtain ⟨h0, h1⟩ := h
  rw [u64_small h0 (by omega)]
  have d1 : divs 1 s = s / 256 := by simp only [divs]; exact divs_le h0 (by omega)
  have d2 : divs 2 s = s / 256 / 256 := by
    have : divs 2 s = IntKind.u64.wrap ((divs 1 s).tdiv 256) := rfl
    rw [this, d1]; exact divs_le (by omega) (by omega)
  have d3 : divs 3 s = s / 256 / 256 / 256 := by
    have : divs 3 s = IntKind.u64.wrap ((divs 2 s).tdiv 256) := rfl
    rw [this, d2]; exact divs_le (by omega) (by omega)
  have e : lowZ 4 s = [IntKind.u8.wrap ((divs 0 s).tmod 256), IntKind.u8.wrap ((divs 1 s).tmod 256), IntKind.u8.wrap ((divs 2 s).tmod 256), IntKind.u8.wrap ((divs 3 s).tmod 256)] := rfl
  have d0 : divs 0 s = s := rfl
  rw [e, d0, d1, d2, d3]
  unfold tailZ
  simp only [wrapU8, Int.fdiv_eq_ediv_of_nonneg _ (show (0 : Int) ≤ 256 by omega), Int.fdiv_eq_ediv_of_nonneg _ (show (0 : Int) ≤ 65536 by omega), Int.fdiv_eq_ediv_of_nonneg _ (show (0 : Int) ≤ 16777216 by omega), List.cons.injEq, and_true]
  rw [Int.tmod_eq_emod_of_nonneg h0, Int.tmod_eq_emod_of_nonneg (by omega), Int.tmod_eq_emod_of_nonneg (by omega), Int.tmod_eq_emod_of_nonneg (by omega)]
  refine ⟨?_, ?_, ?_, ?_⟩ <;> omega
theorem rsum_r (l : List Int) : rsumZ l = sumZ [l] := by rw [rsum_eq]; rfl
theorem rseal_eq (l : List Int) : rsealZ l = sealZ l := by
  unfold rsealZ sealZ
  rw [rsum_r, low4]
  rw [← rsum_r, rsum_eq]; exact extend_r _ _
theorem val4 {a b c d : Int} (ha : 0 ≤ a ∧ a < 256) (hb : 0 ≤ b ∧ b < 256) (hc : 0 ≤ c ∧ c < 256) (hd : 0 ≤ d ∧ d < 256) : valZ [a, b, c, d] = a + 256 * (b + 256 * (c + 256 * d)) := by
  simp only [valZ, List.foldr_cons, List.foldr_nil, vstep]
  rw [u64_small (n := 0 * 256) (by omega) (by omega), u64_small (n := d) (by omega) (by omega), u64_small (n := 0 * 256 + d) (by omega) (by omega),
    u64_small (n := (0 * 256 + d) * 256) (by omega) (by omega), u64_small (n := c) (by omega) (by omega), u64_small (n := (0 * 256 + d) * 256 + c) (by omega) (by omega),
    u64_small (n := ((0 * 256 + d) * 256 + c) * 256) (by omega) (by omega), u64_small (n := b) (by omega) (by omega), u64_small (n := ((0 * 256 + d) * 256 + c) * 256 + b) (by omega) (by omega),
    u64_small (n := (((0 * 256 + d) * 256 + c) * 256 + b) * 256) (by omega) (by omega), u64_small (n := a) (by omega) (by omega), u64_small (n := (((0 * 256 + d) * 256 + c) * 256 + b) * 256 + a) (by omega) (by omega)]
  omega
theorem rsealed_eq {l : List Int} (h : B8 l) : rsealedB l = sealedB l := by
  unfold rsealedB sealedB
  by_cases h4 : 4 ≤ l.length
  · have hl : (l.drop (l.length - 4)).length = 4 := by simp; omega
    have hb := h.drop (l.length - 4)
    obtain ⟨q, hq⟩ : ∃ q, q = l.drop (l.length - 4) := ⟨_, rfl⟩
    rw [← hq] at hl hb ⊢
    obtain ⟨a, b, c, d, rfl⟩ : ∃ a b c d, q = [a, b, c, d] := by
      match q, hl with
      | [a, b, c, d], _ => exact ⟨a, b, c, d, rfl⟩
    have ha := hb a (by simp)
    have hb' := hb b (by simp)
    have hc := hb c (by simp)
    have hd := hb d (by simp)
    have hs : R32 (sumZ [l.take (l.length - 4)]) := by rw [← rsum_r, rsum_eq]; exact extend_r _ _
    rw [rsum_r]
    obtain ⟨s, hs'⟩ : ∃ s, s = sumZ [l.take (l.length - 4)] := ⟨_, rfl⟩
    rw [← hs'] at hs ⊢
    obtain ⟨s0, s1⟩ := hs
    rw [u64_small s0 (by omega), val4 ha hb' hc hd]
    refine decide_eq_decide.2 (and_congr_right fun _ => ?_)
    unfold tailZ
    simp only [wrapU8, Int.fdiv_eq_ediv_of_nonneg _ (show (0 : Int) ≤ 256 by omega), Int.fdiv_eq_ediv_of_nonneg _ (show (0 : Int) ≤ 65536 by omega), Int.fdiv_eq_ediv_of_nonneg _ (show (0 : Int) ≤ 16777216 by omega), List.cons.injEq, and_true]
    omega
  · rw [decide_eq_false (by omega), decide_eq_false (by omega)]

/-! eight bits to a byte -/
theorem us8 {v : V} {l : List Int} (h : ofInts .u64 v = some l) : demote v = v ∧ lenV Try.prog 62 v = some (.int .i64 l.length) ∧ (∀ k i, 0 ≤ i → i < (l.length : Int) → indexV Try.prog 62 v (.int k i) = some (.fptr (ints .u64 l) i.toNat)) := by
  have w := ofInts_inv h
  refine ⟨w.dem, w.size u62, fun k i h0 h1 => ?_⟩
  have := w.idx u62 z38 k i h0 h1
  rwa [Nat.mul_one] at this
noncomputable def k_Pow : Ab.Spec := con1 (ofInt .i64) fun k _ => if 0 ≤ k ∧ k < 64 then some (.int .u64 (2 ^ k.toNat), none) else none
noncomputable def T_Pow : CallF := withF T_Merge 51 k_Pow
theorem T_Pow_ok : CallOk Try.prog T_Pow := con_of (A := annOf [] [] [] false []) fit T_Merge_ok (fn := Try.f51) (by kernel_rfl) (by kernel_rfl) (by
  intro args objs r h0
  obtain ⟨_, k, rfl, hk, hR⟩ := con1_inv h0
  obtain rfl := ofInt_inv hk
  split at hR
  case isFalse => cases hR
  rename_i hc
  cases hR
  obtain ⟨m, rfl⟩ := Int.eq_ofNat_of_zero_le hc.1
  rw [Int.toNat_natCast]
  refine .go _ rfl rfl ?_
  simp
  obtain ⟨I, hI⟩ : ∃ I : Nat → St → Prop, I = (fun (i : Nat) (z : St) => z.env 0 = .int .i64 m ∧ z.env 4 = .int .i64 i ∧ z.env 3 = .int .u64 (2 ^ i) ∧ z.toks = [] ∧ z.low = objs.length ∧ z.objs = objs) := ⟨_, rfl⟩
  refine .up m I (by rw [hI]; simp) ?_
  intro i z hi hz
  rw [hI] at hz
  obtain ⟨e0, e4, e3, ht, hlo, ho⟩ := hz
  rcases Nat.lt_or_ge i m with h | h
  · have hp : (0 : Int) < 2 ^ i := Int.pow_pos (by decide)
    have hp2 : (2 : Int) ^ (i + 1) ≤ 2 ^ 63 := M.ipow_le (by decide) (by omega)
    have e2 : (2 : Int) ^ i * 2 = 2 ^ (i + 1) := by rw [Int.pow_succ]
    obtain ⟨X, hX⟩ : ∃ X : Int, X = 2 ^ (i + 1) := ⟨_, rfl⟩
    rw [← hX] at e2 hp2
    have hp3 : X ≤ 9223372036854775808 := by simpa using hp2
    have wx : IntKind.u64.wrap X = X := wrap_u64 (by omega) (by omega)
    simp (disch := omega) [hI, e0, e4, e3, ht, ho, hlo, h, wrap_small, e2, wx]
    exact hX
  · obtain rfl : i = m := by omega
    simp [e0, e4, e3, ht, ho, hlo])
def wd (l : List Int) : Int := if l.any (fun u => decide (u = 1)) = true then 1 else 0
def b01 (l : List Int) : Bool := l.all fun u => decide (u = 0) || decide (u = 1)
theorem b01_at {l : List Int} (h : b01 l = true) {i : Nat} (hi : i < l.length) : nth l i = 0 ∨ nth l i = 1 := by
  have := List.all_eq_true.1 h _ (nth_mem hi)
  simpa using this
theorem wd_take {l : List Int} {i : Nat} (h : i < l.length) : wd (l.take (i + 1)) = if nth l i = 1 then 1 else wd (l.take i) := by
  unfold wd
  rw [List.take_succ_eq_append_getElem h, List.any_append, nth_lt h]
  by_cases q : l[i] = 1 <;> simp [q]
noncomputable def k_Width : Ab.Spec := con1 (ofInts .u64) fun l _ => bnd l.length 140737488355000 (if b01 l = true then some (.int .i64 (wd l), none) else none)
noncomputable def T_Width : CallF := withF T_Pow 50 k_Width
theorem T_Width_ok : CallOk Try.prog T_Width := con_of (A := annOf [] [] [] false []) fit T_Pow_ok (fn := Try.f50) (by kernel_rfl) (by kernel_rfl) (by
  intro args objs r h0
  obtain ⟨v, l, rfl, ha, hR⟩ := con1_inv h0
  obtain ⟨hl, hR⟩ := bnd_inv hR
  split at hR
  case isFalse => cases hR
  rename_i hb
  cases hR
  obtain ⟨vd, vn, vi⟩ := us8 ha
  refine .go _ rfl rfl ?_
  simp (disch := omega) [vd]
  obtain ⟨I, hI⟩ : ∃ I : Nat → St → Prop, I = (fun (i : Nat) (z : St) => z.env 0 = v ∧ z.env 4 = .int .i64 i ∧ z.env 3 = .int .i64 (wd (l.take i)) ∧ z.toks = [] ∧ z.low = objs.length ∧ z.objs = objs) := ⟨_, rfl⟩
  refine .up l.length I (by rw [hI]; simp [wd]) ?_
  intro i z hi hz
  rw [hI] at hz
  obtain ⟨e0, e4, e3, ht, hlo, ho⟩ := hz
  rcases Nat.lt_or_ge i l.length with h | h
  · have hu := b01_at hb h
    have hw := wd_take h
    obtain ⟨W, hW⟩ : ∃ W, W = wd (l.take i) := ⟨_, rfl⟩
    have hW2 : W = 0 ∨ W = 1 := by rw [hW]; unfold wd; split <;> simp
    rw [← hW] at e3 hw
    simp (disch := omega) [e0, e4, e3, ht, ho, hlo, vn, vi, h, ints_nth]
    rcases hu with hu | hu
    · rw [hu, if_neg (by decide)] at hw
      refine .up 0 (fun j z => z.env 0 = v ∧ z.env 4 = .int .i64 i ∧ z.env 3 = .int .i64 W ∧ z.env 5 = .int .i64 0 ∧ z.env 6 = .int .u64 0 ∧ z.toks = [] ∧ z.low = objs.length ∧ z.objs = objs) (by simp [e0, e4, e3, hu]) ?_
      rintro j z hj ⟨e0, e4, e3, e5, e6, ht, hlo, ho⟩
      have w0 : ¬ W < 0 := by omega
      simp (disch := omega) [hI, e0, e4, e3, e5, e6, ht, ho, hlo, w0, wrap_small, hw, h]
    · rw [hu, if_pos rfl] at hw
      refine .up 1 (fun j z => z.env 0 = v ∧ z.env 4 = .int .i64 i ∧ z.env 3 = .int .i64 W ∧ z.env 5 = .int .i64 j ∧ z.env 6 = .int .u64 (1 - j) ∧ z.toks = [] ∧ z.low = objs.length ∧ z.objs = objs) (by simp [e0, e4, e3, hu]) ?_
      rintro j z hj ⟨e0, e4, e3, e5, e6, ht, hlo, ho⟩
      rcases Nat.lt_or_ge j 1 with q | q
      · obtain rfl : j = 0 := by omega
        simp (disch := omega) [e0, e4, e3, e5, e6, ht, ho, hlo, wrap_small]
        rfl
      · obtain rfl : j = 1 := by omega
        rcases hW2 with q2 | q2
        · have w0 : W < 1 := by omega
          simp (disch := omega) [hI, e0, e4, e3, e5, e6, ht, ho, hlo, w0, wrap_small, hw, h]
        · have w0 : ¬ W < 1 := by omega
          simp (disch := omega) [hI, e0, e4, e3, e5, e6, ht, ho, hlo, w0, wrap_small, hw, h, q2]
  · obtain rfl : i = l.length := by omega
    simp [e0, e4, e3, ht, ho, hlo, vn, List.take_length])
def packP (us : List Int) : Nat → Int
  | 0 => 0
  | i + 1 => packP us i + nth us i * 2 ^ i
theorem packP_lt {us : List Int} (h : b01 us = true) : ∀ i, i ≤ us.length → 0 ≤ packP us i ∧ packP us i < 2 ^ i
  | 0, _ => by simp [packP]
  | i + 1, hi => by
    obtain ⟨h1, h2⟩ := packP_lt h i (by omega)
    have hp : (0 : Int) < 2 ^ i := Int.pow_pos (by decide)
    rw [packP, Int.pow_succ]
    rcases b01_at h (i := i) (by omega) with q | q <;> rw [q] <;> omega
noncomputable def k_Pack8 : Ab.Spec := con2 (ofInt .i64) (ofInts .u64) fun w us _ => if w = 1 ∧ us.length = 8 ∧ b01 us = true then some (.tup [.lst (.fresh 1 true) [.int .u8 (packP us 8)] 1, .int .i64 0], none) else none
noncomputable def T_Pack8 : CallF := withF T_Width 39 k_Pack8
theorem T_Pack8_ok : CallOk Try.prog T_Pack8 := con_of (A := annOf [] [24,45] [] false []) fit T_Width_ok (fn := Try.f39) (by kernel_rfl) (by kernel_rfl) (by
  intro args objs r h0
  have c_Width : ∀ a o, T_Width 50 a o = k_Width a o := fun _ _ => rfl
  have c_Pow : ∀ a o, T_Width 51 a o = k_Pow a o := fun _ _ => rfl
  obtain ⟨_, v, w, us, rfl, hw, ha, hR⟩ := con2_inv h0
  obtain rfl := ofInt_inv hw
  split at hR
  case isFalse => cases hR
  rename_i hc
  obtain ⟨rfl, hl, hb⟩ := hc
  cases hR
  obtain ⟨vd, vn, vi⟩ := us8 ha
  rw [hl] at vn
  have hwd : ¬ (1 : Int) < wd us := by unfold wd; split <;> omega
  have hl2 : us.length < 140737488355000 := by omega
  refine .go _ rfl rfl ?_
  simp -implicitDefEqProofs (disch := omega) [vd, vn, c_Width, k_Width, ha, hl2, hb, hwd, blit0]
  obtain ⟨I, hI⟩ : ∃ I : Nat → St → Prop, I = (fun (i : Nat) (z : St) => z.env 0 = .int .i64 1 ∧ z.env 1 = v ∧ z.env 8 = .int .i64 i ∧ z.env 7 = .int .i64 i ∧ z.toks = [] ∧ z.low = objs.length ∧ (i = 0 ∧ z.env 6 = .ref objs.length 0 0 0 1 ∧ z.objs = objs ++ [.cells [] 0] ∨ 0 < i ∧ z.env 6 = .ref objs.length 1 0 1 1 ∧ z.objs = objs ++ [.cells [.int .u8 (packP us i)] 1])) := ⟨_, rfl⟩
  refine .up 8 I (by rw [hI]; simp) ?_
  intro i z hi hz
  rw [hI] at hz
  obtain ⟨e0, e1, e8, e7, ht, hlo, h6⟩ := hz
  rcases Nat.lt_or_ge i 8 with h | h
  · have hu := b01_at hb (i := i) (by omega)
    obtain ⟨p0, p1⟩ := packP_lt hb i (by omega)
    obtain ⟨r0, r1⟩ := packP_lt hb (i + 1) (by omega)
    have hr : (2 : Int) ^ (i + 1) ≤ 2 ^ 8 := M.ipow_le (by decide) (by omega)
    have hr8 : packP us (i + 1) < 256 := by have : (2 : Int) ^ 8 = 256 := by decide
                                            omega
    obtain ⟨u, hu2⟩ : ∃ u, u = nth us i := ⟨_, rfl⟩
    rw [← hu2] at hu
    have hz8 : (i : Int) < 8 := by omega
    have d8 : (i : Int).tdiv 8 = 0 := by rw [Int.tdiv_eq_ediv_of_nonneg (by omega)]; omega
    have m8 : (i : Int).tmod 8 = i := by rw [Int.tmod_eq_emod_of_nonneg (by omega)]; omega
    have hpw : (0 : Int) < 2 ^ i := Int.pow_pos (by decide)
    have hpl : (2 : Int) ^ i ≤ 2 ^ 7 := M.ipow_le (by decide) (by omega)
    obtain ⟨P, hP⟩ : ∃ P : Int, P = 2 ^ i := ⟨_, rfl⟩
    have hP7 : P ≤ 128 := by rw [hP]; simpa using hpl
    have hst : packP us (i + 1) = packP us i + u * P := by rw [packP, hu2, hP]
    rw [← hP] at hpw
    obtain ⟨X, hX⟩ : ∃ X, X = u * P := ⟨_, rfl⟩
    rw [← hX] at hst
    have hXb : 0 ≤ X ∧ X ≤ 128 := by rw [hX]; rcases hu with q | q <;> rw [q] <;> omega
    have hum : u.tmod 2 = u := by rcases hu with q | q <;> rw [q] <;> rfl
    have wx : IntKind.u64.wrap X = X := wrap_u64 (by omega) (by omega)
    have wx8 : IntKind.u8.wrap X = X := wrap_u8 (by omega) (by omega)
    have wu : IntKind.u64.wrap u = u := wrap_u64 (by omega) (by omega)
    have wi : IntKind.i64.wrap (i : Int) = i := wrap_small (by omega) (by omega)
    have vx := vi .i64 i (by omega)
    have ws : IntKind.u8.wrap (packP us (i + 1)) = packP us (i + 1) := wrap_u8 (by omega) (by omega)
    have z0 : IntKind.i64.wrap 0 = 0 := rfl
    have z1 : IntKind.i64.wrap 1 = 1 := rfl
    have wi1 : IntKind.i64.wrap ((i : Int) + 1) = (i : Int) + 1 := wrap_small (by omega) (by omega)
    have kp : k_Pow [.int .i64 (i : Int)] objs = some (.int .u64 P, none) := by
      have : (i : Int) < 64 := by omega
      simp [k_Pow, this, hP]
    have kpO : ∀ O, k_Pow [.int .i64 (i : Int)] O = some (.int .u64 P, none) := fun O => by
      have : (i : Int) < 64 := by omega
      simp [k_Pow, this, hP]
    rcases h6 with ⟨rfl, e6, ho⟩ | ⟨hi0, e6, ho⟩
    · have vx0 := vi .i64 0 (by omega) (by omega)
      rw [show (0 : Int).toNat = 0 from rfl] at vx0
      have kp0 : ∀ O, k_Pow [.int .i64 0] O = some (.int .u64 P, none) := kpO
      have hx1 : packP us 1 = X := by have h := hst; rw [show packP us 0 = 0 from rfl, Int.zero_add] at h; exact h
      simp -implicitDefEqProofs (disch := omega) [e0, e1, e8, e7, e6, ht, hlo, ho, vn, vx0, ints_nth, ← hu2, blit1, getObj_last]
      refine .up 1 (fun j z => z.env 0 = .int .i64 1 ∧ z.env 1 = v ∧ z.env 8 = .int .i64 0 ∧ z.env 10 = .int .i64 j ∧ z.low = objs.length ∧ z.toks = [] ∧ (j = 0 ∧ z.env 9 = .int .u64 u ∧ z.env 7 = .int .i64 0 ∧ z.env 6 = .ref objs.length 0 0 0 1 ∧ z.objs = objs ++ [.cells [] 0] ∨ j = 1 ∧ z.env 7 = .int .i64 1 ∧ z.env 6 = .ref objs.length 1 0 1 1 ∧ z.objs = objs ++ [.cells [.int .u8 (packP us 1)] 1])) (by simp [e0, e1, e8, e7, e6, ht, hlo, ho]) ?_
      rintro j z hj ⟨e0, e1, e8, e10, hlo, ht, ⟨rfl, e9, e7, e6, ho⟩ | ⟨rfl, e7, e6, ho⟩⟩
      · simp -implicitDefEqProofs (disch := omega) [e0, e1, e8, e7, e6, e9, e10, ht, hlo, ho, blit1, getObj_last, c_Pow, kp0, convV, setCells, hum, z0, z1, wu, wx, wx8, ← hX, hx1]
      · simp -implicitDefEqProofs (disch := omega) [e0, e1, e8, e7, e6, e10, ht, hlo, ho, blit1, getObj_last, z0, z1]
        rw [hI]
        exact ⟨by simp [e0], by simp [e1], by simp, by simp [e7], by simp, by simp, .inr ⟨by omega, by simp [e6], by simp⟩⟩
    · have hi8 : ¬ i = 0 := by omega
      have hi8z : ¬ (i : Int) = 0 := by omega
      simp -implicitDefEqProofs (disch := omega) [e0, e1, e8, e7, e6, ht, hlo, ho, vn, hz8, vx, d8, m8, ints_nth, ← hu2, blit1, getObj_last]
      refine .up 1 (fun j z => z.env 0 = .int .i64 1 ∧ z.env 1 = v ∧ z.env 8 = .int .i64 i ∧ z.env 10 = .int .i64 j ∧ z.low = objs.length ∧ z.toks = [] ∧ z.env 6 = .ref objs.length 1 0 1 1 ∧ (j = 0 ∧ z.env 9 = .int .u64 u ∧ z.env 7 = .int .i64 i ∧ z.objs = objs ++ [.cells [.int .u8 (packP us i)] 1] ∨ j = 1 ∧ z.env 7 = .int .i64 (i + 1 : Nat) ∧ z.objs = objs ++ [.cells [.int .u8 (packP us (i + 1))] 1])) (by simp [e0, e1, e8, e7, e6, ht, hlo, ho]) ?_
      rintro j z hj ⟨e0, e1, e8, e10, hlo, ht, e6, ⟨rfl, e9, e7, ho⟩ | ⟨rfl, e7, ho⟩⟩
      · simp -implicitDefEqProofs (disch := omega) [e0, e1, e8, e7, e6, e9, e10, ht, hlo, ho, d8, m8, hi8, hi8z, blit1, getObj_last, c_Pow, kpO, convV, setCells, hum, z0, z1, wi1, wu, wx, wx8, wi, ws, ← hX, ← hst]
      · simp -implicitDefEqProofs (disch := omega) [e0, e1, e8, e7, e6, e10, ht, hlo, ho, blit1, getObj_last, wi1]
        rw [hI]
        exact ⟨h, by simp [e0], by simp [e1], by simp, by simp [e7], by simp, by simp, .inr ⟨by omega, by simp [e6], by simp⟩⟩
  · obtain rfl : i = 8 := by omega
    rcases h6 with ⟨h, -⟩ | ⟨-, e6, ho⟩
    · omega
    simp -implicitDefEqProofs (disch := omega) [e0, e1, e8, e7, e6, ht, hlo, ho, vn, getObj_last])

end Go.Proofs.Ytpfkebjjbhnehaa.B
