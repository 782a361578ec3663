import Derived.Test.YtpfkebjjbhnehaaBlD
import Derived.Test.YtpfkebjjbhnehaaAb34
set_option linter.unusedSimpArgs false
set_option linter.unusedVariables false
set_option linter.unusedSectionVars false
set_option maxRecDepth 20000
set_option maxHeartbeats 1000000
namespace Go.Proofs.Ytpfkebjjbhnehaa.B
open Go Go.Ab
noncomputable def k_RPutT : Ab.Spec := con1 (ofInt .u64) fun u _ => putVT u
noncomputable def T_RPutT : CallF := withF T_Pack8 38 k_RPutT
theorem T_RPutT_ok : CallOk Try.prog T_RPutT := con_of (A := annOf [4,13,20] [] [] false []) fit T_Pack8_ok (fn := Try.f38) (by kernel_rfl) (by kernel_rfl) (by
  intro args objs r h0
  obtain ⟨_, u0, rfl, hb, hR⟩ := con1_inv h0
  obtain rfl := ofInt_inv hb
  unfold putVT at hR
  split at hR
  case isFalse => cases hR
  rename_i hu
  obtain ⟨hu0, hu1⟩ := hu
  cases hR
  obtain ⟨U, rfl⟩ := Int.eq_ofNat_of_zero_le hu0
  rw [Int.toNat_natCast]
  have hlen := M.putL_len10 (u := U) (by omega)
  obtain ⟨W, hW⟩ : ∃ W, W = M.putL U := ⟨_, rfl⟩
  rw [← hW] at hlen ⊢
  refine .go _ rfl rfl ?_
  simp [blit0]
  obtain ⟨I, hI⟩ : ∃ I : Nat → St → Prop, I = (fun (n : Nat) (s : St) => n ≤ U ∧ s.env 0 = .int .u64 n ∧ s.objs = objs ∧ s.low = objs.length ∧ ∃ p, p ++ M.putL n = W ∧ s.env 3 = .lst (.tok 0 1) (ints .u8 p) p.length ∧ s.toks = [p.length]) := ⟨_, rfl⟩
  refine .dn U I (by rw [hI]; exact ⟨Nat.le_refl _, by simp, by simp, by simp, [], by simp [hW], by simp [ints_nil], by simp⟩) ?_
  intro n s hs
  rw [hI] at hs
  obtain ⟨hnU, g0, ho, hlo, p, hp, h3, ht⟩ := hs
  have hpl := congrArg List.length hp
  rw [List.length_append] at hpl
  have hpos := M.putL_pos n
  by_cases hlt : n < 128
  · have hge : ¬ (127 : Int) < (n : Int) := by omega
    have wu8 : IntKind.u8.wrap (n : Int) = n := wrap_u8 (by omega) (by omega)
    rw [M.putL_small hlt] at hp
    have es : ints .u8 p ++ [.int .u8 (n : Int)] = ints .u8 W := by rw [← hp]; simp [ints]
    have hWl : W.length = p.length + 1 := by rw [← hp]; simp
    simp -implicitDefEqProofs (disch := omega) [g0, h3, ht, hlo, ho, hge, convV, wu8, blit1, getObj_last, set_last, es, hWl, Nat.mod_one]
  · have hge : (127 : Int) < (n : Int) := by omega
    have wr : (n : Int).tmod 128 = ((n % 128 : Nat) : Int) := by rw [Int.tmod_eq_emod_of_nonneg (by omega)]; omega
    have wa : IntKind.u64.wrap (((n % 128 : Nat) : Int) + 128) = ((n % 128 + 128 : Nat) : Int) := by rw [wrap_u64 (by omega) (by omega)]; omega
    have wu8 : IntKind.u8.wrap ((n % 128 + 128 : Nat) : Int) = ((n % 128 + 128 : Nat) : Int) := wrap_u8 (by omega) (by omega)
    have wq : IntKind.u64.wrap ((n : Int).tdiv 128) = ((n / 128 : Nat) : Int) := by rw [Int.tdiv_eq_ediv_of_nonneg (by omega), wrap_u64 (by omega) (by omega)]; omega
    have h0 : ((n : Int).tdiv 128) = ((n / 128 : Nat) : Int) := by rw [Int.tdiv_eq_ediv_of_nonneg (by omega)]; omega
    rw [M.putL_big hlt] at hp
    obtain ⟨c, hc⟩ : ∃ c : Int, c = ((n % 128 + 128 : Nat) : Int) := ⟨_, rfl⟩
    obtain ⟨m, hm⟩ : ∃ m : Nat, m = n % 128 := ⟨_, rfl⟩
    obtain ⟨q, hq⟩ : ∃ q : Nat, q = n / 128 := ⟨_, rfl⟩
    have hqn : q < n := by omega
    have hp' : (p ++ [c]) ++ M.putL q = W := by rw [hc, hq, ← hp]; simp
    rw [← hc] at wa wu8
    rw [← hm] at wr wa
    rw [← hq] at wq
    have wq2 : IntKind.u64.wrap ((n : Int) / 128) = (q : Int) := by rw [wrap_u64 (by omega) (by omega)]; omega
    simp -implicitDefEqProofs (disch := omega) [g0, h3, ht, hlo, ho, hge, convV, wr, wa, wu8, wq, wq2, blit1, getObj_last, set_last, Nat.mod_one]
    rw [hI]
    exact ⟨q, hqn, by omega, by simp, by simp, by simp, p ++ [c], hp', by simp, by simp [ints]⟩)

/-! the document's filter written -/
def n01 (b : Bool) : Int := if b = true then 1 else 0
def zs (B : List Bool) : List Int := B.map n01
theorem zs_len (B : List Bool) : (zs B).length = B.length := by simp [zs]
theorem zs_b01 (B : List Bool) : b01 (zs B) = true := by
  unfold b01 zs
  rw [List.all_map, List.all_eq_true]
  intro b _
  cases b <;> rfl
def byteB (B : List Bool) (j : Nat) : Int := packP (zs ((B.drop (8 * j)).take 8)) 8
def packs (B : List Bool) (n : Nat) : List Int := (List.range n).map (byteB B)
theorem packs_len (B : List Bool) (n : Nat) : (packs B n).length = n := by simp [packs]
theorem packs_succ (B : List Bool) (n : Nat) : packs B (n + 1) = packs B n ++ [byteB B n] := by simp [packs, List.range_succ]
theorem qlit1 (c : Int) : listV Try.prog 62 1 [(0, .int .u64 c)] = some ([.int .u64 c], 1) := by simp [listV, fillV, zeros, setCells]
theorem qlit0 : listV Try.prog 62 0 [] = some ([], 1) := by simp [listV, fillV, zeros]
noncomputable def k_rEncB : Ab.Spec := con1 some fun f objs => match bR objs f with
  | some B => bnd B.length 1000000000 (if B.length % 8 = 0 then some (.lst .frozen (ints .u8 (rsealZ (M.putL (B.length / 8) ++ packs B (B.length / 8)))) (rsealZ (M.putL (B.length / 8) ++ packs B (B.length / 8))).length, none) else none)
  | none => none
noncomputable def T_rEncB : CallF := withF T_RPutT 24 k_rEncB
theorem T_rEncB_ok : CallOk Try.prog T_rEncB := con_of (A := annOf [9] [] [(30, [.tok])] false []) fit T_RPutT_ok (fn := Try.f24) (by kernel_rfl) (by kernel_rfl) (by
  intro args objs r h0
  have c_RPutT : ∀ a o, T_RPutT 38 a o = k_RPutT a o := fun _ _ => rfl
  have c_Pack8 : ∀ a o, T_RPutT 39 a o = k_Pack8 a o := fun _ _ => rfl
  have c_rSeal : ∀ a o, T_RPutT 40 a o = k_rSeal a o := fun _ _ => rfl
  obtain ⟨f, _, rfl, hf, hR⟩ := con1_inv h0
  cases hf
  split at hR
  case h_2 => cases hR
  rename_i B hB
  obtain ⟨hl, hR⟩ := bnd_inv hR
  split at hR
  case isFalse => cases hR
  rename_i h8
  cases hR
  obtain ⟨fd, fn, fi, hld⟩ := bF hB
  obtain ⟨n, hn⟩ : ∃ n, B.length = 8 * n := ⟨B.length / 8, by omega⟩
  have hn8 : B.length / 8 = n := by omega
  rw [hn8]
  have hq : ((B.length : Int)).tdiv 8 = (n : Int) := by rw [Int.tdiv_eq_ediv_of_nonneg (by omega)]; omega
  have wn : IntKind.u64.wrap (n : Int) = n := wrap_u64 (by omega) (by omega)
  have wni : IntKind.i64.wrap (n : Int) = n := wrap_small (by omega) (by omega)
  have hp := putVT_nat (u := n) (by omega)
  obtain ⟨W, hW⟩ : ∃ W, W = M.putL n := ⟨_, rfl⟩
  have hlen := M.putL_len10 (u := n) (by omega)
  rw [← hW] at hp hlen ⊢
  refine .go _ rfl rfl ?_
  simp -implicitDefEqProofs (disch := omega) [fd, qlit0]
  obtain ⟨I, hI⟩ : ∃ I : Nat → St → Prop, I = (fun (i : Nat) (z : St) => z.env 0 = f ∧ z.env 4 = .int .i64 i ∧ z.env 3 = .lst (.tok 0 1) (ints .u64 (zs (B.take i))) i ∧ z.toks = [i] ∧ z.low = objs.length ∧ z.objs = objs) := ⟨_, rfl⟩
  refine .up B.length I (by rw [hI]; exact ⟨by simp, by simp, by simp [zs, ints], rfl, rfl, rfl⟩) ?_
  intro i z hi hz
  rw [hI] at hz
  obtain ⟨e0, e4, e3, ht, hlo, ho⟩ := hz
  rcases Nat.lt_or_ge i B.length with h | h
  · have fx := fi .i64 i h
    have lx := hld i h
    have wi1 : IntKind.i64.wrap ((i : Int) + 1) = (i : Int) + 1 := wrap_small (by omega) (by omega)
    have hil : (ints .u64 (zs (B.take i))).length = i := by simp [ints, zs]; omega
    have hst : zs (B.take (i + 1)) = zs (B.take i) ++ [n01 (nth B i)] := by unfold zs; rw [List.take_succ_eq_append_getElem h, List.map_append, nth_lt h]; rfl
    have hsi : ints .u64 (zs (B.take i)) ++ [.int .u64 (n01 (nth B i))] = ints .u64 (zs (B.take (i + 1))) := by rw [hst]; simp [ints]
    cases hb : nth B i with
    | true =>
      rw [hb] at lx hsi
      have hsi : ints .u64 (zs (B.take i)) ++ [.int .u64 1] = ints .u64 (zs (B.take (i + 1))) := hsi
      simp -implicitDefEqProofs (disch := omega) [e0, e4, e3, ht, hlo, ho, fn, fd, h, fx, lx, qlit1, hil, hsi, Nat.mod_one, wi1]
      rw [hI]
      exact ⟨by simp [e0], by simp, by simp, rfl, rfl, rfl⟩
    | false =>
      rw [hb] at lx hsi
      have hsi : ints .u64 (zs (B.take i)) ++ [.int .u64 0] = ints .u64 (zs (B.take (i + 1))) := hsi
      simp -implicitDefEqProofs (disch := omega) [e0, e4, e3, ht, hlo, ho, fn, fd, h, fx, lx, qlit1, hil, hsi, Nat.mod_one, wi1]
      rw [hI]
      exact ⟨by simp [e0], by simp, by simp, rfl, rfl, rfl⟩
  obtain rfl : i = B.length := by omega
  rw [List.take_length] at e3
  simp -implicitDefEqProofs (disch := omega) [e0, e4, e3, ht, hlo, ho, fn, fd, hq, wn, wni, convV, c_RPutT, k_RPutT, hp]
  obtain ⟨J, hJ⟩ : ∃ J : Nat → St → Prop, J = (fun (j : Nat) (z : St) => z.env 3 = .lst (.tok 0 1) (ints .u64 (zs B)) B.length ∧ z.env 6 = .int .i64 (8 * (j : Int)) ∧ z.env 5 = .lst (.tok 1 1) (ints .u8 (W ++ packs B j)) (W.length + j) ∧ z.toks = [B.length, W.length + j] ∧ z.low = objs.length ∧ z.objs = objs) := ⟨_, rfl⟩
  refine .up n J (by rw [hJ]; exact ⟨by simp [e3], by simp, by simp [packs], rfl, by simp [hlo], by simp [ho]⟩) ?_
  clear e0 e4 e3 ht hlo ho
  intro j z hj hz
  rw [hJ] at hz
  obtain ⟨e3, e6, e5, ht, hlo, ho⟩ := hz
  rcases Nat.lt_or_ge j n with h | h
  · have hlt : 8 * (j : Int) < B.length := by omega
    have w8 : IntKind.i64.wrap (8 * (j : Int) + 8) = 8 * ((j : Int) + 1) := by rw [wrap_small (by omega) (by omega)]; omega
    have hcut : (List.take (8 * (j + 1)) (zs B)).drop (8 * j) = zs ((B.drop (8 * j)).take 8) := by
      rw [List.drop_take, show 8 * (j + 1) - 8 * j = 8 by omega]
      simp [zs]
    have hlen8 : (zs ((B.drop (8 * j)).take 8)).length = 8 := by rw [zs_len, List.length_take, List.length_drop]; omega
    have hus : ofInts .u64 (.lst .frozen (ints .u64 (zs ((B.drop (8 * j)).take 8))) 8) = some (zs ((B.drop (8 * j)).take 8)) := ofInts_lst hlen8.symm
    have kp : k_Pack8 [.int .i64 1, .lst .frozen (ints .u64 (zs ((B.drop (8 * j)).take 8))) 8] objs = some (.tup [.lst (.fresh 1 true) [.int .u8 (byteB B j)] 1, .int .i64 0], none) := by
      simp [k_Pack8, hus, hlen8, zs_b01, byteB]
    have hs2 : ints .u8 (W ++ packs B j) ++ [.int .u8 (byteB B j)] = ints .u8 (W ++ packs B (j + 1)) := by rw [packs_succ]; simp [ints]
    have cw : cutV Try.prog 62 objs (.lst (.tok 0 1) (ints .u64 (zs B)) B.length) (some (.int .i64 (8 * (j : Int)))) (some (.int .i64 (8 * ((j : Int) + 1)))) none = some (.lst .frozen (ints .u64 (zs ((B.drop (8 * j)).take 8))) 8) := by
      have b1 : boundV (some (.int .i64 (8 * (j : Int)))) 0 = some (8 * j) := by simp [boundV]; omega
      have b2 : boundV (some (.int .i64 (8 * ((j : Int) + 1)))) B.length = some (8 * (j + 1)) := by simp [boundV]; omega
      have h9 : 8 * (j + 1) - 8 * j = 8 := by omega
      have h10 : 8 * j ≤ 8 * (j + 1) ∧ 8 * (j + 1) ≤ B.length := by omega
      simp [-boundV, cutV, sliceV, b1, b2, h9, h10, hcut]
    have hil : (ints .u8 (W ++ packs B j)).length = W.length + j := by simp [ints, packs_len]
    simp -implicitDefEqProofs (disch := omega) [e3, e6, e5, ht, hlo, ho, hlt, w8, cw, c_Pack8, kp, blit1, hs2, hil, Nat.mod_one]
    rw [hJ]
    exact ⟨h, by simp [e3], by simp, by simp [Nat.add_assoc], by simp [Nat.add_assoc], rfl, rfl⟩
  · obtain rfl : j = n := by omega
    have hlt : ¬ 8 * (j : Int) < B.length := by omega
    have hof : ofInts .u8 (.lst .frozen (ints .u8 (W ++ packs B j)) (W.length + j)) = some (W ++ packs B j) := ofInts_lst (by rw [List.length_append, packs_len])
    have hwl2 : (packs B j).length = j := packs_len B j
    have ks : k_rSeal [.lst .frozen (ints .u8 (W ++ packs B j)) (W.length + j)] objs = some (.lst .frozen (ints .u8 (rsealZ (W ++ packs B j))) ((W ++ packs B j).length + 4), none) := by
      simp -implicitDefEqProofs (disch := omega) [k_rSeal, hof]
    simp -implicitDefEqProofs (disch := omega) [e3, e6, e5, ht, hlo, ho, hlt, c_rSeal, ks, rsealZ_len])

end Go.Proofs.Ytpfkebjjbhnehaa.B
set_option maxRecDepth 20000
set_option maxHeartbeats 1000000
namespace Go.Proofs.Ytpfkebjjbhnehaa.B
open Go Go.Ab
/-! the document's filter read -/
def rdecRes (l : List Int) : V := if decE l = 0 then .tup [.lst (.fresh 1 false) (bls (bitsZ (decRow l))) (8 * (decRow l).length), .int .i64 0] else .tup [.nils, .int .i64 (decE l)]
theorem bitsZ_app (a b : List Int) : bitsZ (a ++ b) = bitsZ a ++ bitsZ b := by simp [bitsZ]
theorem bitsZ_take {l : List Int} {i : Nat} (h : i < l.length) : bitsZ (l.take (i + 1)) = bitsZ (l.take i) ++ bitsC (nth l i) := by
  rw [List.take_succ_eq_append_getElem h, bitsZ_app, nth_lt h]; simp [bitsZ]
def bitsK (c : Int) (k : Nat) : List Bool := (List.range k).map (bitI c)
theorem bitsK_succ (c : Int) (k : Nat) : bitsK c (k + 1) = bitsK c k ++ [bitI c k] := by simp [bitsK, List.range_succ]
theorem bitsK_len (c : Int) (k : Nat) : (bitsK c k).length = k := by simp [bitsK]
noncomputable def k_rDecB : Ab.Spec := con1 (ofInts .u8) fun l _ => bnd l.length 140737488353000 (if b8 l = true then some (rdecRes l, none) else none)
noncomputable def T_rDecB : CallF := withF T_rEncB 27 k_rDecB
theorem T_rDecB_ok : CallOk Try.prog T_rDecB := con_of (A := annOf [49] [] [] false []) fit T_rEncB_ok (fn := Try.f27) (by kernel_rfl) (by kernel_rfl) (by
  intro args objs r h0
  have c_rSealed : ∀ a o, T_rEncB 44 a o = k_rSealed a o := fun _ _ => rfl
  have c_Piece : ∀ a o, T_rEncB 45 a o = k_Piece a o := fun _ _ => rfl
  have c_RGet : ∀ a o, T_rEncB 46 a o = k_RGet a o := fun _ _ => rfl
  obtain ⟨v, l, rfl, ha, hR⟩ := con1_inv h0
  obtain ⟨hl, hR⟩ := bnd_inv hR
  split at hR
  case isFalse => cases hR
  rename_i h8
  cases hR
  obtain ⟨vd, vn, vi, -⟩ := bs ha
  have hse := rsealed_eq (l := l) (b8_iff.1 h8)
  have hl2 : l.length < 140737488355000 := by omega
  refine .go _ rfl rfl ?_
  cases hs : sealedB l with
  | false =>
    rw [hs] at hse
    have hd : rdecRes l = .tup [.nils, .int .i64 6] := by
      have e : decE l = 6 := by unfold decE; rw [if_pos hs]
      unfold rdecRes; rw [e]; rfl
    rw [hd]
    simp -implicitDefEqProofs (disch := omega) [vd, c_rSealed, k_rSealed, ha, hse]
  | true =>
    rw [hs] at hse
    have h4 := sealed_4 hs
    obtain ⟨m, hm⟩ : ∃ m, l.length = m + 4 := ⟨l.length - 4, by omega⟩
    have hb : bodyZ l = l.take m := by rw [bodyZ, hm]; rfl
    obtain ⟨b, hbb⟩ : ∃ b, b = l.take m := ⟨_, rfl⟩
    rw [← hbb] at hb
    have hbl : b.length = m := by rw [hbb, List.length_take]; omega
    have hb8 : b8 b = true := b8_iff.2 fun c hc => b8_iff.1 h8 c (by rw [hbb] at hc; exact List.mem_of_mem_take hc)
    have hpz : pieceZ l 0 (m : Int) = b := by rw [hbb]; simp [pieceZ]
    have w4 : IntKind.i64.wrap ((l.length : Int) - 4) = (m : Int) := by rw [wrap_small (by omega) (by omega)]; omega
    obtain ⟨n, p, e, hg⟩ : ∃ n p e, M.getR b 0 = (n, p, e) := ⟨_, _, _, rfl⟩
    have hob : ofInts .u8 (.lst .frozen (ints .u8 b) m) = some b := ofInts_lst hbl.symm
    have hE : decE l = if e ≠ 0 then e else if n < 8 ∨ 5120 < n then 5 else if (m : Int) - p < n then 2 else if n < (m : Int) - p then 3 else 0 := by
      unfold decE
      rw [if_neg (by rw [hs]; simp), hb, hg, hbl]
    have hRw : decRow l = b.drop p.toNat := by unfold decRow; rw [hb, hg]
    have kg : k_RGet [.lst .frozen (ints .u8 b) m, .int .i64 0] objs = some (.tup [.int .u64 n, .int .i64 p, .int .i64 e], none) := by
      simp (disch := omega) [k_RGet, hob, hb8, getVR, hg]
    have kp : k_Piece [v, .int .i64 0, .int .i64 (m : Int)] objs = some (.lst (.fresh 1 false) (ints .u8 b) m, none) := by
      have : (m : Int) < 9223372036854775807 := by omega
      simp (disch := omega) [k_Piece, ha, this, hpz, hbl]
    by_cases he : e = 0
    case neg =>
      rw [if_pos he] at hE
      have hd : rdecRes l = .tup [.nils, .int .i64 e] := by unfold rdecRes; rw [hE, if_neg he]
      rw [hd]
      simp -implicitDefEqProofs (disch := omega) [vd, vn, c_rSealed, k_rSealed, ha, hse, w4, c_Piece, kp, c_RGet, kg, he]
    subst he
    rw [if_neg (by simp)] at hE
    obtain ⟨g1, g2, g3, g4, g5, g6, g7⟩ := M.getR_ok (b8_iff.1 hb8) hg
    by_cases c1 : n < 8 ∨ 5120 < n
    · rw [if_pos c1] at hE
      have hd : rdecRes l = .tup [.nils, .int .i64 5] := by unfold rdecRes; rw [hE]; rfl
      rw [hd]
      by_cases c2 : n < 8
      · simp -implicitDefEqProofs (disch := omega) [vd, vn, c_rSealed, k_rSealed, ha, hse, w4, c_Piece, kp, c_RGet, kg, c2]
      · have c3 : 5120 < n := by omega
        simp -implicitDefEqProofs (disch := omega) [vd, vn, c_rSealed, k_rSealed, ha, hse, w4, c_Piece, kp, c_RGet, kg, c2, c3]
    rw [if_neg c1] at hE
    have c2 : ¬ n < 8 := by omega
    have c3 : ¬ 5120 < n := by omega
    have wn2 : IntKind.i64.wrap n = n := wrap_small (by omega) (by omega)
    have wp : IntKind.i64.wrap ((m : Int) - p) = (m : Int) - p := wrap_small (by omega) (by omega)
    by_cases c4 : (m : Int) - p < n
    · rw [if_pos c4] at hE
      have hd : rdecRes l = .tup [.nils, .int .i64 2] := by unfold rdecRes; rw [hE]; rfl
      rw [hd]
      simp -implicitDefEqProofs (disch := omega) [vd, vn, c_rSealed, k_rSealed, ha, hse, w4, c_Piece, kp, c_RGet, kg, c2, c3, convV, wn2, wp, c4]
    rw [if_neg c4] at hE
    by_cases c5 : n < (m : Int) - p
    · rw [if_pos c5] at hE
      have hd : rdecRes l = .tup [.nils, .int .i64 3] := by unfold rdecRes; rw [hE]; rfl
      rw [hd]
      simp -implicitDefEqProofs (disch := omega) [vd, vn, c_rSealed, k_rSealed, ha, hse, w4, c_Piece, kp, c_RGet, kg, c2, c3, convV, wn2, wp, c4, c5]
    rw [if_neg c5] at hE
    obtain ⟨q, rfl⟩ := Int.eq_ofNat_of_zero_le (show 0 ≤ p by omega)
    rw [Int.toNat_natCast] at hRw
    obtain ⟨row, hrow⟩ : ∃ row, row = decRow l := ⟨_, rfl⟩
    have hd : rdecRes l = .tup [.lst (.fresh 1 false) (bls (bitsZ row)) (8 * row.length), .int .i64 0] := by unfold rdecRes; rw [hE, hrow]; rfl
    rw [hd]
    rw [← hrow] at hRw
    have hrl : row.length = m - q := by rw [hRw, List.length_drop, hbl]
    have hr8 : b8 row = true := b8_iff.2 fun c hc => b8_iff.1 hb8 c (by rw [hRw] at hc; exact List.mem_of_mem_drop hc)
    have hnth : ∀ i, nth b (q + i) = nth row i := fun i => by rw [hRw, nth_drop]
    obtain ⟨-, bn, bi, -⟩ := bs hob
    rw [hbl] at bn bi
    simp -implicitDefEqProofs (disch := omega) [vd, vn, c_rSealed, k_rSealed, ha, hse, w4, c_Piece, kp, c_RGet, kg, c2, c3, convV, wn2, wp, c4, c5, lit0b]
    obtain ⟨I, hI⟩ : ∃ I : Nat → St → Prop, I = (fun (i : Nat) (z : St) => z.env 4 = .lst .frozen (ints .u8 b) m ∧ z.env 9 = .int .i64 ((q : Int) + i) ∧ z.env 8 = .lst (.tok 0 1) (bls (bitsZ (row.take i))) (8 * i) ∧ z.toks = [8 * i] ∧ z.low = objs.length ∧ z.objs = objs) := ⟨_, rfl⟩
    refine .up row.length I (by rw [hI]; exact ⟨by simp, by simp, by simp [bitsZ], rfl, rfl, rfl⟩) ?_
    intro i z hi hz
    rw [hI] at hz
    obtain ⟨e4, e9, e8, ht, hlo, ho⟩ := hz
    rcases Nat.lt_or_ge i row.length with h | h
    · have hc := hnth i
      obtain ⟨c, hcc⟩ : ∃ c, c = nth row i := ⟨_, rfl⟩
      obtain ⟨c0, c1⟩ := b8_iff.1 hr8 _ (nth_mem h)
      have hbt := bitsZ_take h
      rw [← hcc] at hc c0 c1 hbt
      have hlt : (q : Int) + i < m := by omega
      have ix := bi .i64 ((q : Int) + i) (by omega) (by omega)
      have hq2 : ((q : Int) + i).toNat = q + i := by omega
      rw [hq2] at ix
      obtain ⟨B, hB⟩ : ∃ B, B = bitsZ (row.take i) := ⟨_, rfl⟩
      have hBl : B.length = 8 * i := by rw [hB, bitsZ_len, List.length_take]; omega
      rw [← hB] at e8 hbt
      have hcell : (ints .u8 b)[q + i]? = some (.int .u8 c) := by rw [← hc]; exact map_nth (by omega)
      simp -implicitDefEqProofs (disch := omega) [e4, e9, e8, ht, hlo, ho, hlt, ix, hcell]
      obtain ⟨J, hJ⟩ : ∃ J : Nat → St → Prop, J = (fun (j : Nat) (z : St) => z.env 4 = .lst .frozen (ints .u8 b) m ∧ z.env 9 = .int .i64 ((q : Int) + i) ∧ z.env 11 = .int .i64 j ∧ z.env 10 = .int .u8 (c / 2 ^ j) ∧ z.env 8 = .lst (.tok 0 1) (bls (B ++ bitsK c j)) (8 * i + j) ∧ z.toks = [8 * i + j] ∧ z.low = objs.length ∧ z.objs = objs) := ⟨_, rfl⟩
      refine .up 8 J (by rw [hJ]; exact ⟨by simp [e4], by simp [e9], by simp, by simp, by simp [e8, bitsK], by simp [ht], by simp [hlo], by simp [ho]⟩) ?_
      clear e4 e9 e8 ht hlo ho
      intro j z hj hz
      rw [hJ] at hz
      obtain ⟨e4, e9, e11, e10, e8, ht, hlo, ho⟩ := hz
      rcases Nat.lt_or_ge j 8 with g | g
      · have gz : (j : Int) < 8 := by omega
        obtain ⟨X, hX⟩ : ∃ X, X = c / 2 ^ j := ⟨_, rfl⟩
        have hpow : (0 : Int) < 2 ^ j := Int.pow_pos (by decide)
        have x0 : 0 ≤ X := by rw [hX]; exact Int.ediv_nonneg c0 (by omega)
        have x1 : X < 256 := by rw [hX]; exact Int.lt_of_le_of_lt (Int.ediv_le_self _ c0) c1
        have xm : X.tmod 2 = X % 2 := Int.tmod_eq_emod_of_nonneg x0
        have xd : X.tdiv 2 = X / 2 := Int.tdiv_eq_ediv_of_nonneg x0
        have xw : IntKind.u8.wrap (X % 2) = X % 2 := wrap_u8 (by omega) (by omega)
        have xw2 : IntKind.u8.wrap (X / 2) = X / 2 := wrap_u8 (by omega) (by omega)
        have xn : X / 2 = c / 2 ^ (j + 1) := by rw [hX, Int.ediv_ediv_of_nonneg (by omega), Int.pow_succ]
        have hbk := bitsK_succ c j
        have hbi : bitI c j = decide (X % 2 = 1) := by rw [hX]; rfl
        rw [← hX] at e10
        have hsn : bls (B ++ bitsK c j) ++ [.bool (X % 2 == 1)] = bls (B ++ bitsK c (j + 1)) := by rw [show (X % 2 == 1) = decide (X % 2 = 1) from rfl]; rw [hbk, hbi, bls_snoc, List.append_assoc]
        have hbl2 : (bls (B ++ bitsK c j)).length = 8 * i + j := by rw [bls_len, List.length_append, hBl, bitsK_len]
        simp -implicitDefEqProofs (disch := omega) [-bls_snoc, -bls_len, e4, e9, e11, e10, e8, ht, hlo, ho, gz, xm, xd, xw, xw2, lit1b, hsn, hbl2, wrap_small, Nat.mod_one]
        rw [hJ]
        exact ⟨g, by simp [e4], by simp [e9], by simp, by simp [xn], by simp [Nat.add_assoc], by simp [Nat.add_assoc], rfl, rfl⟩
      · obtain rfl : j = 8 := by omega
        simp -implicitDefEqProofs (disch := omega) [e4, e9, e11, e10, e8, ht, hlo, ho, wrap_small]
        rw [hI]
        exact ⟨h, by simp [e4], by simp; omega, by simp [e8, hbt, Nat.mul_add]; rfl, by simp [Nat.mul_add], by simp, by simp⟩
    · obtain rfl : i = row.length := by omega
      have hlt : ¬ (q : Int) + row.length < m := by omega
      have hbl2 : (bitsZ row).length = 8 * row.length := bitsZ_len row
      rw [List.take_length] at e8
      simp -implicitDefEqProofs (disch := omega) [e4, e9, e8, ht, hlo, ho, hlt, hbl2])

end Go.Proofs.Ytpfkebjjbhnehaa.B
set_option maxRecDepth 20000
set_option maxHeartbeats 1000000
namespace Go.Proofs.Ytpfkebjjbhnehaa.B
open Go Go.Ab
/-! filters, as bits -/
def packChk : Bool := (List.range 256).all fun c : Nat => decide (packP (zs (bitsC (c : Int))) 8 = c)
theorem packChk_ok : packChk = true := by kernel_rfl
theorem pack_bits {c : Int} (h0 : 0 ≤ c) (h1 : c < 256) : packP (zs (bitsC c)) 8 = c := by
  obtain ⟨m, rfl⟩ := Int.eq_ofNat_of_zero_le h0
  have h := packChk_ok
  unfold packChk at h
  rw [List.all_eq_true] at h
  exact of_decide_eq_true (h m (by rw [List.mem_range]; omega))
theorem bits_part : ∀ (row : List Int) (j : Nat), j < row.length → ((bitsZ row).drop (8 * j)).take 8 = bitsC (nth row j)
  | [], j, h => by simp at h
  | c :: row, 0, _ => by
    have e : bitsZ (c :: row) = bitsC c ++ bitsZ row := by simp [bitsZ]
    rw [e, Nat.mul_zero, List.drop_zero, List.take_append_of_le_length (by rw [bitsC_len]; omega), List.take_of_length_le (by rw [bitsC_len]; omega)]; rfl
  | c :: row, j + 1, h => by
    have e : bitsZ (c :: row) = bitsC c ++ bitsZ row := by simp [bitsZ]
    rw [e, show 8 * (j + 1) = (bitsC c).length + 8 * j by rw [bitsC_len]; omega, List.drop_append, List.drop_of_length_le (by omega), List.nil_append, Nat.add_sub_cancel_left, bits_part row j (by simpa using h)]; rfl
theorem packs_bits {row : List Int} (h : b8 row = true) : packs (bitsZ row) row.length = row := by
  refine ext_nth (packs_len _ _) fun j hj => ?_
  rw [packs_len] at hj
  unfold packs
  rw [nth_map (by simpa using hj)]
  have e : nth (List.range row.length) j = j := by simp [nth, hj]
  rw [e, byteB, bits_part row j hj]
  obtain ⟨c0, c1⟩ := b8_iff.1 h _ (nth_mem hj)
  exact pack_bits c0 c1
theorem renc_bits {row : List Int} (h : b8 row = true) : rsealZ (M.putL ((bitsZ row).length / 8) ++ packs (bitsZ row) ((bitsZ row).length / 8)) = bencZ row := by
  have e : (bitsZ row).length / 8 = row.length := by rw [bitsZ_len]; omega
  rw [e, packs_bits h, rseal_eq]; rfl
theorem putL_b8 (u : Nat) : b8 (M.putL u) = true := b8_iff.2 (M.putL_bytes (u + 1) u (by omega))
theorem bencZ_b8 {row : List Int} (h : b8 row = true) : b8 (bencZ row) = true := b8_iff.2 (sealZ_B8 fun c hc => by
  rcases List.mem_append.1 hc with q | q
  · exact b8_iff.1 (putL_b8 _) c q
  · exact b8_iff.1 h c q)
theorem bencZ_len {row : List Int} (hl : row.length ≤ 5120) : (bencZ row).length ≤ row.length + 14 := by
  have := M.putL_len10 (u := row.length) (by omega)
  rw [bencZ, sealZ_len, List.length_append]; omega
/-- What is written is read. -/
theorem dec_enc {row : List Int} (h8 : b8 row = true) (h1 : 8 ≤ row.length) (h2 : row.length ≤ 5120) : decE (bencZ row) = 0 ∧ decRow (bencZ row) = row := by
  obtain ⟨b, hb⟩ : ∃ b, b = M.putL row.length ++ row := ⟨_, rfl⟩
  have hl : (sealZ b).length - 4 = b.length := by rw [sealZ_len]; omega
  have hbody : bodyZ (bencZ row) = b := by
    rw [bodyZ, bencZ, ← hb, hl, sealZ, List.take_left]
  have hs : sealedB (bencZ row) = true := by rw [bencZ, ← hb]; exact sealed_seal b
  have hg : M.getR b 0 = ((row.length : Int), ((M.putL row.length).length : Int), 0) := by
    have := M.getR_put [] row (u := row.length) (by omega)
    rw [List.nil_append, ← hb] at this
    simpa using this
  have hbl : (b.length : Int) - (M.putL row.length).length = row.length := by rw [hb, List.length_append]; omega
  refine ⟨?_, ?_⟩
  · unfold decE
    rw [if_neg (by rw [hs]; simp), hbody, hg]
    simp only
    rw [if_neg (by simp), if_neg (by omega), if_neg (by omega), if_neg (by omega)]
  · unfold decRow
    rw [hbody, hg]
    simp only
    rw [Int.toNat_natCast, hb, List.drop_left]
/-- What is read is just what was written. -/
theorem enc_dec {l : List Int} (h8 : b8 l = true) (h : decE l = 0) : bencZ (decRow l) = l ∧ b8 (decRow l) = true ∧ 8 ≤ (decRow l).length ∧ (decRow l).length ≤ 5120 := by
  obtain ⟨n, p, e, hg⟩ : ∃ n p e, M.getR (bodyZ l) 0 = (n, p, e) := ⟨_, _, _, rfl⟩
  unfold decE at h
  rw [hg] at h
  simp only at h
  split at h
  · cases h
  rename_i hs
  have hs : sealedB l = true := by simpa using hs
  split at h
  · rename_i he; exact absurd h he
  rename_i he
  have he : e = 0 := by simpa using he
  subst he
  split at h
  · cases h
  split at h
  · cases h
  split at h
  · cases h
  rename_i c1 c2 c3
  have h4 := sealed_4 hs
  have hbl : (bodyZ l).length = l.length - 4 := by rw [bodyZ, List.length_take]; omega
  have hb8 : b8 (bodyZ l) = true := b8_iff.2 fun c hc => b8_iff.1 h8 c (List.mem_of_mem_take hc)
  obtain ⟨g1, g2, g3, g4, g5, g6, g7⟩ := M.getR_ok (b8_iff.1 hb8) hg
  have hr : decRow l = (bodyZ l).drop p.toNat := by unfold decRow; rw [hg]
  have hrl : (decRow l).length = (bodyZ l).length - p.toNat := by rw [hr, List.length_drop]
  have hn : (decRow l).length = n.toNat := by omega
  rw [show (0 : Int).toNat = 0 from rfl, List.drop_zero] at g7
  refine ⟨?_, b8_iff.2 fun c hc => b8_iff.1 hb8 c (by rw [hr] at hc; exact List.mem_of_mem_drop hc), by omega, by omega⟩
  rw [bencZ, hn, g7, hr, List.take_append_drop]
  unfold sealedB at hs
  simp only [decide_eq_true_eq] at hs
  unfold sealZ bodyZ
  rw [← hs.2, List.take_append_drop]
/-- Is a bit one of a key's? -/
def hit (m : Nat) (h : Int) (p : Nat) : Bool := (List.range 6).any fun k : Nat => decide ((plZ h k m).toNat = p)
theorem addB_nth {B : List Bool} {h : Int} {p : Nat} (hp : p < B.length) : ∀ k, nth (addB B h k) p = (nth B p || (List.range k).any fun k : Nat => decide ((plZ h k B.length).toNat = p))
  | 0 => by simp [addB]
  | k + 1 => by
    rw [addB, List.range_succ, List.any_append, List.any_cons, List.any_nil, Bool.or_false, ← Bool.or_assoc, ← addB_nth hp k]
    by_cases q : (plZ h k B.length).toNat = p
    · rw [q, nthS_eq (by rw [addB_len]; exact hp)]; simp
    · rw [nthS_ne (fun z => q z.symm)]; simp [q]
theorem adds_bits {row : List Int} (hb : b8 row = true) (hr : 0 < row.length) {p : Nat} (hp : p < 8 * row.length) : ∀ ls : List (List Int), nth (bitsZ (rowAdds row ls)) p = (nth (bitsZ row) p || ls.any fun l => hit (8 * row.length) (hashZ l) p) := by
  intro ls
  induction ls generalizing row with
  | nil => show nth (bitsZ row) p = _; simp
  | cons l ls ih =>
    have h1 := rowAdd_b8 hb hr (hashZ l) 6
    have h2 := rowAdd_len row (hashZ l) 6
    show nth (bitsZ (rowAdds (rowAdd row (hashZ l) 6) ls)) p = _
    rw [ih h1 (by omega) (by omega), h2, rowAdd_bits hb hr, addB_nth (by rw [bitsZ_len]; exact hp), bitsZ_len, List.any_cons, Bool.or_assoc]; rfl
theorem bits_inj : ∀ {r s : List Int}, b8 r = true → b8 s = true → r.length = s.length → bitsZ r = bitsZ s → r = s := by
  intro r s h1 h2 hl hb
  rw [← packs_bits h1, ← packs_bits h2, hb, hl]
theorem bits_ext {r s : List Int} (h1 : b8 r = true) (h2 : b8 s = true) (hl : r.length = s.length) (h : ∀ p, p < 8 * r.length → nth (bitsZ r) p = nth (bitsZ s) p) : r = s :=
  bits_inj h1 h2 hl (ext_nth (by rw [bitsZ_len, bitsZ_len, hl]) fun p hp => h p (by rw [bitsZ_len] at hp; exact hp))
theorem has_all {row : List Int} (hr : 0 < row.length) {h : Int} (hh : ∀ p, p < 8 * row.length → hit (8 * row.length) h p = true → nth (bitsZ row) p = true) : hasR row h = true := by
  rw [hasR_bits hr, hasB, List.all_eq_true]
  intro k hk
  have hp := pl_in hr h k
  rw [bitsZ_len]
  refine hh _ hp ?_
  unfold hit
  rw [List.any_eq_true]
  exact ⟨k, hk, by simp⟩
def zeroR (n : Int) : List Int := List.replicate (mB n) 0
theorem zeroR_len (n : Int) : (zeroR n).length = mB n := List.length_replicate
theorem zeroR_b8 (n : Int) : b8 (zeroR n) = true := b8_iff.2 fun c hc => by have := List.eq_of_mem_replicate hc; omega
theorem zeroR_bits (n : Int) : bitsZ (zeroR n) = noB (8 * mB n) := bitsZ_zero _
theorem noB_nth (m p : Nat) : nth (noB m) p = false := by
  rcases Nat.lt_or_ge p m with h | h
  · rw [nth_lt (by rw [noB_len]; exact h)]; simp [noB]
  · unfold nth; rw [List.getD_eq_getElem?_getD, List.getElem?_eq_none (by rw [noB_len]; exact h)]; rfl
theorem made_bits (n : Int) (ls : List (List Int)) {p : Nat} (hp : p < 8 * mB n) : nth (bitsZ (rowAdds (zeroR n) ls)) p = ls.any fun l => hit (8 * mB n) (hashZ l) p := by
  have h := mB_le n
  rw [adds_bits (zeroR_b8 n) (by rw [zeroR_len]; omega) (by rw [zeroR_len]; exact hp), zeroR_bits, noB_nth, zeroR_len]; simp
def modB (n : Int) (ls : List (List Int)) : List Bool := ls.foldl (fun B l => addB B (hashZ l) 6) (noB (8 * mB n))
theorem modB_eq (n : Int) (ls : List (List Int)) : modB n ls = bitsZ (rowAdds (zeroR n) ls) := by
  unfold modB
  rw [← zeroR_bits]
  have h0 : 0 < (zeroR n).length := by rw [zeroR_len]; have := mB_le n; omega
  generalize hz : zeroR n = r
  rw [hz] at h0
  have hb : b8 r = true := by rw [← hz]; exact zeroR_b8 n
  clear hz
  induction ls generalizing r with
  | nil => rfl
  | cons l ls ih =>
    show List.foldl _ (addB (bitsZ r) (hashZ l) 6) ls = bitsZ (rowAdds (rowAdd r (hashZ l) 6) ls)
    rw [← rowAdd_bits hb h0, ih (rowAdd r (hashZ l) 6) (by rw [rowAdd_len]; exact h0) (rowAdd_b8 hb h0 _ _)]
theorem modB_take {n : Int} {ls : List (List Int)} {i : Nat} (h : i < ls.length) : modB n (ls.take (i + 1)) = addB (modB n (ls.take i)) (hashZ (nth ls i)) 6 := by
  unfold modB
  rw [List.take_succ_eq_append_getElem h, List.foldl_append, nth_lt h]; rfl
theorem modB_len (n : Int) (ls : List (List Int)) : (modB n ls).length = 8 * mB n := by
  rw [modB_eq, bitsZ_len, rowAdds_len, zeroR_len]

end Go.Proofs.Ytpfkebjjbhnehaa.B
set_option maxRecDepth 20000
set_option maxHeartbeats 1000000
namespace Go.Proofs.Ytpfkebjjbhnehaa.B
open Go Go.Ab
/-! filters made of keys -/
structure FilAt (O : List AO) (R : Nat) (row : List Int) : Prop where
  cells : O[R]? = some (.cells (ints .u8 row) 0)
  head : O[R + 1]? = some (.cells [.ref R 0 0 row.length 1] 0)
  b : b8 row = true
  pos : 0 < row.length
  le : row.length ≤ 5120
theorem getObj_of {O : List AO} {id : Nat} {cs : List V} {v : Nat} (h : O[id]? = some (.cells cs v)) : Ab.getObj O id v = some cs := by simp [Ab.getObj, h]
theorem FilAt.fil {O : List AO} {R : Nat} {row : List Int} (h : FilAt O R row) : filR O (.ptr (R + 1) 0 0) = some (R, 0, row) := filR_of (getObj_of h.head) (getObj_of h.cells) h.b
theorem FilAt.lt {O : List AO} {R : Nat} {row : List Int} (h : FilAt O R row) : R + 1 < O.length := by
  rcases Nat.lt_or_ge (R + 1) O.length with q | q
  · exact q
  · have := h.head; rw [List.getElem?_eq_none q] at this; cases this
theorem FilAt.app {O X : List AO} {R : Nat} {row : List Int} (h : FilAt O R row) : FilAt (O ++ X) R row := by
  have := h.lt
  exact ⟨by rw [List.getElem?_append_left (by omega)]; exact h.cells, by rw [List.getElem?_append_left (by omega)]; exact h.head, h.b, h.pos, h.le⟩
theorem FilAt.put {O : List AO} {R : Nat} {row row' : List Int} (h : FilAt O R row) (hl : row'.length = row.length) (hb : b8 row' = true) : FilAt (O.set R (.cells (ints .u8 row') 0)) R row' := by
  have := h.lt
  exact ⟨List.getElem?_set_self (by omega), by rw [List.getElem?_set_ne (by omega), hl]; exact h.head, hb, by rw [hl]; exact h.pos, by rw [hl]; exact h.le⟩
theorem FilAt.other {O : List AO} {R Q : Nat} {row : List Int} {x : AO} (h : FilAt O R row) (h1 : Q ≠ R) (h2 : Q ≠ R + 1) : FilAt (O.set Q x) R row :=
  ⟨by rw [List.getElem?_set_ne h1]; exact h.cells, by rw [List.getElem?_set_ne h2]; exact h.head, h.b, h.pos, h.le⟩
theorem FilAt.new {O : List AO} {row : List Int} (hb : b8 row = true) (hp : 0 < row.length) (hl : row.length ≤ 5120) {n : Nat} (hn : n = row.length) : FilAt (O ++ [.cells (ints .u8 row) 0, .cells [.ref O.length 0 0 n 1] 0]) O.length row := by
  subst hn
  exact ⟨by simp, by simp, hb, hp, hl⟩
theorem keyD_told {O : List AO} {R : Nat} {v : V} {l : List Int} (h : ofInts .u8 v = some l) : keyD O R v = some l := by
  unfold keyD
  rw [if_neg ?_, ofIntsR_of h]
  rcases ofInts_inv h with rfl | ⟨rfl, -, -⟩ <;> simp [idOf]
theorem ofCells_map {α : Type} {d d' : V → Option α} (h : ∀ w l, d w = some l → d' w = some l) : ∀ {cs : List V} {ls : List α}, ofCells d cs = some ls → ofCells d' cs = some ls
  | [], ls, e => by simpa [ofCells] using e
  | c :: cs, ls, e => by
    simp only [ofCells] at e ⊢
    cases h1 : d c with
    | none => rw [h1] at e; simp at e
    | some x =>
      rw [h1] at e
      rw [h c x h1]
      cases h2 : ofCells d cs with
      | none => rw [h2] at e; simp at e
      | some xs => rw [h2] at e; rw [ofCells_map h h2]; exact e
theorem ofList_map {α : Type} {d d' : V → Option α} (h : ∀ w l, d w = some l → d' w = some l) {v : V} {ls : List α} (e : ofList d v = some ls) : ofList d' v = some ls := by
  unfold ofList at e ⊢
  split at e
  · exact e
  · split at e
    · rename_i cs len hl
      rw [if_pos hl]; exact ofCells_map h e
    · cases e
  · cases e
theorem keysD_told {O : List AO} {R : Nat} {v : V} {ls : List (List Int)} (h : ofList (ofInts .u8) v = some ls) : ofList (keyD O R) v = some ls := ofList_map (fun w l hw => keyD_told hw) h
theorem keyD1 {O : List AO} {R : Nat} {v : V} {l : List Int} (h : keyD O R v = some l) : ofList (keyD O R) (.lst .frozen [v] 1) = some [l] := ofList_lst (ofCells_cons h rfl) rfl
theorem k_add {O : List AO} {R : Nat} {row : List Int} {ks : V} {ls : List (List Int)} (h : FilAt O R row) (hk : ofList (keyD O R) ks = some ls) (hl : ls.length < 140737488355328) (hls : ∀ l ∈ ls, l.length < 140737488355328) : k_Add [.ptr (R + 1) 0 0, ks] O = some (.tup [], if ls = [] then none else some (O.set R (.cells (ints .u8 (rowAdds row ls)) 0), R)) := by
  have h1 := h.pos
  have h2 : row.length < 1099511627776 := by have := h.le; omega
  simp only [k_Add, con2, h.fil, hk, Option.bind_some]
  rw [bnd_pos hl, if_pos ⟨h1, h2, hls⟩]
theorem k_has {O : List AO} {R : Nat} {row : List Int} {v : V} {l : List Int} (h : FilAt O R row) (hk : ofIntsR .u8 O v = some l) (hl : l.length < 140737488355328) : k_Has [.ptr (R + 1) 0 0, v] O = some (.bool (hasR row (hashZ l)), none) := by
  have h1 := h.pos
  have h2 : row.length < 1099511627776 := by have := h.le; omega
  simp only [k_Has, con2, h.fil, hk, Option.bind_some]
  rw [bnd_pos hl, if_pos ⟨h1, h2⟩]
theorem k_enc {O : List AO} {R : Nat} {row : List Int} (h : FilAt O R row) : k_Enc [.ptr (R + 1) 0 0] O = some (.lst (.fresh 1 true) (ints .u8 (bencZ row)) (bencZ row).length, none) := by
  have h2 : row.length < 1000000000 := by have := h.le; omega
  simp only [k_Enc, con1, h.fil, Option.bind_some]
  rw [bnd_pos h2]
theorem k_bits {O : List AO} {R : Nat} {row : List Int} (h : FilAt O R row) : k_Bits [.ptr (R + 1) 0 0] O = some (.int .i64 (8 * (row.length : Int)), none) := by
  have h2 : row.length < 1099511627776 := by have := h.le; omega
  simp only [k_Bits, con1, h.fil, Option.bind_some]
  rw [bnd_pos h2]
theorem k_count {O : List AO} {R : Nat} {row : List Int} (h : FilAt O R row) : k_Count [.ptr (R + 1) 0 0] O = some (.int .i64 (cntB (bitsZ row)), none) := by
  have h2 : row.length < 1099511627776 := by have := h.le; omega
  simp only [k_Count, con1, h.fil, Option.bind_some]
  rw [bnd_pos h2]
theorem k_merge {O : List AO} {R Q : Nat} {row s : List Int} (h : FilAt O R row) (g : FilAt O Q s) (hne : R ≠ Q) : k_Merge [.ptr (R + 1) 0 0, .ptr (Q + 1) 0 0] O = if row.length = s.length then some (.int .i64 0, some (O.set R (.cells (ints .u8 (orR row s)) 0), R)) else some (.int .i64 1, none) := by
  have h2 : row.length < 1099511627776 := by have := h.le; omega
  have h3 := h.pos
  simp only [k_Merge, con2, h.fil, g.fil, Option.bind_some]
  rw [bnd_pos h2]
  by_cases e : row.length = s.length
  · rw [if_pos e, if_pos (show 0 < row.length ∧ R ≠ Q from ⟨h3, hne⟩), if_pos e]
  · rw [if_neg e, if_neg e]
theorem zeros_new (n : Int) (O : List AO) : FilAt (O ++ [.cells (ints .u8 (zeroR n)) 0, .cells [.ref O.length 0 0 (mB n) 1] 0]) O.length (zeroR n) := by
  have := mB_le n
  exact FilAt.new (zeroR_b8 n) (by rw [zeroR_len]; omega) (by rw [zeroR_len]; omega) (zeroR_len n).symm
theorem k_new (n : Int) (O : List AO) : k_New [.int .i64 n] O = some (.ptr (O.length + 1) 0 0, some (O ++ [.cells (ints .u8 (zeroR n)) 0, .cells [.ref O.length 0 0 (mB n) 1] 0], O.length)) := rfl
def keysOk (ls : List (List Int)) : Prop := ∀ l ∈ ls, l.length < 140737488354000
noncomputable def k_made : Ab.Spec := con2 (ofInt .i64) (ofList (ofInts .u8)) fun n ls objs => bnd ls.length 140737488355328 (pre (keysOk ls) (some (.ptr (objs.length + 1) 0 0, some (objs ++ [.cells (ints .u8 (rowAdds (zeroR n) ls)) 0, .cells [.ref objs.length 0 0 (mB n) 1] 0], objs.length))))
noncomputable def T_made : CallF := withF T_rDecB 28 k_made
theorem T_made_ok : CallOk Try.prog T_made := con_of (A := annOf [] [] [] true [8, 11]) fit T_rDecB_ok (fn := Try.f28) (by kernel_rfl) (by kernel_rfl) (by
  intro args objs r h0
  have c_New : ∀ a o, T_rDecB 8 a o = k_New a o := fun _ _ => rfl
  have c_Add : ∀ a o, T_rDecB 11 a o = k_Add a o := fun _ _ => rfl
  have c_Copy : ∀ a o, T_rDecB 31 a o = k_Copy a o := fun _ _ => rfl
  obtain ⟨_, ks, n, ls, rfl, hn, hks, hR⟩ := con2_inv h0
  obtain rfl := ofInt_inv hn
  obtain ⟨hl, hR⟩ := bnd_inv hR
  obtain ⟨hok, hR⟩ := pre_inv hR
  cases hR
  obtain ⟨cs, hv, hn', hcs⟩ := ofList_inv hks
  have vn := hv.size (P := Try.prog) u22
  have vi := hv.idx (P := Try.prog) u22 z23
  have vd := hv.dem
  obtain ⟨O0, hO0⟩ : ∃ O, O = objs ++ [.cells (ints .u8 (zeroR n)) 0, .cells [.ref objs.length 0 0 (mB n) 1] 0] := ⟨_, rfl⟩
  have kn := k_new n objs
  rw [← hO0] at kn
  refine .goK _ rfl rfl rfl ?_
  simp -implicitDefEqProofs (disch := omega) [vd, vn, c_New, kn, nilEq, nilFit]
  obtain ⟨S, hS⟩ : ∃ S : List Int → List AO, S = fun r => objs ++ [.cells (ints .u8 r) 0, .cells [.ref objs.length 0 0 (mB n) 1] 0] := ⟨_, rfl⟩
  have hSF : ∀ r : List Int, b8 r = true → r.length = mB n → FilAt (S r) objs.length r := fun r h1 h2 => by
    have := mB_le n
    rw [hS]; exact FilAt.new h1 (by omega) (by omega) h2.symm
  have hSS : ∀ r r', (S r).set objs.length (.cells (ints .u8 r') 0) = S r' := fun r r' => by rw [hS]; simp
  obtain ⟨I, hI⟩ : ∃ I : Nat → St → Prop, I = (fun (i : Nat) (z : St) => z.env 5 = .ptr (objs.length + 1) 0 0 ∧ z.env 12 = ks ∧ z.env 13 = .int .i64 ls.length ∧ z.env 14 = .int .i64 i ∧ z.toks = [] ∧ z.low = objs.length ∧ z.objs = S (rowAdds (zeroR n) (ls.take i))) := ⟨_, rfl⟩
  refine .up ls.length I (by rw [hI]; exact ⟨by simp, by simp, by simp, by simp, rfl, by simp, by rw [hS]; exact hO0⟩) ?_
  intro i z hi hz
  rw [hI] at hz
  obtain ⟨e5, e12, e13, e14, ht, hlo, ho⟩ := hz
  rcases Nat.lt_or_ge i ls.length with h | h
  · obtain ⟨kv, hc1', hce, hkd⟩ := hcs i h
    obtain ⟨l, hll⟩ : ∃ l, l = nth ls i := ⟨_, rfl⟩
    have hlm := hok _ (nth_mem h)
    have hrs := rowAdds_take (row := zeroR n) h
    rw [← hll] at hlm hkd hrs
    obtain ⟨kd, -, -, -⟩ := bs hkd
    obtain ⟨r, hr⟩ : ∃ r, r = rowAdds (zeroR n) (ls.take i) := ⟨_, rfl⟩
    have hm := mB_le n
    have hz0 : 0 < (zeroR n).length := by rw [zeroR_len]; omega
    have hF := hSF r (by rw [hr]; exact rowAdds_b8 (zeroR_b8 n) hz0 _) (by rw [hr, rowAdds_len, zeroR_len])
    rw [← hr] at ho hrs
    have hcp : ofInts .u8 (.lst .frozen (ints .u8 l) l.length) = some l := ofInts_lst rfl
    have ka := k_add (ks := .lst .frozen [.lst .frozen (ints .u8 l) l.length] 1) (ls := [l]) hF (keyD1 (keyD_told hcp)) (by simp) (by intro x hx; rw [List.mem_singleton] at hx; subst hx; omega)
    rw [if_neg (by simp), hSS] at ka
    have kc : k_Copy [kv] (S r) = some (.lst (.fresh 1 true) (ints .u8 l) l.length, none) := by simp (disch := omega) [k_Copy, hkd]
    have hl1 : listV Try.prog 22 1 [(0, .lst .frozen (ints .u8 l) l.length)] = some ([.lst .frozen (ints .u8 l) l.length], 1) := by simp [listV, fillV, zeros, setCells]
    have hadd : rowAdds r [l] = rowAdds (zeroR n) (ls.take (i + 1)) := by rw [hrs]; rfl
    rw [hadd] at ka
    simp -implicitDefEqProofs (disch := omega) [e5, e12, e13, e14, ht, hlo, ho, h, vi, hc1', hce, kd, c_Copy, kc, hl1, c_Add, ka, wrap_small]
    rw [hI]
    exact ⟨by simp [e5], by simp [e12], by simp [e13], by simp, by simp, by simp, by simp⟩
  · obtain rfl : i = ls.length := by omega
    rw [List.take_length] at ho
    simp -implicitDefEqProofs (disch := omega) [e5, e12, e13, e14, ht, hlo, ho]
    rw [hS])
noncomputable def k_model : Ab.Spec := con2 (ofInt .i64) (ofList (ofInts .u8)) fun n ls _ => bnd ls.length 140737488355328 (pre (keysOk ls) (some (.lst .frozen (bls (modB n ls)) (8 * mB n), none)))
noncomputable def T_model : CallF := withF T_made 30 k_model
theorem T_model_ok : CallOk Try.prog T_model := con_of (A := annOf [] [] [] false []) fit T_made_ok (fn := Try.f30) (by kernel_rfl) (by kernel_rfl) (by
  intro args objs r h0
  have c_rNew : ∀ a o, T_made 9 a o = k_rNew a o := fun _ _ => rfl
  have c_rAdd : ∀ a o, T_made 14 a o = k_rAdd a o := fun _ _ => rfl
  obtain ⟨_, ks, n, ls, rfl, hn, hks, hR⟩ := con2_inv h0
  obtain rfl := ofInt_inv hn
  obtain ⟨hl, hR⟩ := bnd_inv hR
  obtain ⟨hok, hR⟩ := pre_inv hR
  cases hR
  obtain ⟨cs, hv, hn', hcs⟩ := ofList_inv hks
  have vn := hv.size (P := Try.prog) u22
  have vi := hv.idx (P := Try.prog) u22 z23
  have vd := hv.dem
  have hm := mB_le n
  obtain ⟨M, hM⟩ : ∃ M, M = mB n := ⟨_, rfl⟩
  have kn : k_rNew [.int .i64 n] objs = some (.lst (.fresh 1 false) (bls (noB (8 * M))) (8 * M), none) := by rw [hM]; rfl
  rw [← hM] at hm ⊢
  refine .go _ rfl rfl ?_
  simp -implicitDefEqProofs (disch := omega) [vd, vn, c_rNew, kn]
  obtain ⟨I, hI⟩ : ∃ I : Nat → St → Prop, I = (fun (i : Nat) (z : St) => z.env 5 = .lst .frozen (bls (modB n (ls.take i))) (8 * M) ∧ z.env 10 = ks ∧ z.env 11 = .int .i64 ls.length ∧ z.env 12 = .int .i64 i ∧ z.toks = [] ∧ z.low = objs.length ∧ z.objs = objs) := ⟨_, rfl⟩
  refine .up ls.length I (by rw [hI]; exact ⟨by simp [modB, hM], by simp, by simp, by simp, rfl, rfl, rfl⟩) ?_
  intro i z hi hz
  rw [hI] at hz
  obtain ⟨e5, e10, e11, e12, ht, hlo, ho⟩ := hz
  rcases Nat.lt_or_ge i ls.length with h | h
  · obtain ⟨kv, hc1', hce, hkd⟩ := hcs i h
    obtain ⟨l, hll⟩ : ∃ l, l = nth ls i := ⟨_, rfl⟩
    have hlm := hok _ (nth_mem h)
    have hrs := modB_take (n := n) h
    rw [← hll] at hlm hkd hrs
    obtain ⟨kd, -, -, -⟩ := bs hkd
    obtain ⟨B, hB⟩ : ∃ B, B = modB n (ls.take i) := ⟨_, rfl⟩
    have hBl : B.length = 8 * M := by rw [hB, modB_len, hM]
    rw [← hB] at e5 hrs
    have ka : k_rAdd [.lst .frozen (bls B) (8 * M), kv] objs = some (.lst (.fresh 1 true) (bls (addB B (hashZ l) 6)) (8 * M), none) := by
      have hb : bR objs (.lst .frozen (bls B) (8 * M)) = some B := bR_lst hBl.symm
      have hk := ofIntsR_of (objs := objs) hkd
      have c1 : 0 < 8 * M ∧ 8 * M < 1099511627776 := by omega
      simp (disch := omega) [k_rAdd, hb, hk, hBl, c1]
    simp -implicitDefEqProofs (disch := omega) [e5, e10, e11, e12, ht, hlo, ho, h, vi, hc1', hce, kd, c_rAdd, ka, wrap_small]
    rw [hI]
    exact ⟨by simp [hrs], by simp [e10], by simp [e11], by simp, by simp, by simp, by simp⟩
  · obtain rfl : i = ls.length := by omega
    rw [List.take_length] at e5
    simp -implicitDefEqProofs (disch := omega) [e5, e10, e11, e12, ht, hlo, ho])

end Go.Proofs.Ytpfkebjjbhnehaa.B
set_option maxRecDepth 20000
set_option maxHeartbeats 1000000
namespace Go.Proofs.Ytpfkebjjbhnehaa.B
open Go Go.Ab
theorem EndsW.goK {P : Program} {A : Ann} {T : CallF} {f : FuncId} {c : Code} {fn : Func} {args : List V} {objs : List AO} {r : V × Option (List AO × Nat)} (rs : List ResultVar) (hb : fn.body = some c) (hr : fn.results.toList = rs) (hk : A.keep f = true) (h : ToW P A T f 0 c ⟨entryEnv args, [], objs, objs.length⟩ (FinQ P A f rs objs r)) : EndsW P A T f fn args objs r := by
  obtain ⟨e, s, h1, h2⟩ := h
  subst hr
  have hbs : baseOf A f objs.length = 0 := by unfold baseOf; rw [hk]; rfl
  exact ⟨c, e, s, hb, h2.1, by rw [hbs]; exact h1, h2.2⟩
noncomputable def k_ApartK : Ab.Spec := con3 some some some fun v w u objs => match v with
  | .nils => match ofIntsR .u8 objs w, ofIntsR .u8 objs u with | some b, some c => if b = [] ∧ c = [] then some (.bool true, some (objs, objs.length)) else none | _, _ => none
  | .ref id ver 0 n 1 => match Ab.getObj objs id ver with
    | some cs => (ofCellsI .u8 cs).bind fun a => bnd a.length 140737488354000 (if n = a.length ∧ ofIntsR .u8 objs w = some a ∧ ofIntsR .u8 objs u = some a ∧ ofIntsR .u8 (objs.set id (.cells (ints .u8 (a.map spF)) ver)) w = some a ∧ ofIntsR .u8 (objs.set id (.cells (ints .u8 (a.map spF)) ver)) u = some a then some (.bool true, if n = 0 then some (objs, objs.length) else some (objs.set id (.cells (ints .u8 (a.map spF)) ver), id)) else none)
    | _ => none
  | _ => none
noncomputable def T_ApartK : CallF := withF T_model 22 k_ApartK
theorem T_ApartK_ok : CallOk Try.prog T_ApartK := con_ofW (A := annOf [] [] [] true [13]) fit T_model_ok (fn := Try.f22) (by kernel_rfl) (by kernel_rfl) (by
  intro args objs r h0
  have c_SameR : ∀ a o, T_model 25 a o = k_SameR a o := fun _ _ => rfl
  have c_TurnedR : ∀ a o, T_model 35 a o = k_TurnedR a o := fun _ _ => rfl
  have c_Spoil : ∀ a o, T_model 13 a o = k_Spoil a o := fun _ _ => rfl
  obtain ⟨v, w, u, _, _, _, rfl, hv, hw, hu, hR⟩ := con3_inv h0
  cases hv; cases hw; cases hu
  refine EndsW.goK _ rfl rfl rfl ?_
  split at hR
  · split at hR
    case h_2 => cases hR
    rename_i b c hb hc
    split at hR
    case isFalse => cases hR
    rename_i e
    obtain ⟨rfl, rfl⟩ := e
    cases hR
    have hn : ofIntsR .u8 objs V.nils = some [] := rfl
    obtain ⟨pb, wd, wn, -⟩ := bsR hb
    obtain ⟨pc, ud, un, -⟩ := bsR hc
    refine .thenT ?_
    simp
    refine .thenT ?_
    simp -implicitDefEqProofs (disch := omega) [wd, ud, c_SameR, k_SameR, hn, hb, hc]
    refine .thenT ?_
    simp -implicitDefEqProofs (disch := omega) [c_Spoil, k_Spoil]
    refine .thenT ?_
    simp -implicitDefEqProofs (disch := omega)
    refine .then (.thenT ?_)
    simp -implicitDefEqProofs (disch := omega)
    refine .cut (grow_block (N := 70) (n := 0) (X := fun _ => True) (LB := [7, 30, 29, 28, 27, 26]) (by omega) (by omega) (.inl ⟨rfl, rfl⟩) rfl (fun _ _ _ _ _ _ => trivial) (fun _ _ _ _ => trivial) (body_byte u23 (by kernel_rfl) v5 u3 u5 (by omega) (by decide)) (by simp) (by decide) (by decide)) ?_
    show ToW _ _ _ _ _ _ _ _
    refine .of ?_
    simp -implicitDefEqProofs (disch := omega) [grownEnv, wd, ud, un, c_TurnedR, k_TurnedR, c_SameR, k_SameR, hn, hb, hc, wrap_small]
  · rename_i id ver n
    split at hR
    case h_2 => cases hR
    rename_i cs hg
    obtain ⟨a, ecs, hR2⟩ := Option.bind_eq_some_iff.1 hR
    obtain rfl := ofCellsI_inv ecs
    clear hR
    obtain ⟨hl, hR⟩ := bnd_inv hR2
    split at hR
    case isFalse => cases hR
    rename_i e
    obtain ⟨rfl, hb, hc, hb2, hc2⟩ := e
    have hid := getObj_lt hg
    have hn := ofIntsR_ref hg (n := a.length) rfl
    obtain ⟨pb, wd, wn, -⟩ := bsR hb
    obtain ⟨pc, ud, un, -⟩ := bsR hc
    have hl2 : a.length < 140737488355000 := by omega
    refine .thenT ?_
    simp
    refine .thenT ?_
    simp -implicitDefEqProofs (disch := omega) [wd, ud, c_SameR, k_SameR, hn, hb, hc]
    refine .thenT ?_
    by_cases hz : a.length = 0
    · rw [if_pos hz] at hR
      cases hR
      obtain rfl := List.eq_nil_of_length_eq_zero hz
      simp -implicitDefEqProofs (disch := omega) [c_Spoil, k_Spoil, hg, ofCellsI_ints]
      refine .thenT ?_
      simp -implicitDefEqProofs (disch := omega)
      refine .then (.thenT ?_)
      simp -implicitDefEqProofs (disch := omega)
      refine .cut (grow_block (N := 70) (n := 0) (X := fun _ => True) (LB := [7, 30, 29, 28, 27, 26]) (by omega) (by omega) (.inr ⟨id, ver, _, rfl, hg, by simp⟩) rfl (fun _ _ _ _ _ _ => trivial) (fun _ _ _ _ => trivial) (body_byte u23 (by kernel_rfl) v5 u3 u5 (by omega) (by decide)) (by simp) (by decide) (by decide)) ?_
      show ToW _ _ _ _ _ _ _ _
      refine .of ?_
      simp at hn
      simp -implicitDefEqProofs (disch := omega) [grownEnv, wd, ud, un, c_TurnedR, k_TurnedR, c_SameR, k_SameR, hn, hb, hc, wrap_small]
    · rw [if_neg hz] at hR
      cases hR
      have hgs := getObj_set (cs := ints .u8 (a.map spF)) (v := ver) hid
      have hn2 := ofIntsR_ref hgs (n := a.length) (by simp)
      simp -implicitDefEqProofs (disch := omega) [c_Spoil, k_Spoil, hg, ofCellsI_ints, hl2, hz, hid]
      refine .thenT ?_
      simp -implicitDefEqProofs (disch := omega)
      refine .then (.thenT ?_)
      simp -implicitDefEqProofs (disch := omega)
      refine .cut (grow_block (N := 70) (n := a.length) (X := fun _ => True) (LB := [7, 30, 29, 28, 27, 26]) (by omega) (by omega) (.inr ⟨id, ver, _, rfl, hgs, by simp⟩) rfl (fun _ _ _ _ _ _ => trivial) (fun _ _ _ _ => trivial) (body_byte u23 (by kernel_rfl) v5 u3 u5 (by omega) (by decide)) (by simp) (by decide) (by decide)) ?_
      show ToW _ _ _ _ _ _ _ _
      refine .of ?_
      have htk : (objs.set id (AO.cells (ints .u8 (a.map spF)) ver)).take objs.length = objs.set id (AO.cells (ints .u8 (a.map spF)) ver) := List.take_of_length_le (by simp)
      simp -implicitDefEqProofs (disch := omega) [grownEnv, wd, ud, un, c_TurnedR, k_TurnedR, c_SameR, k_SameR, hn2, hb2, hc2, hl, htk, hid, wrap_small]
  · cases hR)

/-! the document's example -/
noncomputable def k_alive : Ab.Spec := con0 fun objs => match objs with | [] => some (.bool true, none) | _ => none
noncomputable def T_alive : CallF := withF T_ApartK 7 k_alive
theorem T_alive_ok : CallOk Try.prog T_alive := con_of (A := annOf [] [] [] false [8, 11, 26]) fit T_ApartK_ok (fn := Try.f7) (by kernel_rfl) (by kernel_rfl) (by
  intro args objs r h0
  have c_New : ∀ a o, T_ApartK 8 a o = k_New a o := fun _ _ => rfl
  have c_Add : ∀ a o, T_ApartK 11 a o = k_Add a o := fun _ _ => rfl
  have c_Has : ∀ a o, T_ApartK 18 a o = k_Has a o := fun _ _ => rfl
  have c_Bits : ∀ a o, T_ApartK 15 a o = k_Bits a o := fun _ _ => rfl
  have c_Count : ∀ a o, T_ApartK 16 a o = k_Count a o := fun _ _ => rfl
  have c_Enc : ∀ a o, T_ApartK 23 a o = k_Enc a o := fun _ _ => rfl
  have c_DecK : ∀ a o, T_ApartK 26 a o = k_DecK a o := fun _ _ => rfl
  have c_Hash : ∀ a o, T_ApartK 20 a o = k_Hash a o := fun _ _ => rfl
  obtain ⟨rfl, hR⟩ := con0_inv h0
  split at hR <;> cases hR
  obtain ⟨O1, hO1⟩ : ∃ O, O = ([] : List AO) ++ [.cells (ints .u8 (zeroR 10)) 0, .cells [.ref 0 0 0 (mB 10) 1] 0] := ⟨_, rfl⟩
  have kn : k_New [.int .i64 10] [] = some (.ptr 1 0 0, some (O1, 0)) := by rw [hO1]; rfl
  have F1 : FilAt O1 0 (zeroR 10) := by rw [hO1]; exact zeros_new 10 []
  have hm : mB 10 = 13 := by kernel_rfl
  have kb := k_bits F1
  rw [zeroR_len, hm] at kb
  have kb : k_Bits [.ptr 1 0 0] O1 = some (.int .i64 104, none) := kb
  have ha : ofInts .u8 (.lst .frozen [.int .u8 97] 1) = some [97] := rfl
  have hR : ∀ O, ofIntsR .u8 O (.lst .frozen [.int .u8 97] 1) = some [97] := fun O => ofIntsR_of ha
  have hno : hasR (zeroR 10) (hashZ [97]) = false := by kernel_rfl
  have kh := k_has F1 (hR _) (by decide)
  rw [hno] at kh
  have kh : k_Has [.ptr 1 0 0, .lst .frozen [.int .u8 97] 1] O1 = some (.bool false, none) := kh
  obtain ⟨r, hr⟩ : ∃ r, r = rowAdds (zeroR 10) [[97]] := ⟨_, rfl⟩
  have ka := k_add F1 (keyD1 (keyD_told (O := O1) (R := 0) ha)) (by decide) (by intro l hl; rw [List.mem_singleton] at hl; subst hl; decide)
  rw [if_neg (by simp), ← hr] at ka
  have hz0 : 0 < (zeroR 10).length := by rw [zeroR_len, hm]; decide
  have rl : r.length = 13 := by rw [hr, rowAdds_len, zeroR_len, hm]
  have r8 : b8 r = true := by rw [hr]; exact rowAdds_b8 (zeroR_b8 10) hz0 _
  obtain ⟨O2, hO2⟩ : ∃ O, O = O1.set 0 (.cells (ints .u8 r) 0) := ⟨_, rfl⟩
  rw [← hO2] at ka
  have ka : k_Add [.ptr 1 0 0, .lst .frozen [.lst .frozen [.int .u8 97] 1] 1] O1 = some (.tup [], some (O2, 0)) := ka
  have F2 : FilAt O2 0 r := by rw [hO2]; exact F1.put (by rw [rl, zeroR_len, hm]) r8
  have ke : k_Enc [.ptr 1 0 0] O2 = some (.lst (.fresh 1 true) (ints .u8 (bencZ r)) (bencZ r).length, none) := k_enc F2
  obtain ⟨d1, d2⟩ := dec_enc r8 (by omega) (by omega)
  obtain ⟨b, hb⟩ : ∃ b, b = bencZ r := ⟨_, rfl⟩
  have hbl := bencZ_len (row := r) (by omega)
  have hb8 := bencZ_b8 r8
  rw [← hb] at ke d1 d2 hbl hb8
  obtain ⟨O3, hO3⟩ : ∃ O, O = O2 ++ [.cells (ints .u8 r) 0, .cells [.ref O2.length 0 0 r.length 1] 0] := ⟨_, rfl⟩
  have kd : k_DecK [.lst .frozen (ints .u8 b) b.length] O2 = some (.tup [.ptr (O2.length + 1) 0 0, .int .i64 0], some (O3, O2.length)) := by
    have h1 : ofIntsR .u8 O2 (.lst .frozen (ints .u8 b) b.length) = some b := ofIntsR_of (ofInts_lst rfl)
    simp (disch := omega) [k_DecK, h1, hb8, decRes, d1, d2, hO3]
  have F3 : FilAt O3 0 r := by rw [hO3]; exact F2.app
  have F4 : FilAt O3 O2.length r := by rw [hO3]; exact FilAt.new r8 (by omega) (by omega) rfl
  have hyes : hasR r (hashZ [97]) = true := by rw [hr]; kernel_rfl
  have kh3 := k_has F3 (hR _) (by decide)
  have kh4 := k_has F4 (hR _) (by decide)
  rw [hyes] at kh3 kh4
  have kh3 : k_Has [.ptr 1 0 0, .lst .frozen [.int .u8 97] 1] O3 = some (.bool true, none) := kh3
  have kc := k_count F3
  have hc : cntB (bitsZ r) = cntB (bitsZ (rowAdds (zeroR 10) [[97]])) := by rw [hr]
  have hc1 : 0 < cntB (bitsZ r) ∧ cntB (bitsZ r) ≤ 6 := by rw [hc]; decide +kernel
  obtain ⟨c, hcc⟩ : ∃ c, c = cntB (bitsZ r) := ⟨_, rfl⟩
  rw [← hcc] at kc hc1
  have kc : k_Count [.ptr 1 0 0] O3 = some (.int .i64 c, none) := kc
  have khs : k_Hash [.lst .frozen [.int .u8 97] 1] O3 = some (.int .u64 12638187200555641996, none) := by
    have h : hashZ [97] = 12638187200555641996 := by kernel_rfl
    simp (disch := omega) [k_Hash, hR, h]
  have c1 : 0 < c := hc1.1
  have c2 : (c : Int) ≤ 6 := by omega
  refine .go _ rfl rfl ?_
  simp -implicitDefEqProofs (disch := omega) [c_New, kn, nilEq, nilFit, c_Bits, kb, blit1, convV, c_Has, kh, c_Add, ka, c_Enc, ke, c_DecK, kd, kh3, kh4, c_Count, kc, c1, c2, c_Hash, khs, listV, fillV, zeros, setCells])

end Go.Proofs.Ytpfkebjjbhnehaa.B
