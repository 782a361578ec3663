import Derived.Test.YtmoegiibdaomlaaFr2
set_option linter.unusedSimpArgs false
set_option linter.unusedVariables false
set_option linter.unusedSectionVars false
set_option maxRecDepth 20000
set_option maxHeartbeats 1000000
namespace Go.Proofs.Ytmoegiibdaomlaa.B
open Go Go.Ab
def sealZ (l : List Int) : List Int := l ++ tailZ (sumZ [l])
theorem tailZ_len (s : Int) : (tailZ s).length = 4 := rfl
theorem tailZ_take (s : Int) : List.take 4 (tailZ s) = tailZ s := rfl
theorem sealZ_len (l : List Int) : (sealZ l).length = l.length + 4 := by simp [sealZ, tailZ_len]
theorem part1 {v : V} {l : List Int} (h : ofInts .u8 v = some l) : listV Try.prog 47 1 [(0, v)] = some ([v], 1) ∧ ofList (ofInts .u8) (.lst .frozen [v] 1) = some [l] := by
  obtain ⟨-, -, -, -, v1, v2, -⟩ := bs h
  refine ⟨by simp [listV, fillV, zeros, setCells, v1, v2], ofList_lst (ofCells_cons h rfl) rfl⟩
noncomputable def k_Seal : Ab.Spec := con1 (ofInts .u8) fun l _ => bnd l.length 140737488355000 (some (.lst (.fresh 1 false) (ints .u8 (sealZ l)) (l.length + 4), none))
noncomputable def T_Seal : CallF := withF T_tail 30 k_Seal
theorem T_Seal_ok : CallOk Try.prog T_Seal := con_of (A := annOf [11] [] [] false []) fit T_tail_ok (fn := Try.f30) (by kernel_rfl) (by kernel_rfl) (by
  intro args objs r h0
  have c_Sum : ∀ a o, T_tail 39 a o = k_Sum a o := fun _ _ => rfl
  have c_tail : ∀ a o, T_tail 38 a o = k_tail a o := fun _ _ => rfl
  obtain ⟨v, l, rfl, ha, hR⟩ := con1_inv h0
  obtain ⟨hl, hR⟩ := bnd_inv hR
  cases hR
  obtain ⟨vd, vn, vi, va, -⟩ := bs ha
  obtain ⟨p1, p2⟩ := part1 ha
  have hl2 : l.length < 140737488355328 := by omega
  refine .go _ rfl rfl ?_
  simp -implicitDefEqProofs (disch := omega) [if_pos, vn, vd, va, p1, p2, c_Sum, c_tail, k_Sum, k_tail, hl2, setCells, getObj_last, wrap_small, Nat.mod_one, sealZ, tailZ_len, tailZ_take])
def sealedB (l : List Int) : Bool := decide (4 ≤ l.length ∧ l.drop (l.length - 4) = tailZ (sumZ [l.take (l.length - 4)]))
noncomputable def k_Sealed : Ab.Spec := con1 (ofInts .u8) fun l _ => bnd l.length 140737488355000 (some (.bool (sealedB l), none))
noncomputable def T_Sealed : CallF := withF T_Seal 33 k_Sealed
theorem T_Sealed_ok : CallOk Try.prog T_Sealed := con_of (A := annOf [] [] [] false []) fit T_Seal_ok (fn := Try.f33) (by kernel_rfl) (by kernel_rfl) (by
  intro args objs r h0
  have c_Sum : ∀ a o, T_Seal 39 a o = k_Sum a o := fun _ _ => rfl
  have c_tail : ∀ a o, T_Seal 38 a o = k_tail a o := fun _ _ => rfl
  obtain ⟨v, l, rfl, ha, hR⟩ := con1_inv h0
  obtain ⟨hl, hR⟩ := bnd_inv hR
  cases hR
  obtain ⟨vd, vn, -⟩ := bs ha
  have w : IntKind.i64.wrap ((l.length : Int) - 4) = (l.length : Int) - 4 := wrap_small (by omega) (by omega)
  refine .go _ rfl rfl ?_
  by_cases h : 4 ≤ l.length
  · obtain ⟨n, hn⟩ : ∃ n, l.length = n + 4 := ⟨l.length - 4, by omega⟩
    have hx : ((n + 4 : Nat) : Int) - 4 = (n : Int) := by omega
    obtain ⟨w1, c1, d1⟩ := bcut ha objs none (some (.int .i64 (n : Int))) 0 n rfl (by simp [boundV]) (by omega) (by omega)
    obtain ⟨w2, c2, d2⟩ := bcut ha objs (some (.int .i64 (n : Int))) none n (n + 4) (by simp [boundV]) (by simp [boundV, hn]) (by omega) (by omega)
    rw [List.drop_zero] at d1
    rw [← hn, List.take_length] at d2
    obtain ⟨p1, p2⟩ := part1 d1
    have hd : w2 = .lst .frozen (ints .u8 (l.drop n)) 4 := by
      rcases ofInts_inv d2 with h | ⟨-, -, h⟩
      · rw [h]; simp [hn]
      · simp [hn] at h
    obtain ⟨u1, -⟩ := bs d1
    have h4 : (l.drop n).length = 4 := by simp [hn]
    have he := eq_ints (k := .u8) (tailZ_len (sumZ [l.take n])) h4
    simp only [List.replicate] at he
    have h5 : List.take 4 (l.drop n) = l.drop n := List.take_of_length_le (by omega)
    rw [hn, hx] at w
    have hln : l.length - 4 = n := by omega
    have hl2 : n < 140737488355328 := by omega
    have hl3 : min n l.length = n := by omega
    have hb : sealedB l = decide (tailZ (sumZ [l.take n]) = l.drop n) := by
      unfold sealedB
      rw [hln]
      exact decide_eq_decide.2 ⟨fun q => q.2.symm, fun q => ⟨h, q.symm⟩⟩
    simp -implicitDefEqProofs (disch := omega) [vn, vd, w, hn, hx, c1, c2, u1, p1, p2, c_Sum, c_tail, k_Sum, k_tail, hl2, hl3, hd, h4, h5, he, hb]
  · have hb : sealedB l = false := by simp [sealedB, h]
    simp (disch := omega) [vn, vd, w, hb])

/-! the document's sum -/
def rstepZ (s : Int) : Int := if s.tmod 2 = 1 then Go.bits .xor .u32 (IntKind.u32.wrap (s.tdiv 2)) 2197175160 else IntKind.u32.wrap (s.tdiv 2)
def iterR : Nat → Int → Int | 0, z => z | n + 1, z => rstepZ (iterR n z)
def rfeedZ (s c : Int) : Int := iterR 8 (Go.bits .xor .u32 s (IntKind.u32.wrap c))
def rextZ (s : Int) (l : List Int) : Int := l.foldl rfeedZ s
def rsumZ (l : List Int) : Int := Go.bits .xor .u32 (rextZ 4294967295 l) 4294967295
theorem rextZ_snoc (s : Int) (l : List Int) (c : Int) : rextZ s (l ++ [c]) = rfeedZ (rextZ s l) c := by simp only [rextZ, List.foldl_append, List.foldl_cons, List.foldl_nil]
noncomputable def k_rSum : Ab.Spec := con1 (ofInts .u8) fun l _ => bnd l.length 140737488355328 (some (.int .u32 (rsumZ l), none))
noncomputable def T_rSum : CallF := withF T_Sealed 37 k_rSum
theorem T_rSum_ok : CallOk Try.prog T_rSum := con_of (A := annOf [] [] [] false []) fit T_Sealed_ok (fn := Try.f37) (by kernel_rfl) (by kernel_rfl) (by
  intro args objs r h0
  obtain ⟨v, l, rfl, ha, hR⟩ := con1_inv h0
  obtain ⟨hl, hR⟩ := bnd_inv hR
  cases hR
  obtain ⟨vd, vn, vi, -⟩ := bs ha
  refine .go _ rfl rfl ?_
  simp [vn]
  refine .up l.length (fun i s => s.env 0 = v ∧ s.env 3 = .int .u32 (rextZ 4294967295 (l.take i)) ∧ s.env 4 = .int .i64 i ∧ s.toks = [] ∧ s.objs = objs ∧ s.low = objs.length) (by simp [rextZ]) ?_
  rintro i s hi ⟨h0, h3, h4, ht, ho, hlo⟩
  rcases Nat.lt_or_ge i l.length with h | h
  · have e := take_nth h
    simp (disch := omega) [h0, h3, h4, ht, ho, hlo, vn, vi, h, ints_nth, convV]
    refine .up 8 (fun j s' => s'.env 0 = v ∧ s'.env 3 = .int .u32 (iterR j (Go.bits .xor .u32 (rextZ 4294967295 (l.take i)) (IntKind.u32.wrap (nth l i)))) ∧ s'.env 4 = .int .i64 i ∧ s'.env 5 = .int .i64 j ∧ s'.toks = [] ∧ s'.objs = objs ∧ s'.low = objs.length) (by simp [iterR, h0, h4]) ?_
    rintro j s' hj ⟨h0, h3, h4, h5, ht, ho, hlo⟩
    rcases Nat.lt_or_ge j 8 with hj | hj
    · by_cases hc : (iterR j (Go.bits .xor .u32 (rextZ 4294967295 (l.take i)) (IntKind.u32.wrap (nth l i)))).tmod 2 = 1
      · simp (disch := omega) [h0, h3, h4, h5, ht, ho, hlo, hc, hj, iterR, rstepZ, wrap_small]
      · simp (disch := omega) [h0, h3, h4, h5, ht, ho, hlo, hc, hj, iterR, rstepZ, wrap_small]
    · obtain rfl : j = 8 := by omega
      have e2 : rextZ 4294967295 (l.take (i + 1)) = iterR 8 (Go.bits .xor .u32 (rextZ 4294967295 (l.take i)) (IntKind.u32.wrap (nth l i))) := by rw [e, rextZ_snoc]; rfl
      have hi2 : i + 1 ≤ l.length := h
      simp (disch := omega) [h0, h3, h4, h5, ht, ho, hlo, e2, h, wrap_small]
  · obtain rfl : i = l.length := by omega
    simp (disch := omega) [h0, h3, h4, ht, ho, hlo, vn, rsumZ])
def rsealZ (l : List Int) : List Int := l ++ lowZ 4 (IntKind.u64.wrap (rsumZ l))
theorem rsealZ_len (l : List Int) : (rsealZ l).length = l.length + 4 := by simp [rsealZ, lowZ_len]
noncomputable def k_rSeal : Ab.Spec := con1 (ofInts .u8) fun l _ => bnd l.length 140737488355000 (some (.lst .frozen (ints .u8 (rsealZ l)) (l.length + 4), none))
noncomputable def T_rSeal : CallF := withF T_rSum 29 k_rSeal
theorem T_rSeal_ok : CallOk Try.prog T_rSeal := con_of (A := annOf [] [] [] false []) fit T_rSum_ok (fn := Try.f29) (by kernel_rfl) (by kernel_rfl) (by
  intro args objs r h0
  have c_rSum : ∀ a o, T_rSum 37 a o = k_rSum a o := fun _ _ => rfl
  have c_Low : ∀ a o, T_rSum 28 a o = k_Low a o := fun _ _ => rfl
  have c_Cat : ∀ a o, T_rSum 25 a o = k_Cat a o := fun _ _ => rfl
  obtain ⟨v, l, rfl, ha, hR⟩ := con1_inv h0
  obtain ⟨hl, hR⟩ := bnd_inv hR
  cases hR
  obtain ⟨vd, vn, vi, -⟩ := bs ha
  have h4 : ofInts .u8 (.lst .frozen (ints .u8 (lowZ 4 (IntKind.u64.wrap (rsumZ l)))) 4) = some (lowZ 4 (IntKind.u64.wrap (rsumZ l))) := ofInts_lst (by rw [lowZ_len])
  refine .go _ rfl rfl ?_
  simp (disch := (first | omega | (simp only [lowZ_len]; omega))) [vd, ha, c_rSum, c_Low, c_Cat, k_rSum, k_Low, k_Cat, convV, h4, lowZ_len, rsealZ])
def rsealedB (l : List Int) : Bool := decide (4 ≤ l.length ∧ valZ (l.drop (l.length - 4)) = IntKind.u64.wrap (rsumZ (l.take (l.length - 4))))
noncomputable def k_rSealed : Ab.Spec := con1 (ofInts .u8) fun l _ => bnd l.length 140737488355000 (some (.bool (rsealedB l), none))
noncomputable def T_rSealed : CallF := withF T_rSeal 35 k_rSealed
theorem T_rSealed_ok : CallOk Try.prog T_rSealed := con_of (A := annOf [] [] [] false []) fit T_rSeal_ok (fn := Try.f35) (by kernel_rfl) (by kernel_rfl) (by
  intro args objs r h0
  have c_rSum : ∀ a o, T_rSeal 37 a o = k_rSum a o := fun _ _ => rfl
  have c_Value : ∀ a o, T_rSeal 36 a o = k_Value a o := fun _ _ => rfl
  have c_Piece : ∀ a o, T_rSeal 26 a o = k_Piece a o := fun _ _ => rfl
  obtain ⟨v, l, rfl, ha, hR⟩ := con1_inv h0
  obtain ⟨hl, hR⟩ := bnd_inv hR
  cases hR
  obtain ⟨vd, vn, -⟩ := bs ha
  have w : IntKind.i64.wrap ((l.length : Int) - 4) = (l.length : Int) - 4 := wrap_small (by omega) (by omega)
  refine .go _ rfl rfl ?_
  by_cases h : 4 ≤ l.length
  · obtain ⟨n, hn⟩ : ∃ n, l.length = n + 4 := ⟨l.length - 4, by omega⟩
    have hx : ((n + 4 : Nat) : Int) - 4 = (n : Int) := by omega
    rw [hn, hx] at w
    have hc : canV l (n : Int) 4 = true := by simp [canV]; omega
    have hp : pieceZ l 0 (n : Int) = l.take n := by simp [pieceZ]
    have hpl : (l.take n).length = n := by simp; omega
    have h4 : ofInts .u8 (.lst .frozen (ints .u8 (l.take n)) n) = some (l.take n) := ofInts_lst hpl.symm
    have h5 : List.take 4 (l.drop n) = l.drop n := List.take_of_length_le (by simp; omega)
    have hb : rsealedB l = (valZ (l.drop n) == IntKind.u64.wrap (rsumZ (l.take n))) := by
      have hln : l.length - 4 = n := by omega
      unfold rsealedB
      rw [hln]
      by_cases hh : valZ (l.drop n) = IntKind.u64.wrap (rsumZ (l.take n)) <;> simp [hh, h]
    have hl2 : n < 140737488355328 := by omega
    have hl3 : n + 4 < 140737488355300 := by omega
    simp (disch := omega) [vn, vd, ha, w, hn, hx, c_rSum, c_Value, c_Piece, k_rSum, k_Value, k_Piece, hc, hp, hpl, h4, h5, convV, hb, hl3]
  · have hb : rsealedB l = false := by simp [rsealedB, h]
    simp (disch := omega) [vn, vd, w, hb])

end Go.Proofs.Ytmoegiibdaomlaa.B
