import Derived.Test.YtmoegiibdaomlaaFg4
set_option linter.unusedSimpArgs false
set_option linter.unusedVariables false
set_option linter.unusedSectionVars false
set_option maxRecDepth 20000
set_option maxHeartbeats 1000000
namespace Go.Proofs.Ytmoegiibdaomlaa.B
open Go Go.Ab
noncomputable def k_rfScan : Ab.Spec := con1 (ofInts .u8) fun l _ => bnd l.length 50000000000000 (if b8 l = true then some (.tup [.lst (.fresh 2 false) (flatV frV (scX l).1) (scX l).1.length, .int .i64 (scX l).2.1, .int .i64 (scX l).2.2], none) else none)
noncomputable def T_rfScan : CallF := withF T_rfGet 20 k_rfScan
theorem T_rfScan_ok : CallOk Try.prog T_rfScan := con_of (A := annOf [10] [] [] false []) fit T_rfGet_ok (fn := Try.f20) (by kernel_rfl) (by kernel_rfl) (by
  intro args objs r h0
  have c_rfGet : ∀ a o, T_rfGet 17 a o = k_rfGet a o := fun _ _ => rfl
  obtain ⟨v, l, rfl, ha, hR⟩ := con1_inv h0
  obtain ⟨hl, hR⟩ := bnd_inv hR
  split at hR
  case isFalse => cases hR
  rename_i hb8
  cases hR
  have hB : B8 l := b8_iff.1 hb8
  obtain ⟨vd, vn, vi, -⟩ := bs ha
  obtain ⟨X, hX⟩ : ∃ X, X = scZ l l.length 0 := ⟨_, rfl⟩
  have hX' : scX l = X := hX.symm
  rw [hX']
  refine .go _ rfl rfl ?_
  simp [flit0]
  refine .up l.length (fun i s => s.env 0 = v ∧ s.low = objs.length ∧ objs.length ≤ s.objs.length ∧ ∃ (acc : List (Int × List Int)) (a : Int), s.env 6 = .int .i64 a ∧ (i : Int) ≤ a ∧ a ≤ l.length ∧ (acc.length : Int) * 13 ≤ a ∧ X = (acc ++ (scZ l (l.length - i) a).1, (scZ l (l.length - i) a).2) ∧ s.env 5 = .lst (.tok 0 2) (flatV frV acc) acc.length ∧ s.toks = [acc.length * 2]) ⟨by simp, by simp, by simp, [], 0, by simp, by simp, by omega, by simp, by simp [hX], by simp [flatV_nil], by simp⟩ ?_
  rintro i s hi ⟨g0, hlo, hol, acc, a, g6, hia, hal, h13, hXa, g5, ht⟩
  obtain ⟨O, hO⟩ : ∃ O, O = s.objs := ⟨_, rfl⟩
  have ho := hO.symm
  rw [← hO] at hol
  have hif : (if O.length < objs.length then O.length else objs.length) = objs.length := if_neg (by omega)
  have hflen := flatV_len frV_len acc
  by_cases hlt : a < (l.length : Int)
  · have hlt' : i < l.length := by omega
    obtain ⟨n, hn⟩ : ∃ n, l.length - i = n + 1 := ⟨l.length - i - 1, by omega⟩
    rw [hn] at hXa
    by_cases he : (getZ l a).err ≠ 0
    · rw [scZ_bad hlt he] at hXa
      obtain ⟨e, hge, he0⟩ := get_bad he
      rw [hge, bad_err] at hXa
      have he' : (e != 0) = true := by simpa using he0
      simp only [List.append_nil] at hXa
      have hnr := frs_norefs acc objs.length
      simp -implicitDefEqProofs (disch := omega) [g0, g6, g5, ht, hlo, ho, vn, vd, ha, hlt, c_rfGet, k_rfGet, hb8, hge, frameV_bad, bad_next, bad_err, setCells, getObj_last, set_last, hif, he', hXa, hnr, hflen]
    · obtain ⟨k, b, hge, hpe, h0a, hnx⟩ := get_ok hB (Decidable.byContradiction he)
      rw [scZ_ok hlt hge] at hXa
      obtain ⟨x, hx⟩ : ∃ x, x = a + ((b.length : Int) + 13) := ⟨_, rfl⟩
      rw [← hx] at hge hXa hnx
      have hfv : frameV ⟨k, some b, x, 0⟩ = .agg [.int .i64 k, .lst .frozen (ints .u8 b) b.length] := rfl
      have hX2 : X = ((acc ++ [(k, b)]) ++ (scZ l (l.length - (i + 1)) x).1, (scZ l (l.length - (i + 1)) x).2) := by
        rw [hXa, show l.length - (i + 1) = n by omega]; simp
      have fl1 := flit1 k (.lst .frozen (ints .u8 b) b.length) rfl rfl
      have fs1 : flatV frV acc ++ [.int .i64 k, .lst .frozen (ints .u8 b) b.length] = flatV frV (acc ++ [(k, b)]) := flatV_snoc (f := frV) (a := (k, b))
      simp -implicitDefEqProofs (disch := omega) [g0, g6, g5, ht, hlo, ho, vn, vd, ha, hlt, c_rfGet, k_rfGet, hb8, hge, hfv, setCells, getObj_last, set_last, hif, fl1, fs1, hflen]
      exact ⟨hlt', by omega, by omega, hnx, acc ++ [(k, b)], by simp; omega, hX2, ⟨rfl, by simp⟩, by simp; omega⟩
  · rw [scZ_end hlt] at hXa
    simp only [List.append_nil] at hXa
    have hnr := frs_norefs acc objs.length
    simp -implicitDefEqProofs (disch := omega) [g0, g6, g5, ht, hlo, ho, vn, hlt, hXa, hnr, hflen])
/-! frames told or held -/
def ofFrA : List V → Option (Int × V) | [.int .i64 a, v] => some (a, v) | _ => none
theorem ofFrA_inv (x : List V) (r : Int × V) (h : ofFrA x = some r) : x = frW r := by
  unfold ofFrA at h
  split at h
  · cases h; rfl
  · cases h
def ofFrsA : V → Option (List (Int × V)) := ofRecL ofFrA 2
theorem fsA {v : V} {l : List (Int × V)} (h : ofFrsA v = some l) : demote v = v ∧ lenV Try.prog 40 v = some (.int .i64 l.length) ∧ (∀ k i, 0 ≤ i → i < (l.length : Int) → indexV Try.prog 40 v (.int k i) = some (.fptr (flatV frW l) (i.toNat * 2))) := by
  have w := ofRecL_inv frW_len ofFrA_inv h
  exact ⟨w.dem, w.size u40, fun k i h0 h1 => w.idx u40 z35 k i h0 h1⟩
def SameFr (objs : List AO) (a b : List (Int × V)) : Prop := a.length = b.length ∧ ∀ i, i < a.length → (nth a i).1 = (nth b i).1 ∧ ∃ l : List Int, ofIntsR .u8 objs (nth a i).2 = some l ∧ ofIntsR .u8 objs (nth b i).2 = some l ∧ l.length < 140737488355328
noncomputable def k_AlikeR : Ab.Spec := con2 ofFrsA ofFrsA fun a b objs => bnd a.length 140737488355328 (pre (SameFr objs a b) (some (.bool true, none)))
noncomputable def T_AlikeR : CallF := withF T_rfScan 21 k_AlikeR
theorem T_AlikeR_ok : CallOk Try.prog T_AlikeR := con_of (A := annOf [] [] [] false []) fit T_rfScan_ok (fn := Try.f21) (by kernel_rfl) (by kernel_rfl) (by
  intro args objs r h0
  have c_SameR : ∀ a o, T_rfScan 18 a o = k_SameR a o := fun _ _ => rfl
  obtain ⟨v, w, a, b, rfl, ha, hb, hR⟩ := con2_inv h0
  obtain ⟨hl, hR⟩ := bnd_inv hR
  obtain ⟨⟨hn, hS⟩, hR⟩ := pre_inv hR
  cases hR
  obtain ⟨vd, vn, vi⟩ := fsA ha
  obtain ⟨wd, wn, wi⟩ := fsA hb
  refine .go _ rfl rfl ?_
  simp [vn, wn, hn]
  refine .up a.length (fun i s => s.env 0 = v ∧ s.env 1 = w ∧ s.env 5 = .int .i64 i ∧ s.toks = [] ∧ s.objs = objs ∧ s.low = objs.length) (by simp) ?_
  rintro i s hi ⟨h0, h1, h5, ht, ho, hlo⟩
  rcases Nat.lt_or_ge i a.length with h | h
  · obtain ⟨hk, l, qa, qb, hll⟩ := hS i h
    have fa := flatV_get frW_len (l := a) (i := i) (j := 0) h (by omega)
    have fb := flatV_get frW_len (l := b) (i := i) (j := 0) (by omega) (by omega)
    have ga := flatV_get frW_len (l := a) (i := i) (j := 1) h (by omega)
    have gb := flatV_get frW_len (l := b) (i := i) (j := 1) (by omega) (by omega)
    obtain ⟨x, hx⟩ : ∃ x, x = nth a i := ⟨_, rfl⟩
    obtain ⟨y, hy⟩ : ∃ y, y = nth b i := ⟨_, rfl⟩
    rw [← hx] at fa ga qa hk
    rw [← hy] at fb gb qb hk
    have fa1 : (flatV frW a)[i * 2]? = some (.int .i64 x.1) := fa
    have fb1 : (flatV frW b)[i * 2]? = some (.int .i64 y.1) := fb
    have ga1 : (flatV frW a)[i * 2 + 1]? = some x.2 := ga
    have gb1 : (flatV frW b)[i * 2 + 1]? = some y.2 := gb
    have fa2 := of_get fa1
    have fb2 := of_get fb1
    have ga2 := of_get ga1
    have gb2 := of_get gb1
    obtain ⟨_, xd, -⟩ := bsR qa
    obtain ⟨_, yd, -⟩ := bsR qb
    have e1 := vi .i64 i (by omega) (by omega)
    have e2 := wi .i64 i (by omega) (by omega)
    rw [Int.toNat_natCast] at e1 e2
    have hkb : (x.1 != y.1) = false := by simpa using hk
    simp -implicitDefEqProofs (disch := omega) [h0, h1, h5, ht, ho, hlo, vn, wn, e1, e2, fa1, fb1, ga1, gb1, fa2, fb2, ga2, gb2, xd, yd, hkb, hn, c_SameR, k_SameR, qa, qb, wrap_small]
    omega
  · have hnl : ¬ i < b.length := by omega
    have hnl2 : ¬ i < a.length := by omega
    simp [h0, h1, h5, ht, ho, hlo, vn, wn, hnl, hnl2])
def okBody (b : Nat) (v : V) : Bool := match v with | .nils => true | .lst .frozen cs _ => norefs b cs | .ref id _ _ _ _ => decide (id < b) | _ => false
theorem okBody_of {b : Nat} {v : V} (h : okBody b v = true) : demote v = v ∧ isDef v = true ∧ oneCell v = true ∧ cellsOf v = [v] ∧ Ab.noref b v = true := by
  unfold okBody at h
  split at h
  · exact ⟨rfl, rfl, rfl, rfl, rfl⟩
  · exact ⟨rfl, rfl, rfl, rfl, by simpa [Ab.noref] using h⟩
  · exact ⟨rfl, rfl, rfl, rfl, by simpa [Ab.noref] using h⟩
  · cases h
theorem llit0 : listV Try.prog 47 0 [] = some ([], 1) := by simp [listV, fillV, zeros]
theorem llit1 {v : V} (h : isDef v = true) (hc : cellsOf v = [v]) : listV Try.prog 47 1 [(0, v)] = some ([v], 1) := by simp [listV, fillV, zeros, setCells, h, hc]
def OkB (objs : List AO) (a : List (Int × V)) : Prop := (a.map (·.2)).all (okBody objs.length) = true
noncomputable def k_Bodies : Ab.Spec := con1 ofFrsA fun a objs => bnd a.length 5000000000000 (pre (OkB objs a) (some (.lst (.fresh 1 false) (a.map (·.2)) a.length, none)))
noncomputable def T_Bodies : CallF := withF T_AlikeR 23 k_Bodies
theorem T_Bodies_ok : CallOk Try.prog T_Bodies := con_of (A := annOf [5] [] [] false []) fit T_AlikeR_ok (fn := Try.f23) (by kernel_rfl) (by kernel_rfl) (by
  intro args objs r h0
  obtain ⟨v, a, rfl, ha, hR⟩ := con1_inv h0
  obtain ⟨hl, hR⟩ := bnd_inv hR
  obtain ⟨hall, hR⟩ := pre_inv hR
  unfold OkB at hall
  cases hR
  obtain ⟨vd, vn, vi⟩ := fsA ha
  obtain ⟨B, hB⟩ : ∃ B, B = a.map (·.2) := ⟨_, rfl⟩
  have hBl : B.length = a.length := by rw [hB, List.length_map]
  rw [← hB] at hall ⊢
  refine .go _ rfl rfl ?_
  simp [llit0]
  refine .up a.length (fun i s => s.env 0 = v ∧ s.env 3 = .lst (.tok 0 1) (B.take i) i ∧ s.env 4 = .int .i64 i ∧ s.toks = [i] ∧ s.objs = objs ∧ s.low = objs.length) (by simp) ?_
  rintro i s hi ⟨h0, h3, h4, ht, ho, hlo⟩
  rcases Nat.lt_or_ge i a.length with h | h
  · have ga := flatV_get frW_len (l := a) (i := i) (j := 1) h (by omega)
    have e := take_nth (l := B) (i := i) (by omega)
    obtain ⟨x, hx⟩ : ∃ x, x = nth a i := ⟨_, rfl⟩
    have hxB : nth B i = x.2 := by rw [hB, hx]; exact nth_map h
    have hmem : x.2 ∈ B := by rw [← hxB]; exact nth_mem (by omega)
    rw [hxB] at e
    obtain ⟨xd, xi, xo, xc, xr⟩ := okBody_of (List.all_eq_true.1 hall _ hmem)
    rw [← hx] at ga
    have ga1 : (flatV frW a)[i * 2 + 1]? = some x.2 := ga
    have ga2 := of_get ga1
    have e1 := vi .i64 i (by omega) (by omega)
    rw [Int.toNat_natCast] at e1
    have l1 := llit1 xi xc
    have hm : min i B.length = i := by omega
    simp -implicitDefEqProofs (disch := omega) [h0, h3, h4, ht, ho, hlo, vn, e1, h, ga1, ga2, xd, xo, l1, e, hm, Nat.mod_one, wrap_small]
  · obtain rfl : i = a.length := by omega
    have hnr : norefs objs.length B = true := norefs_iff.2 fun u hu => (okBody_of (List.all_eq_true.1 hall u hu)).2.2.2.2
    rw [← hBl, List.take_length, hBl] at h3
    simp -implicitDefEqProofs (disch := omega) [h0, h3, h4, ht, ho, hlo, vn, hnr, hBl])

end Go.Proofs.Ytmoegiibdaomlaa.B
