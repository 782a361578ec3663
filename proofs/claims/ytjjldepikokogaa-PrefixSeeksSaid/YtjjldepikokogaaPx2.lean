import Derived.Test.YtjjldepikokogaaPx1
set_option linter.unusedSimpArgs false
set_option linter.unusedVariables false
set_option linter.unusedSectionVars false
set_option maxRecDepth 20000
set_option maxHeartbeats 1000000
namespace Go.Proofs.Ytjjldepikokogaa.B
open Go Go.Ab
/-! slices of bytes, told or as objects -/
theorem bsR {objs : List AO} {v : V} {l : List Int} (h : ofIntsR .u8 objs v = some l) : ∃ P : Nat → V, demote v = v ∧ lenV Try.prog 25 v = some (.int .i64 l.length) ∧ (∀ k i, 0 ≤ i → i < (l.length : Int) → indexV Try.prog 25 v (.int k i) = some (P i.toNat)) ∧ ∀ i, i < l.length → loadV Try.prog 5 objs (P i) = some (.int .u8 (nth l i)) := by
  rcases ofIntsR_inv h with h | ⟨id, ver, off, cs, rfl, hg, hrow, -⟩
  · obtain ⟨vd, vn, vi, -⟩ := bs h
    refine ⟨fun i => .fptr (ints .u8 l) i, vd, vn, vi, fun i hi => ?_⟩
    have e := of_get (ints_nth (k := .u8) hi)
    simp [hi, e]
  · refine ⟨fun i => .ptr id ver (off + i), rfl, by simp, fun k i h0 h1 => by simp [h0, h1], fun i hi => ?_⟩
    have e := row_get hrow hi
    simp [hg, e]
noncomputable def k_SameR : Ab.Spec := con2 some some fun v w objs => match ofIntsR .u8 objs v, ofIntsR .u8 objs w with | some a, some b => bnd a.length 140737488355328 (some (.bool (decide (a = b)), none)) | _, _ => none
noncomputable def T_SameR : CallF := withF T_Intact 22 k_SameR
theorem T_SameR_ok : CallOk Try.prog T_SameR := con_of (A := annOf [] [] [] false []) fit T_Intact_ok (fn := Try.f22) (by kernel_rfl) (by kernel_rfl) (by
  intro args objs r h0
  obtain ⟨v, w, _, _, rfl, hv, hw, hR⟩ := con2_inv h0
  cases hv; cases hw
  split at hR
  case h_2 => cases hR
  rename_i a b ha hb
  obtain ⟨hl, hR⟩ := bnd_inv hR
  cases hR
  obtain ⟨pa, vd, vn, vi, vl⟩ := bsR ha
  obtain ⟨pb, wd, wn, wi, wl⟩ := bsR hb
  refine .go _ rfl rfl ?_
  by_cases hn : a.length = b.length
  · simp [vn, wn, hn]
    refine .up a.length (fun i s => s.env 0 = v ∧ s.env 1 = w ∧ s.env 5 = .int .i64 i ∧ s.toks = [] ∧ s.objs = objs ∧ s.low = objs.length ∧ ∀ j, j < i → nth a j = nth b j) (by simp) ?_
    rintro i s hi ⟨h0, h1, h5, ht, ho, hlo, hj⟩
    rcases Nat.lt_or_ge i a.length with h | h
    · by_cases he : nth a i = nth b i
      · have hf : (nth a i != nth b i) = false := by simpa using he
        have hs : ∀ j, j < i + 1 → nth a j = nth b j := fun j hj2 => by
          rcases Nat.lt_or_ge j i with h2 | h2
          · exact hj j h2
          · obtain rfl : j = i := by omega
            exact he
        simp (disch := omega) [-loadV, h0, h1, h5, ht, ho, hlo, vn, wn, vi, wi, vl, wl, h, hf, wrap_small]
        exact hs
      · have hf : (nth a i != nth b i) = true := by simpa using he
        have hne : a ≠ b := fun q => he (by rw [q])
        simp (disch := omega) [-loadV, h0, h1, h5, ht, ho, hlo, vn, wn, vi, wi, vl, wl, h, hf, hne]
    · have hab : a = b := ext_nth hn fun j h2 => hj j (by omega)
      have hnl : ¬ i < b.length := by omega
      simp [h0, h1, h5, ht, ho, hlo, vn, wn, hab, hnl]
  · have hf : ((a.length : Int) != (b.length : Int)) = true := by simp only [bne_iff_ne, ne_eq]; omega
    have hne : a ≠ b := fun q => hn (by rw [q])
    simp [vn, wn, hf, hne])
def spF (c : Int) : Int := Go.bits .xor .u8 c 90
noncomputable def k_TurnedR : Ab.Spec := con2 some some fun v w objs => match ofIntsR .u8 objs v, ofIntsR .u8 objs w with | some a, some b => bnd a.length 140737488355328 (some (.bool (decide (a = b.map spF)), none)) | _, _ => none
noncomputable def T_TurnedR : CallF := withF T_SameR 32 k_TurnedR
theorem T_TurnedR_ok : CallOk Try.prog T_TurnedR := con_of (A := annOf [] [] [] false []) fit T_SameR_ok (fn := Try.f32) (by kernel_rfl) (by kernel_rfl) (by
  intro args objs r h0
  obtain ⟨v, w, _, _, rfl, hv, hw, hR⟩ := con2_inv h0
  cases hv; cases hw
  split at hR
  case h_2 => cases hR
  rename_i a b ha hb
  obtain ⟨hl, hR⟩ := bnd_inv hR
  cases hR
  obtain ⟨pa, vd, vn, vi, vl⟩ := bsR ha
  obtain ⟨pb, wd, wn, wi, wl⟩ := bsR hb
  refine .go _ rfl rfl ?_
  by_cases hn : a.length = b.length
  · have hml : a.length = (b.map spF).length := by simp [hn]
    have hnm : ∀ j, j < b.length → nth (b.map spF) j = spF (nth b j) := fun j hj => by
      unfold nth; rw [List.getD_eq_getElem?_getD, List.getD_eq_getElem?_getD, List.getElem?_map, List.getElem?_eq_getElem hj]; rfl
    simp [vn, wn, hn]
    refine .up b.length (fun i s => s.env 0 = v ∧ s.env 1 = w ∧ s.env 5 = .int .i64 i ∧ s.toks = [] ∧ s.objs = objs ∧ s.low = objs.length ∧ ∀ j, j < i → nth a j = spF (nth b j)) (by simp) ?_
    rintro i s hi ⟨h0, h1, h5, ht, ho, hlo, hj⟩
    rcases Nat.lt_or_ge i b.length with h | h
    · by_cases he : nth a i = spF (nth b i)
      · have hf : (nth a i != Go.bits .xor .u8 (nth b i) 90) = false := by simpa [spF] using he
        have hs : ∀ j, j < i + 1 → nth a j = spF (nth b j) := fun j hj2 => by
          rcases Nat.lt_or_ge j i with h2 | h2
          · exact hj j h2
          · obtain rfl : j = i := by omega
            exact he
        simp (disch := omega) [-loadV, h0, h1, h5, ht, ho, hlo, vn, wn, vi, wi, vl, wl, h, hf, wrap_small]
        exact hs
      · have hf : (nth a i != Go.bits .xor .u8 (nth b i) 90) = true := by simpa [spF] using he
        have hne : a ≠ b.map spF := fun q => he (by rw [q, hnm i h])
        simp (disch := omega) [-loadV, h0, h1, h5, ht, ho, hlo, vn, wn, vi, wi, vl, wl, h, hf, hne]
    · have hab : a = b.map spF := ext_nth hml fun j h2 => by rw [hj j (by omega), hnm j (by omega)]
      have hnl : ¬ i < b.length := by omega
      simp [h0, h1, h5, ht, ho, hlo, vn, wn, ← hab, hnl]
  · have hf : ((a.length : Int) != (b.length : Int)) = true := by simp only [bne_iff_ne, ne_eq]; omega
    have hne : a ≠ b.map spF := fun q => hn (by rw [q]; simp)
    simp [vn, wn, hf, hne])
noncomputable def k_Spoil : Ab.Spec := con1 some fun v objs => match v with
  | .nils => some (.tup [], none)
  | .ref id ver 0 n 1 => match Ab.getObj objs id ver with
    | some cs => (ofCellsI .u8 cs).bind fun a => bnd a.length 140737488355000 (if n = a.length then some (.tup [], if n = 0 then none else some (objs.set id (.cells (ints .u8 (a.map spF)) ver), id)) else none)
    | _ => none
  | _ => none
noncomputable def T_Spoil : CallF := withF T_TurnedR 31 k_Spoil
theorem T_Spoil_ok : CallOk Try.prog T_Spoil := con_of (A := annOf [] [] [] false []) fit T_TurnedR_ok (fn := Try.f31) (by kernel_rfl) (by kernel_rfl) (by
  intro args objs r h0
  obtain ⟨v, _, rfl, hv, hR⟩ := con1_inv h0
  cases hv
  refine .go _ rfl rfl ?_
  split at hR
  · cases hR
    simp
    refine .up 0 (fun i s => s.env 0 = .nils ∧ s.env 2 = .int .i64 0 ∧ s.toks = [] ∧ s.objs = objs ∧ s.low = objs.length) (by simp) ?_
    rintro i s hi ⟨g0, g2, ht, ho, hlo⟩
    simp (disch := omega) [g0, g2, ht, ho, hlo]
  · rename_i id ver n
    split at hR
    case h_2 => cases hR
    rename_i cs hg
    obtain ⟨a, ecs, hR2⟩ := Option.bind_eq_some_iff.1 hR
    obtain rfl := ofCellsI_inv ecs
    clear hR
    obtain ⟨hl, hR⟩ := bnd_inv hR2
    split at hR
    case isFalse => cases hR
    rename_i hn
    subst hn
    cases hR
    have hid := getObj_lt hg
    simp -implicitDefEqProofs (disch := omega)
    refine .up a.length (fun i s => s.env 0 = .ref id ver 0 a.length 1 ∧ s.env 2 = .int .i64 i ∧ s.toks = [] ∧ s.objs = objs.set id (.cells (ints .u8 (mapP spF a i)) ver) ∧ s.low = if i = 0 then objs.length else id) (by simp [mapP]; exact (set_self hg).symm) ?_
    rintro i s hi ⟨g0, g2, ht, ho, hlo⟩
    have hx := mapP_len spF a i
    have hgs := getObj_set (cs := ints .u8 (mapP spF a i)) (v := ver) hid
    rcases Nat.lt_or_ge i a.length with h | h
    · have e0 := ints_nth (k := .u8) (l := mapP spF a i) (i := i) (by omega)
      have e := of_get e0
      have es := ints_set1 (k := .u8) (l := mapP spF a i) (i := i) (c := Go.bits .xor .u8 (nth (mapP spF a i) i) 90) (by omega)
      have hw : IntKind.i64.wrap ((i : Int) + 1) = (i : Int) + 1 := wrap_small (by omega) (by omega)
      have hs1 : i + 1 ≤ a.length := h
      have ex : (mapP spF a i).set i (Go.bits .xor .u8 (nth (mapP spF a i) i) 90) = mapP spF a (i + 1) := rfl
      rw [ex] at es
      have hlow : (if id < s.low then id else s.low) = id := by
        rw [hlo]
        by_cases z : i = 0
        · rw [if_pos z, if_pos hid]
        · rw [if_neg z, if_neg (by omega)]
      simp -implicitDefEqProofs (disch := omega) [g0, g2, ht, ho, hgs, e0, e, es, hx, hw, hlow, h, hs1]
    · obtain rfl : i = a.length := by omega
      have hm := mapP_all spF a
      rw [hm] at ho
      have htk : (objs.set id (AO.cells (ints .u8 (a.map spF)) ver)).take objs.length = objs.set id (AO.cells (ints .u8 (a.map spF)) ver) := List.take_of_length_le (by simp)
      by_cases z : a.length = 0
      · have hlo' : s.low = objs.length := by rw [hlo, if_pos z]
        simp -implicitDefEqProofs (disch := omega) [g0, g2, ht, ho, hlo', htk, z]
        exact List.eq_nil_of_length_eq_zero z
      · have hlo' : s.low = id := by rw [hlo, if_neg z]
        simp -implicitDefEqProofs (disch := omega) [g0, g2, ht, ho, hlo', htk, hid, z]
        exact fun q => z (by rw [q]; rfl)
  · cases hR)

end Go.Proofs.Ytjjldepikokogaa.B
