import Derived.Test.YtodpdfnnnkcnnaaRn3
set_option linter.unusedSimpArgs false
set_option linter.unusedVariables false
set_option linter.unusedSectionVars false
set_option maxRecDepth 20000
set_option maxHeartbeats 1000000
namespace Go.Proofs.Ytodpdfnnnkcnnaa.B
open Go Go.Ab
/-! slices of bytes, told or as objects -/
theorem bsR {objs : List AO} {v : V} {l : List Int} (h : ofIntsR .u8 objs v = some l) : ∃ P : Nat → V, demote v = v ∧ lenV Try.prog 34 v = some (.int .i64 l.length) ∧ (∀ k i, 0 ≤ i → i < (l.length : Int) → indexV Try.prog 34 v (.int k i) = some (P i.toNat)) ∧ ∀ i, i < l.length → loadV Try.prog 5 objs (P i) = some (.int .u8 (nth l i)) := by
  rcases ofIntsR_inv h with h | ⟨id, ver, rfl, hg⟩
  · obtain ⟨vd, vn, vi, -⟩ := bs h
    refine ⟨fun i => .fptr (ints .u8 l) i, vd, vn, vi, fun i hi => ?_⟩
    have e := of_get (ints_nth (k := .u8) hi)
    simp [hi, e]
  · refine ⟨fun i => .ptr id ver i, rfl, by simp, fun k i h0 h1 => by simp [h0, h1], fun i hi => ?_⟩
    have e := of_get (ints_nth (k := .u8) hi)
    simp [hg, hi, e]
noncomputable def k_SameR : Ab.Spec := con2 some some fun v w objs => match ofIntsR .u8 objs v, ofIntsR .u8 objs w with | some a, some b => bnd a.length 140737488355328 (some (.bool (decide (a = b)), none)) | _, _ => none
noncomputable def T_SameR : CallF := withF T_RefEncode 26 k_SameR
theorem T_SameR_ok : CallOk Try.prog T_SameR := con_of (A := annOf [] [] [] false []) fit T_RefEncode_ok (fn := Try.f26) (by kernel_rfl) (by kernel_rfl) (by
  intro args objs r h0
  obtain ⟨v, w, _, _, rfl, hv, hw, hR⟩ := con2_inv h0
  cases hv; cases hw
  split at hR
  case h_2 => cases hR
  rename_i a b ha hb
  obtain ⟨hl, hR⟩ := bnd_inv hR
  cases hR
  obtain ⟨pa, vd, vn, vi, vl⟩ := bsR ha
  obtain ⟨pb, wd, wn, wi, wl⟩ := bsR hb
  refine .go _ rfl rfl ?_
  by_cases hn : a.length = b.length
  · simp [vn, wn, hn]
    refine .up a.length (fun i s => s.env 0 = v ∧ s.env 1 = w ∧ s.env 5 = .int .i64 i ∧ s.toks = [] ∧ s.objs = objs ∧ s.low = objs.length ∧ ∀ j, j < i → nth a j = nth b j) (by simp) ?_
    rintro i s hi ⟨h0, h1, h5, ht, ho, hlo, hj⟩
    rcases Nat.lt_or_ge i a.length with h | h
    · by_cases he : nth a i = nth b i
      · have hf : (nth a i != nth b i) = false := by simpa using he
        have hs : ∀ j, j < i + 1 → nth a j = nth b j := fun j hj2 => by
          rcases Nat.lt_or_ge j i with h2 | h2
          · exact hj j h2
          · obtain rfl : j = i := by omega
            exact he
        simp (disch := omega) [-loadV, h0, h1, h5, ht, ho, hlo, vn, wn, vi, wi, vl, wl, h, hf, wrap_small]
        exact hs
      · have hf : (nth a i != nth b i) = true := by simpa using he
        have hne : a ≠ b := fun q => he (by rw [q])
        simp (disch := omega) [-loadV, h0, h1, h5, ht, ho, hlo, vn, wn, vi, wi, vl, wl, h, hf, hne]
    · have hab : a = b := ext_nth hn fun j h2 => hj j (by omega)
      have hnl : ¬ i < b.length := by omega
      simp [h0, h1, h5, ht, ho, hlo, vn, wn, hab, hnl]
  · have hf : ((a.length : Int) != (b.length : Int)) = true := by simp only [bne_iff_ne, ne_eq]; omega
    have hne : a ≠ b := fun q => hn (by rw [q])
    simp [vn, wn, hf, hne])
def spF (c : Int) : Int := Go.bits .xor .u8 c 90
noncomputable def k_TurnedR : Ab.Spec := con2 some some fun v w objs => match ofIntsR .u8 objs v, ofIntsR .u8 objs w with | some a, some b => bnd a.length 140737488355328 (some (.bool (decide (a = b.map spF)), none)) | _, _ => none
noncomputable def T_TurnedR : CallF := withF T_SameR 32 k_TurnedR
theorem T_TurnedR_ok : CallOk Try.prog T_TurnedR := con_of (A := annOf [] [] [] false []) fit T_SameR_ok (fn := Try.f32) (by kernel_rfl) (by kernel_rfl) (by
  intro args objs r h0
  obtain ⟨v, w, _, _, rfl, hv, hw, hR⟩ := con2_inv h0
  cases hv; cases hw
  split at hR
  case h_2 => cases hR
  rename_i a b ha hb
  obtain ⟨hl, hR⟩ := bnd_inv hR
  cases hR
  obtain ⟨pa, vd, vn, vi, vl⟩ := bsR ha
  obtain ⟨pb, wd, wn, wi, wl⟩ := bsR hb
  refine .go _ rfl rfl ?_
  by_cases hn : a.length = b.length
  · have hml : a.length = (b.map spF).length := by simp [hn]
    have hnm : ∀ j, j < b.length → nth (b.map spF) j = spF (nth b j) := fun j hj => by
      unfold nth; rw [List.getD_eq_getElem?_getD, List.getD_eq_getElem?_getD, List.getElem?_map, List.getElem?_eq_getElem hj]; rfl
    simp [vn, wn, hn]
    refine .up b.length (fun i s => s.env 0 = v ∧ s.env 1 = w ∧ s.env 5 = .int .i64 i ∧ s.toks = [] ∧ s.objs = objs ∧ s.low = objs.length ∧ ∀ j, j < i → nth a j = spF (nth b j)) (by simp) ?_
    rintro i s hi ⟨h0, h1, h5, ht, ho, hlo, hj⟩
    rcases Nat.lt_or_ge i b.length with h | h
    · by_cases he : nth a i = spF (nth b i)
      · have hf : (nth a i != Go.bits .xor .u8 (nth b i) 90) = false := by simpa [spF] using he
        have hs : ∀ j, j < i + 1 → nth a j = spF (nth b j) := fun j hj2 => by
          rcases Nat.lt_or_ge j i with h2 | h2
          · exact hj j h2
          · obtain rfl : j = i := by omega
            exact he
        simp (disch := omega) [-loadV, h0, h1, h5, ht, ho, hlo, vn, wn, vi, wi, vl, wl, h, hf, wrap_small]
        exact hs
      · have hf : (nth a i != Go.bits .xor .u8 (nth b i) 90) = true := by simpa [spF] using he
        have hne : a ≠ b.map spF := fun q => he (by rw [q, hnm i h])
        simp (disch := omega) [-loadV, h0, h1, h5, ht, ho, hlo, vn, wn, vi, wi, vl, wl, h, hf, hne]
    · have hab : a = b.map spF := ext_nth hml fun j h2 => by rw [hj j (by omega), hnm j (by omega)]
      have hnl : ¬ i < b.length := by omega
      simp [h0, h1, h5, ht, ho, hlo, vn, wn, ← hab, hnl]
  · have hf : ((a.length : Int) != (b.length : Int)) = true := by simp only [bne_iff_ne, ne_eq]; omega
    have hne : a ≠ b.map spF := fun q => hn (by rw [q]; simp)
    simp [vn, wn, hf, hne])
noncomputable def k_Spoil : Ab.Spec := con1 some fun v objs => match v with
  | .nils => some (.tup [], none)
  | .ref id ver 0 n 1 => match Ab.getObj objs id ver with
    | some cs => (ofCellsI .u8 cs).bind fun a => bnd a.length 140737488355000 (if n = a.length then some (.tup [], if n = 0 then none else some (objs.set id (.cells (ints .u8 (a.map spF)) ver), id)) else none)
    | _ => none
  | _ => none
noncomputable def T_Spoil : CallF := withF T_TurnedR 31 k_Spoil
theorem T_Spoil_ok : CallOk Try.prog T_Spoil := con_of (A := annOf [] [] [] false []) fit T_TurnedR_ok (fn := Try.f31) (by kernel_rfl) (by kernel_rfl) (by
  intro args objs r h0
  obtain ⟨v, _, rfl, hv, hR⟩ := con1_inv h0
  cases hv
  refine .go _ rfl rfl ?_
  split at hR
  · cases hR
    simp
    refine .up 0 (fun i s => s.env 0 = .nils ∧ s.env 2 = .int .i64 0 ∧ s.toks = [] ∧ s.objs = objs ∧ s.low = objs.length) (by simp) ?_
    rintro i s hi ⟨g0, g2, ht, ho, hlo⟩
    simp (disch := omega) [g0, g2, ht, ho, hlo]
  · rename_i id ver n
    split at hR
    case h_2 => cases hR
    rename_i cs hg
    obtain ⟨a, ecs, hR2⟩ := Option.bind_eq_some_iff.1 hR
    obtain rfl := ofCellsI_inv ecs
    clear hR
    obtain ⟨hl, hR⟩ := bnd_inv hR2
    split at hR
    case isFalse => cases hR
    rename_i hn
    subst hn
    cases hR
    have hid := getObj_lt hg
    simp -implicitDefEqProofs (disch := omega)
    refine .up a.length (fun i s => s.env 0 = .ref id ver 0 a.length 1 ∧ s.env 2 = .int .i64 i ∧ s.toks = [] ∧ s.objs = objs.set id (.cells (ints .u8 (mapP spF a i)) ver) ∧ s.low = if i = 0 then objs.length else id) (by simp [mapP]; exact (set_self hg).symm) ?_
    rintro i s hi ⟨g0, g2, ht, ho, hlo⟩
    have hx := mapP_len spF a i
    have hgs := getObj_set (cs := ints .u8 (mapP spF a i)) (v := ver) hid
    rcases Nat.lt_or_ge i a.length with h | h
    · have e0 := ints_nth (k := .u8) (l := mapP spF a i) (i := i) (by omega)
      have e := of_get e0
      have es := ints_set1 (k := .u8) (l := mapP spF a i) (i := i) (c := Go.bits .xor .u8 (nth (mapP spF a i) i) 90) (by omega)
      have hw : IntKind.i64.wrap ((i : Int) + 1) = (i : Int) + 1 := wrap_small (by omega) (by omega)
      have hs1 : i + 1 ≤ a.length := h
      have ex : (mapP spF a i).set i (Go.bits .xor .u8 (nth (mapP spF a i) i) 90) = mapP spF a (i + 1) := rfl
      rw [ex] at es
      have hlow : (if id < s.low then id else s.low) = id := by
        rw [hlo]
        by_cases z : i = 0
        · rw [if_pos z, if_pos hid]
        · rw [if_neg z, if_neg (by omega)]
      simp -implicitDefEqProofs (disch := omega) [g0, g2, ht, ho, hgs, e0, e, es, hx, hw, hlow, h, hs1]
    · obtain rfl : i = a.length := by omega
      have hm := mapP_all spF a
      rw [hm] at ho
      have htk : (objs.set id (AO.cells (ints .u8 (a.map spF)) ver)).take objs.length = objs.set id (AO.cells (ints .u8 (a.map spF)) ver) := List.take_of_length_le (by simp)
      by_cases z : a.length = 0
      · have hlo' : s.low = objs.length := by rw [hlo, if_pos z]
        simp -implicitDefEqProofs (disch := omega) [g0, g2, ht, ho, hlo', htk, z]
        exact List.eq_nil_of_length_eq_zero z
      · have hlo' : s.low = id := by rw [hlo, if_neg z]
        simp -implicitDefEqProofs (disch := omega) [g0, g2, ht, ho, hlo', htk, hid, z]
        exact fun q => z (by rw [q]; rfl)
  · cases hR)

noncomputable def k_Apart : Ab.Spec := con3 some some some fun v w u objs => match v with
  | .nils => match ofIntsR .u8 objs w, ofIntsR .u8 objs u with | some b, some c => if b = [] ∧ c = [] then some (.bool true, none) else none | _, _ => none
  | .ref id ver 0 n 1 => match Ab.getObj objs id ver with
    | some cs => (ofCellsI .u8 cs).bind fun a => bnd a.length 140737488354000 (if n = a.length ∧ ofIntsR .u8 objs w = some a ∧ ofIntsR .u8 objs u = some a ∧ ofIntsR .u8 (objs.set id (.cells (ints .u8 (a.map spF)) ver)) w = some a ∧ ofIntsR .u8 (objs.set id (.cells (ints .u8 (a.map spF)) ver)) u = some a ∧ (n = 0 ∨ clean objs.length (objs.set id (.cells (ints .u8 (a.map spF)) ver)) = true)
      then some (.bool true, if n = 0 then none else some (objs.set id (.cells (ints .u8 (a.map spF)) ver), id)) else none)
    | _ => none
  | _ => none
noncomputable def T_Apart : CallF := withF T_Spoil 15 k_Apart
theorem T_Apart_ok : CallOk Try.prog T_Apart := con_ofW (A := annOf [] [] [] false [31]) fit T_Spoil_ok (fn := Try.f15) (by kernel_rfl) (by kernel_rfl) (by
  intro args objs r h0
  have c_SameR : ∀ a o, T_Spoil 26 a o = k_SameR a o := fun _ _ => rfl
  have c_TurnedR : ∀ a o, T_Spoil 32 a o = k_TurnedR a o := fun _ _ => rfl
  have c_Spoil : ∀ a o, T_Spoil 31 a o = k_Spoil a o := fun _ _ => rfl
  obtain ⟨v, w, u, _, _, _, rfl, hv, hw, hu, hR⟩ := con3_inv h0
  cases hv; cases hw; cases hu
  refine .go _ rfl rfl ?_
  split at hR
  · split at hR
    case h_2 => cases hR
    rename_i b c hb hc
    split at hR
    case isFalse => cases hR
    rename_i e
    obtain ⟨rfl, rfl⟩ := e
    cases hR
    have hn : ofIntsR .u8 objs V.nils = some [] := rfl
    obtain ⟨pb, wd, wn, -⟩ := bsR hb
    obtain ⟨pc, ud, un, -⟩ := bsR hc
    refine .thenT ?_
    simp
    refine .thenT ?_
    simp -implicitDefEqProofs (disch := omega) [wd, ud, c_SameR, k_SameR, hn, hb, hc]
    refine .thenT ?_
    simp -implicitDefEqProofs (disch := omega) [c_Spoil, k_Spoil]
    refine .thenT ?_
    simp -implicitDefEqProofs (disch := omega)
    refine .then (.thenT ?_)
    simp -implicitDefEqProofs (disch := omega)
    refine .cut (grow_block (N := 70) (n := 0) (X := fun _ => True) (LB := [7, 30, 29, 28, 27, 26]) (by omega) (by omega) (.inl ⟨rfl, rfl⟩) rfl (fun _ _ _ _ _ _ => trivial) (fun _ _ _ _ => trivial) (body_byte u34 (by kernel_rfl) v5 u3 u5 (by omega) (by decide)) (by simp) (by decide) (by decide)) ?_
    show ToW _ _ _ _ _ _ _ _
    refine .of ?_
    simp -implicitDefEqProofs (disch := omega) [grownEnv, wd, ud, un, c_TurnedR, k_TurnedR, c_SameR, k_SameR, hn, hb, hc, wrap_small]
  · rename_i id ver n
    split at hR
    case h_2 => cases hR
    rename_i cs hg
    obtain ⟨a, ecs, hR2⟩ := Option.bind_eq_some_iff.1 hR
    obtain rfl := ofCellsI_inv ecs
    clear hR
    obtain ⟨hl, hR⟩ := bnd_inv hR2
    split at hR
    case isFalse => cases hR
    rename_i e
    obtain ⟨rfl, hb, hc, hb2, hc2, hcl⟩ := e
    have hid := getObj_lt hg
    have hn := ofIntsR_ref hg (n := a.length) rfl
    obtain ⟨pb, wd, wn, -⟩ := bsR hb
    obtain ⟨pc, ud, un, -⟩ := bsR hc
    have hl2 : a.length < 140737488355000 := by omega
    refine .thenT ?_
    simp
    refine .thenT ?_
    simp -implicitDefEqProofs (disch := omega) [wd, ud, c_SameR, k_SameR, hn, hb, hc]
    refine .thenT ?_
    by_cases hz : a.length = 0
    · rw [if_pos hz] at hR
      cases hR
      obtain rfl := List.eq_nil_of_length_eq_zero hz
      simp -implicitDefEqProofs (disch := omega) [c_Spoil, k_Spoil, hg, ofCellsI_ints]
      refine .thenT ?_
      simp -implicitDefEqProofs (disch := omega)
      refine .then (.thenT ?_)
      simp -implicitDefEqProofs (disch := omega)
      refine .cut (grow_block (N := 70) (n := 0) (X := fun _ => True) (LB := [7, 30, 29, 28, 27, 26]) (by omega) (by omega) (.inr ⟨id, ver, _, rfl, hg, by simp⟩) rfl (fun _ _ _ _ _ _ => trivial) (fun _ _ _ _ => trivial) (body_byte u34 (by kernel_rfl) v5 u3 u5 (by omega) (by decide)) (by simp) (by decide) (by decide)) ?_
      show ToW _ _ _ _ _ _ _ _
      refine .of ?_
      simp at hn
      simp -implicitDefEqProofs (disch := omega) [grownEnv, wd, ud, un, c_TurnedR, k_TurnedR, c_SameR, k_SameR, hn, hb, hc, wrap_small]
    · rw [if_neg hz] at hR
      cases hR
      have hcl := hcl.resolve_left hz
      have hgs := getObj_set (cs := ints .u8 (a.map spF)) (v := ver) hid
      have hn2 := ofIntsR_ref hgs (n := a.length) (by simp)
      simp -implicitDefEqProofs (disch := omega) [c_Spoil, k_Spoil, hg, ofCellsI_ints, hl2, hz, hcl, hid]
      refine .thenT ?_
      simp -implicitDefEqProofs (disch := omega)
      refine .then (.thenT ?_)
      simp -implicitDefEqProofs (disch := omega)
      refine .cut (grow_block (N := 70) (n := a.length) (X := fun _ => True) (LB := [7, 30, 29, 28, 27, 26]) (by omega) (by omega) (.inr ⟨id, ver, _, rfl, hgs, by simp⟩) rfl (fun _ _ _ _ _ _ => trivial) (fun _ _ _ _ => trivial) (body_byte u34 (by kernel_rfl) v5 u3 u5 (by omega) (by decide)) (by simp) (by decide) (by decide)) ?_
      show ToW _ _ _ _ _ _ _ _
      refine .of ?_
      have htk : (objs.set id (AO.cells (ints .u8 (a.map spF)) ver)).take objs.length = objs.set id (AO.cells (ints .u8 (a.map spF)) ver) := List.take_of_length_le (by simp)
      simp -implicitDefEqProofs (disch := omega) [grownEnv, wd, ud, un, c_TurnedR, k_TurnedR, c_SameR, k_SameR, hn2, hb2, hc2, hl, htk, hid, wrap_small]
  · cases hR)
theorem apart_two {a : List Int} {n : Nat} {u : V} (hn : n = a.length) (h0 : 0 < n) (hl : n < 140737488354000) (hu : ofInts .u8 u = some a) :
    k_Apart [.ref 0 0 0 n 1, .ref 1 0 0 n 1, u] [.cells (ints .u8 a) 0, .cells (ints .u8 a) 0] = some (.bool true, some ([.cells (ints .u8 (a.map spF)) 0, .cells (ints .u8 a) 0], 0)) := by
  subst hn
  have h1 : ofIntsR .u8 [.cells (ints .u8 a) 0, .cells (ints .u8 a) 0] (.ref 1 0 0 a.length 1) = some a := ofIntsR_ref rfl rfl
  have h2 : ofIntsR .u8 [.cells (ints .u8 (a.map spF)) 0, .cells (ints .u8 a) 0] (.ref 1 0 0 a.length 1) = some a := ofIntsR_ref rfl rfl
  have h3 : clean 2 [.cells (ints .u8 (a.map spF)) 0, .cells (ints .u8 a) 0] = true := by simp [clean]
  have hz : ¬ a.length = 0 := by omega
  have hz2 : ¬ a = [] := fun q => hz (by rw [q]; rfl)
  simp [k_Apart, con3, Ab.getObj, ofCellsI_ints, hl, h1, h2, h3, ofIntsR_of hu, hz2, bnd_pos]
theorem apart_nil {u : V} (hu : ofInts .u8 u = some []) : k_Apart [.nils, .nils, u] [] = some (.bool true, none) := by
  have h1 : ofIntsR .u8 [] V.nils = some [] := rfl
  simp [k_Apart, con3, h1, ofIntsR_of hu]
theorem apart_one {a : List Int} {cs : List V} {ver n : Nat} {u : V} (hcs : norefs 3 cs = true) (hn : n = a.length) (h0 : 0 < n) (hl : n < 140737488354000) (hu : ofInts .u8 u = some a) :
    k_Apart [.ref 1 0 0 n 1, .ref 2 0 0 n 1, u] [.cells cs ver, .cells (ints .u8 a) 0, .cells (ints .u8 a) 0] = some (.bool true, some ([.cells cs ver, .cells (ints .u8 (a.map spF)) 0, .cells (ints .u8 a) 0], 1)) := by
  subst hn
  have h1 : ofIntsR .u8 [.cells cs ver, .cells (ints .u8 a) 0, .cells (ints .u8 a) 0] (.ref 2 0 0 a.length 1) = some a := ofIntsR_ref rfl rfl
  have h2 : ofIntsR .u8 [.cells cs ver, .cells (ints .u8 (a.map spF)) 0, .cells (ints .u8 a) 0] (.ref 2 0 0 a.length 1) = some a := ofIntsR_ref rfl rfl
  have h3 : clean 3 [.cells cs ver, .cells (ints .u8 (a.map spF)) 0, .cells (ints .u8 a) 0] = true := by simp [clean, hcs]
  have hz : ¬ a.length = 0 := by omega
  have hz2 : ¬ a = [] := fun q => hz (by rw [q]; rfl)
  simp [k_Apart, con3, Ab.getObj, ofCellsI_ints, hl, h1, h2, h3, ofIntsR_of hu, hz2, bnd_pos]

end Go.Proofs.Ytodpdfnnnkcnnaa.B
