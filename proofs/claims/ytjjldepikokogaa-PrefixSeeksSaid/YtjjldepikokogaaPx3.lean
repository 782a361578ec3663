import Derived.Test.YtjjldepikokogaaPx2
set_option linter.unusedSimpArgs false
set_option linter.unusedVariables false
set_option linter.unusedSectionVars false
set_option maxRecDepth 20000
set_option maxHeartbeats 1000000
namespace Go.Proofs.Ytjjldepikokogaa.B
open Go Go.Ab
noncomputable def k_Apart : Ab.Spec := con3 some some some fun v w u objs => match v with
  | .nils => match ofIntsR .u8 objs w, ofIntsR .u8 objs u with | some b, some c => if b = [] ∧ c = [] then some (.bool true, none) else none | _, _ => none
  | .ref id ver 0 n 1 => match Ab.getObj objs id ver with
    | some cs => (ofCellsI .u8 cs).bind fun a => bnd a.length 140737488354000 (if n = a.length ∧ ofIntsR .u8 objs w = some a ∧ ofIntsR .u8 objs u = some a ∧ ofIntsR .u8 (objs.set id (.cells (ints .u8 (a.map spF)) ver)) w = some a ∧ ofIntsR .u8 (objs.set id (.cells (ints .u8 (a.map spF)) ver)) u = some a ∧ (n = 0 ∨ clean objs.length (objs.set id (.cells (ints .u8 (a.map spF)) ver)) = true)
      then some (.bool true, if n = 0 then none else some (objs.set id (.cells (ints .u8 (a.map spF)) ver), id)) else none)
    | _ => none
  | _ => none
noncomputable def T_Apart : CallF := withF T_Spoil 11 k_Apart
theorem T_Apart_ok : CallOk Try.prog T_Apart := con_ofW (A := annOf [] [] [] false [31]) fit T_Spoil_ok (fn := Try.f11) (by kernel_rfl) (by kernel_rfl) (by
  intro args objs r h0
  have c_SameR : ∀ a o, T_Spoil 22 a o = k_SameR a o := fun _ _ => rfl
  have c_TurnedR : ∀ a o, T_Spoil 32 a o = k_TurnedR a o := fun _ _ => rfl
  have c_Spoil : ∀ a o, T_Spoil 31 a o = k_Spoil a o := fun _ _ => rfl
  obtain ⟨v, w, u, _, _, _, rfl, hv, hw, hu, hR⟩ := con3_inv h0
  cases hv; cases hw; cases hu
  refine .go _ rfl rfl ?_
  split at hR
  · split at hR
    case h_2 => cases hR
    rename_i b c hb hc
    split at hR
    case isFalse => cases hR
    rename_i e
    obtain ⟨rfl, rfl⟩ := e
    cases hR
    have hn : ofIntsR .u8 objs V.nils = some [] := rfl
    obtain ⟨pb, wd, wn, -⟩ := bsR hb
    obtain ⟨pc, ud, un, -⟩ := bsR hc
    refine .thenT ?_
    simp
    refine .thenT ?_
    simp -implicitDefEqProofs (disch := omega) [wd, ud, c_SameR, k_SameR, hn, hb, hc]
    refine .thenT ?_
    simp -implicitDefEqProofs (disch := omega) [c_Spoil, k_Spoil]
    refine .thenT ?_
    simp -implicitDefEqProofs (disch := omega)
    refine .then (.thenT ?_)
    simp -implicitDefEqProofs (disch := omega)
    refine .cut (grow_block (N := 70) (n := 0) (X := fun _ => True) (LB := [7, 30, 29, 28, 27, 26]) (by omega) (by omega) (.inl ⟨rfl, rfl⟩) rfl (fun _ _ _ _ _ _ => trivial) (fun _ _ _ _ => trivial) (body_byte u25 (by kernel_rfl) v5 u3 u5 (by omega) (by decide)) (by simp) (by decide) (by decide)) ?_
    show ToW _ _ _ _ _ _ _ _
    refine .of ?_
    simp -implicitDefEqProofs (disch := omega) [grownEnv, wd, ud, un, c_TurnedR, k_TurnedR, c_SameR, k_SameR, hn, hb, hc, wrap_small]
  · rename_i id ver n
    split at hR
    case h_2 => cases hR
    rename_i cs hg
    obtain ⟨a, ecs, hR2⟩ := Option.bind_eq_some_iff.1 hR
    obtain rfl := ofCellsI_inv ecs
    clear hR
    obtain ⟨hl, hR⟩ := bnd_inv hR2
    split at hR
    case isFalse => cases hR
    rename_i e
    obtain ⟨rfl, hb, hc, hb2, hc2, hcl⟩ := e
    have hid := getObj_lt hg
    have hn := ofIntsR_ref hg (n := a.length) rfl
    obtain ⟨pb, wd, wn, -⟩ := bsR hb
    obtain ⟨pc, ud, un, -⟩ := bsR hc
    have hl2 : a.length < 140737488355000 := by omega
    refine .thenT ?_
    simp
    refine .thenT ?_
    simp -implicitDefEqProofs (disch := omega) [wd, ud, c_SameR, k_SameR, hn, hb, hc]
    refine .thenT ?_
    by_cases hz : a.length = 0
    · rw [if_pos hz] at hR
      cases hR
      obtain rfl := List.eq_nil_of_length_eq_zero hz
      simp -implicitDefEqProofs (disch := omega) [c_Spoil, k_Spoil, hg, ofCellsI_ints]
      refine .thenT ?_
      simp -implicitDefEqProofs (disch := omega)
      refine .then (.thenT ?_)
      simp -implicitDefEqProofs (disch := omega)
      refine .cut (grow_block (N := 70) (n := 0) (X := fun _ => True) (LB := [7, 30, 29, 28, 27, 26]) (by omega) (by omega) (.inr ⟨id, ver, _, rfl, hg, by simp⟩) rfl (fun _ _ _ _ _ _ => trivial) (fun _ _ _ _ => trivial) (body_byte u25 (by kernel_rfl) v5 u3 u5 (by omega) (by decide)) (by simp) (by decide) (by decide)) ?_
      show ToW _ _ _ _ _ _ _ _
      refine .of ?_
      simp at hn
      simp -implicitDefEqProofs (disch := omega) [grownEnv, wd, ud, un, c_TurnedR, k_TurnedR, c_SameR, k_SameR, hn, hb, hc, wrap_small]
    · rw [if_neg hz] at hR
      cases hR
      have hcl := hcl.resolve_left hz
      have hgs := getObj_set (cs := ints .u8 (a.map spF)) (v := ver) hid
      have hn2 := ofIntsR_ref hgs (n := a.length) (by simp)
      simp -implicitDefEqProofs (disch := omega) [c_Spoil, k_Spoil, hg, ofCellsI_ints, hl2, hz, hcl, hid]
      refine .thenT ?_
      simp -implicitDefEqProofs (disch := omega)
      refine .then (.thenT ?_)
      simp -implicitDefEqProofs (disch := omega)
      refine .cut (grow_block (N := 70) (n := a.length) (X := fun _ => True) (LB := [7, 30, 29, 28, 27, 26]) (by omega) (by omega) (.inr ⟨id, ver, _, rfl, hgs, by simp⟩) rfl (fun _ _ _ _ _ _ => trivial) (fun _ _ _ _ => trivial) (body_byte u25 (by kernel_rfl) v5 u3 u5 (by omega) (by decide)) (by simp) (by decide) (by decide)) ?_
      show ToW _ _ _ _ _ _ _ _
      refine .of ?_
      have htk : (objs.set id (AO.cells (ints .u8 (a.map spF)) ver)).take objs.length = objs.set id (AO.cells (ints .u8 (a.map spF)) ver) := List.take_of_length_le (by simp)
      simp -implicitDefEqProofs (disch := omega) [grownEnv, wd, ud, un, c_TurnedR, k_TurnedR, c_SameR, k_SameR, hn2, hb2, hc2, hl, htk, hid, wrap_small]
  · cases hR)
theorem apart_two {a : List Int} {n : Nat} {u : V} (hn : n = a.length) (h0 : 0 < n) (hl : n < 140737488354000) (hu : ofInts .u8 u = some a) :
    k_Apart [.ref 0 0 0 n 1, .ref 1 0 0 n 1, u] [.cells (ints .u8 a) 0, .cells (ints .u8 a) 0] = some (.bool true, some ([.cells (ints .u8 (a.map spF)) 0, .cells (ints .u8 a) 0], 0)) := by
  subst hn
  have h1 : ofIntsR .u8 [.cells (ints .u8 a) 0, .cells (ints .u8 a) 0] (.ref 1 0 0 a.length 1) = some a := ofIntsR_ref rfl rfl
  have h2 : ofIntsR .u8 [.cells (ints .u8 (a.map spF)) 0, .cells (ints .u8 a) 0] (.ref 1 0 0 a.length 1) = some a := ofIntsR_ref rfl rfl
  have h3 : clean 2 [.cells (ints .u8 (a.map spF)) 0, .cells (ints .u8 a) 0] = true := by simp [clean]
  have hz : ¬ a.length = 0 := by omega
  have hz2 : ¬ a = [] := fun q => hz (by rw [q]; rfl)
  simp [k_Apart, con3, Ab.getObj, ofCellsI_ints, hl, h1, h2, h3, ofIntsR_of hu, hz2, bnd_pos]
theorem apart_nil {u : V} (hu : ofInts .u8 u = some []) : k_Apart [.nils, .nils, u] [] = some (.bool true, none) := by
  have h1 : ofIntsR .u8 [] V.nils = some [] := rfl
  simp [k_Apart, con3, h1, ofIntsR_of hu]
theorem apart_one {a : List Int} {cs : List V} {ver n : Nat} {u : V} (hcs : norefs 3 cs = true) (hn : n = a.length) (h0 : 0 < n) (hl : n < 140737488354000) (hu : ofInts .u8 u = some a) :
    k_Apart [.ref 1 0 0 n 1, .ref 2 0 0 n 1, u] [.cells cs ver, .cells (ints .u8 a) 0, .cells (ints .u8 a) 0] = some (.bool true, some ([.cells cs ver, .cells (ints .u8 (a.map spF)) 0, .cells (ints .u8 a) 0], 1)) := by
  subst hn
  have h1 : ofIntsR .u8 [.cells cs ver, .cells (ints .u8 a) 0, .cells (ints .u8 a) 0] (.ref 2 0 0 a.length 1) = some a := ofIntsR_ref rfl rfl
  have h2 : ofIntsR .u8 [.cells cs ver, .cells (ints .u8 (a.map spF)) 0, .cells (ints .u8 a) 0] (.ref 2 0 0 a.length 1) = some a := ofIntsR_ref rfl rfl
  have h3 : clean 3 [.cells cs ver, .cells (ints .u8 (a.map spF)) 0, .cells (ints .u8 a) 0] = true := by simp [clean, hcs]
  have hz : ¬ a.length = 0 := by omega
  have hz2 : ¬ a = [] := fun q => hz (by rw [q]; rfl)
  simp [k_Apart, con3, Ab.getObj, ofCellsI_ints, hl, h1, h2, h3, ofIntsR_of hu, hz2, bnd_pos]

end Go.Proofs.Ytjjldepikokogaa.B
