import Derived.Test.YtodpdfnnnkcnnaaRj4
set_option linter.unusedSimpArgs false
set_option linter.unusedVariables false
set_option linter.unusedSectionVars false
set_option maxRecDepth 20000
set_option maxHeartbeats 1000000
namespace Go.Proofs.Ytodpdfnnnkcnnaa.B
open Go Go.Ab
theorem set_self {objs : List AO} {id ver : Nat} {cs : List V} (h : Ab.getObj objs id ver = some cs) : objs.set id (.cells cs ver) = objs := by
  unfold Ab.getObj at h
  split at h
  · rename_i c v hg
    split at h
    · rename_i e
      cases h
      subst e
      refine List.ext_getElem? fun k => ?_
      by_cases hk : k = id
      · subst hk
        obtain ⟨hlt, hge⟩ := List.getElem?_eq_some_iff.1 hg
        rw [List.getElem?_set_self hlt, hg]
      · rw [List.getElem?_set_ne (Ne.symm hk)]
    · cases h
  · cases h
theorem ints_set8 {k : IntKind} {l : List Int} {i : Nat} {c : Int} (h : i < l.length) : setCells (ints k l) i [.int k c] = ints k (l.set i c) := by
  unfold setCells ints
  rw [← List.map_take, ← List.map_drop, List.set_eq_take_append_cons_drop, if_pos h]
  simp
def xorP (l : List Int) : Nat → List Int
  | 0 => l
  | i + 1 => (xorP l i).set i (Go.bits .xor .i64 (nth (xorP l i) i) 5)
theorem xorP_len (l : List Int) : ∀ i, (xorP l i).length = l.length
  | 0 => rfl
  | i + 1 => by simp [xorP, xorP_len l i]
noncomputable def k_Apart8 : Ab.Spec := con3 some some some fun v w u objs => match v with
  | .nils => match ofInts .i64 w, ofInts .i64 u with | some a, some b => if a = [] ∧ b = [] then some (.bool true, none) else none | _, _ => none
  | .ref id ver 0 n 1 => match Ab.getObj objs id ver, ofInts .i64 w, ofInts .i64 u with
    | some cs, some a, some b => bnd a.length 140737488355000 (if ofCellsI .i64 cs = some a ∧ b = a ∧ n = a.length ∧ 0 < n then some (.bool true, some (objs.set id (.cells (ints .i64 (xorP a a.length)) ver), id)) else none)
    | _, _, _ => none
  | _ => none
noncomputable def T_Apart8 : CallF := withF T_RefJoin 19 k_Apart8
theorem T_Apart8_ok : CallOk Try.prog T_Apart8 := con_of (A := annOf [] [] [] false []) fit T_RefJoin_ok (fn := Try.f19) (by kernel_rfl) (by kernel_rfl) (by
  intro args objs r h0
  have c_Same8 : ∀ a o, T_RefJoin 16 a o = k_Same8 a o := fun _ _ => rfl
  obtain ⟨v, w, u, _, _, _, rfl, hv, hw, hu, hR⟩ := con3_inv h0
  cases hv; cases hw; cases hu
  refine .go _ rfl rfl ?_
  split at hR
  · split at hR
    case h_2 => cases hR
    rename_i a b ha hb
    split at hR
    case isFalse => cases hR
    rename_i e
    obtain ⟨rfl, rfl⟩ := e
    cases hR
    have hn : ofInts .i64 V.nils = some [] := rfl
    have r0 := ofIntsR_of (objs := objs) hn
    have r1 := ofIntsR_of (objs := objs) ha
    have r2 := ofIntsR_of (objs := objs) hb
    obtain ⟨vd, vn, -⟩ := ns ha
    obtain ⟨ud, un, -⟩ := ns hb
    simp -implicitDefEqProofs (disch := omega) [vd, ud, c_Same8, k_Same8, r0, r1, r2]
    refine .up 0 (fun i s => s.env 0 = .nils ∧ s.env 1 = w ∧ s.env 2 = u ∧ s.env 7 = .int .i64 0 ∧ s.toks = [] ∧ s.objs = objs ∧ s.low = objs.length) (by simp) ?_
    rintro i s hi ⟨g0, g1, g2, g7, ht, ho, hlo⟩
    simp -implicitDefEqProofs (disch := omega) [g0, g1, g2, g7, ht, ho, hlo, vd, ud, c_Same8, k_Same8, r1, r2]
  · rename_i id ver n
    split at hR
    case h_2 => cases hR
    rename_i cs a b hg ha hb
    obtain ⟨hl, hR⟩ := bnd_inv hR
    split at hR
    case isFalse => cases hR
    rename_i e
    cases hR
    obtain ⟨ecs, rfl, rfl, hpos⟩ := e
    obtain rfl := ofCellsI_inv ecs
    have r0 := ofIntsR_ref hg (n := b.length) rfl
    have r1 := ofIntsR_of (objs := objs) ha
    have r2 := ofIntsR_of (objs := objs) hb
    obtain ⟨vd, vn, -⟩ := ns ha
    obtain ⟨ud, un, -⟩ := ns hb
    have hid := getObj_lt hg
    simp -implicitDefEqProofs (disch := omega) [vd, ud, c_Same8, k_Same8, r0, r1, r2]
    refine .up b.length (fun i s => s.env 0 = .ref id ver 0 b.length 1 ∧ s.env 1 = w ∧ s.env 2 = u ∧ s.env 7 = .int .i64 i ∧ s.toks = [] ∧ s.objs = objs.set id (.cells (ints .i64 (xorP b i)) ver) ∧ s.low = if i = 0 then objs.length else id) (by simp [xorP]; exact (set_self hg).symm) ?_
    rintro i s hi ⟨g0, g1, g2, g7, ht, ho, hlo⟩
    have hx := xorP_len b i
    have hgs := getObj_set (cs := ints .i64 (xorP b i)) (v := ver) hid
    rcases Nat.lt_or_ge i b.length with h | h
    · have e0 := ints_nth (k := .i64) (l := xorP b i) (i := i) (by omega)
      have e := of_get e0
      have es := ints_set8 (k := .i64) (l := xorP b i) (i := i) (c := Go.bits .xor .i64 (nth (xorP b i) i) 5) (by omega)
      have hw : IntKind.i64.wrap ((i : Int) + 1) = (i : Int) + 1 := wrap_small (by omega) (by omega)
      have hs1 : i + 1 ≤ b.length := h
      have ex : (xorP b i).set i (Go.bits .xor .i64 (nth (xorP b i) i) 5) = xorP b (i + 1) := rfl
      rw [ex] at es
      have hlow : (if id < s.low then id else s.low) = id := by
        rw [hlo]
        by_cases z : i = 0
        · rw [if_pos z, if_pos hid]
        · rw [if_neg z, if_neg (by omega)]
      simp -implicitDefEqProofs (disch := omega) [g0, g1, g2, g7, ht, ho, hgs, e0, e, es, hx, hw, hlow, h, hs1]
    · obtain rfl : i = b.length := by omega
      have r1' := ofIntsR_of (objs := s.objs) ha
      have r2' := ofIntsR_of (objs := s.objs) hb
      have hlo' : s.low = id := by rw [hlo, if_neg (by omega)]
      rw [ho] at r1' r2'
      have htk : (objs.set id (AO.cells (ints .i64 (xorP b b.length)) ver)).take objs.length = objs.set id (AO.cells (ints .i64 (xorP b b.length)) ver) := List.take_of_length_le (by simp)
      simp -implicitDefEqProofs (disch := omega) [g0, g1, g2, g7, ht, ho, hlo', vd, ud, c_Same8, k_Same8, r1', r2', htk, hid]
  · cases hR)

end Go.Proofs.Ytodpdfnnnkcnnaa.B
