import Derived.Test.YtjjldepikokogaaPxc
set_option linter.unusedSimpArgs false
set_option linter.unusedVariables false
set_option linter.unusedSectionVars false
set_option maxRecDepth 20000
set_option maxHeartbeats 1000000
namespace Go.Proofs.Ytjjldepikokogaa.B
open Go Go.Ab
def isNils : V → Bool | .nils => true | _ => false
theorem srcR {objs : List AO} {v : V} {l : List Int} (h : ofIntsR .u8 objs v = some l) (e : TypeId) : srcOf (.slice e) objs 1 v = some (ints .u8 l) := by
  rcases ofIntsR_inv h with h | ⟨id, ver, off, cs, rfl, hg, hrow, hfit⟩
  · obtain ⟨-, -, -, va, -⟩ := bs h
    exact va objs e
  · simp [srcOf, rowOf, hg, hrow, hfit]
theorem cutR {objs : List AO} {v : V} {l : List Int} (h : ofIntsR .u8 objs v = some l) (lo hi mx : Option V) (a b : Nat) (ha : boundV lo 0 = some a) (hb : boundV hi l.length = some b) (hab : a ≤ b) (hl : b ≤ l.length) (hm : mx = none ∨ hi.isSome = true ∧ boundV mx 0 = some b) :
    ∃ w, (∀ O, cutV Try.prog 25 O v lo hi mx = some w) ∧ ofIntsR .u8 objs w = some ((l.take b).drop a) ∧ isNils w = isNils v ∧ demote w = w ∧ ntup w = some w := by
  have hmx : mx.isNone = true ∨ hi.isSome = true ∧ boundV mx 0 = some b := hm.imp (fun q => by rw [q]; rfl) id
  rcases ofIntsR_inv h with h | ⟨id, ver, off, cs, rfl, hg, hrow, hfit⟩
  · rcases ofInts_inv h with rfl | ⟨rfl, h1, h2⟩
    · refine ⟨.lst .frozen (ints .u8 ((l.take b).drop a)) (b - a), fun O => ?_, ?_, rfl, rfl, rfl⟩
      · simp [-boundV, cutV, sliceV, ha, hb, hab, hl, hmx, ints_take, ints_drop]
        exact fun q => hm.resolve_left q
      · exact ofIntsR_of (ofInts_lst (by simp; omega))
    · have hl0 : l = [] := List.eq_nil_of_length_eq_zero h2
      subst hl0
      obtain rfl : b = 0 := by simpa using hl
      obtain rfl : a = 0 := by omega
      refine ⟨.nils, fun O => ?_, by simp [ofIntsR, ofInts], rfl, rfl, rfl⟩
      have hb0 : boundV hi 0 = some 0 := hb
      simp [-boundV, cutV, sliceV, ha, hb0, hmx]
      exact fun q => hm.resolve_left q
  · refine ⟨.ref id ver (off + a) (b - a) 1, fun O => ?_, ?_, rfl, rfl, rfl⟩
    · simp [-boundV, cutV, sliceV, ha, hb, hab, hl, hmx]
      exact fun q => hm.resolve_left q
    · have e : (cs.drop (off + a)).take (b - a) = ints .u8 ((l.take b).drop a) := by
        rw [← ints_drop, ← ints_take, ← hrow, List.take_take, Nat.min_eq_left hl, List.drop_take, List.drop_drop]
      simp only [ofIntsR, hg, e, ofCellsI_ints, Option.bind_some]
      rw [if_pos ⟨by simp; omega, by omega⟩]
theorem ofIntsR_app {objs m : List AO} {v : V} {l : List Int} (h : ofIntsR .u8 objs v = some l) : ofIntsR .u8 (objs ++ m) v = some l := by
  rcases ofIntsR_inv h with h | ⟨id, ver, off, cs, rfl, hg, hrow, hfit⟩
  · exact ofIntsR_of h
  · have hg2 := getObj_app (m := m) (v := ver) (getObj_lt hg)
    rw [hg] at hg2
    simp only [ofIntsR, hg2, hrow, ofCellsI_ints, Option.bind_some]
    rw [if_pos ⟨trivial, hfit⟩]
noncomputable def k_CloneR : Ab.Spec := con1 some fun v objs => match ofIntsR .u8 objs v with | some l => bnd l.length 140737488355300 (some (if isNils v = true then .nils else .lst (.fresh 1 true) (ints .u8 l) l.length, none)) | none => none
noncomputable def T_CloneR : CallF := withF T_PrefixEncodes 40 k_CloneR
theorem T_CloneR_ok : CallOk Try.prog T_CloneR := con_of (A := annOf [] [5,7] [] false []) fit T_PrefixEncodes_ok (fn := Try.f40) (by kernel_rfl) (by kernel_rfl) (by
  intro args objs r h0
  obtain ⟨v, _, rfl, hv, hR⟩ := con1_inv h0
  cases hv
  split at hR
  case h_2 => cases hR
  rename_i l ha
  obtain ⟨hl, hR⟩ := bnd_inv hR
  cases hR
  obtain ⟨_, vd, vn, -⟩ := bsR ha
  have hsrc := fun m => srcR (objs := objs ++ [.cells [] m]) (v := v) (l := l)
  refine .go _ rfl rfl ?_
  rcases ofIntsR_inv ha with h | ⟨id, ver, off, cs, rfl, hg, hrow, hfit⟩
  · rcases ofInts_inv h with rfl | ⟨rfl, h1, h2⟩
    · simp (disch := omega) [nilFit, nilEq, blit0, Nat.mod_one, isNils]
    · simp [nilFit, nilEq, isNils]
  · have hid := getObj_lt hg
    have hg2 := getObj_app (m := [.cells [] 0]) (v := ver) hid
    rw [hg] at hg2
    simp (disch := omega) [nilFit, nilEq, blit0, Nat.mod_one, isNils, hg2, hrow, hfit])

end Go.Proofs.Ytjjldepikokogaa.B
