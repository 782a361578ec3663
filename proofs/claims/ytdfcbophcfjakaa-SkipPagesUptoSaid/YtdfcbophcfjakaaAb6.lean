import Derived.Test.YtdfcbophcfjakaaAb5
set_option linter.unusedSimpArgs false
set_option linter.unusedVariables false
set_option linter.unusedSectionVars false
/- Operations that depend on their operands alone: all of them. -/
namespace Go.Ab
theorem size_run {P : Program} {w : World} {t : TypeId} {n : Nat} (h : sizeOf? P t = some n) : (Go.sizeOf t).run P w = .ok n w := by
  unfold sizeOf? at h
  cases hi : P.info? t with
  | none => rw [hi] at h; cases h
  | some i => rw [hi] at h; cases h; simp [Go.sizeOf, typeInfo, hi]
theorem agg_run {P : Program} {w : World} {t : TypeId} (h : known P t = true) : (Go.isAgg t).run P w = .ok (isAgg P t) w := by
  unfold known at h
  obtain ⟨d, hd⟩ := Option.isSome_iff_exists.mp h
  unfold Go.isAgg isAgg
  simp only [Sem.run_bind, run_underlying hd, Result.andThen_ok, hd]
  cases d <;> rfl
theorem getD_eq {xs : Array Value} {j : Nat} (h : j < xs.size) : xs.getD j Go.undef = xs[j] := by simp [Array.getD, h]
/-- A part of cells that stand in an array. -/
theorem getV_part {P : Program} {G : Gh} {w : World} {t : TypeId} {cs : List V} {as : Array Value} {off : Nat} {v : V} (h : getV P t cs off = some v)
    (hs : as.size = cs.length) (hv : ∀ j (h : j < cs.length), VR G w (cs[j]'h) (as.getD j Go.undef)) : ∃ c, (part t as off).run P w = .ok c w ∧ VR G w v c := by
  unfold getV at h
  split at h
  case isFalse => cases h
  rename_i hk
  split at h
  · rename_i ha
    cases hi : P.info? t with
    | none => rw [hi] at h; cases h
    | some i =>
      rw [hi] at h
      simp only at h
      split at h <;> cases h
      rename_i hl
      refine ⟨.agg (as.extract off (off + i.size)), ?_, .agg ?_ ?_⟩
      · unfold part
        simp only [Sem.run_bind, agg_run hk, ha, Result.andThen_ok, if_true, size_run (w := w) (show sizeOf? P t = some i.size by unfold sizeOf?; rw [hi]; rfl), Sem.run_pure]
      · simp only [Array.size_extract, List.length_take, List.length_drop]; omega
      · intro j hj
        simp only [List.length_take, List.length_drop] at hj
        have e1 : (as.extract off (off + i.size)).getD j Go.undef = as.getD (off + j) Go.undef := by
          rw [getD_eq (by simp only [Array.size_extract]; omega), getD_eq (by omega)]
          simp
        rw [e1, List.getElem_take, List.getElem_drop]
        exact hv _ _
  · rename_i ha
    simp only [Bool.not_eq_true] at ha
    rcases Nat.lt_or_ge off cs.length with h1 | h1
    · rw [List.getElem?_eq_getElem h1] at h; cases h
      exact ⟨_, part_run hk ha (by omega), hv _ _⟩
    · rw [List.getElem?_eq_none h1] at h; cases h
/-- A value of cells that lie in memory. -/
theorem getV_load {P : Program} {G : Gh} {w : World} {t : TypeId} {cs : List V} {off : Nat} {v : V} {a : Addr} (f : Nat → Value) (h : getV P t cs off = some v)
    (hc : ∀ j, j < cs.length → w.cell? (a.add j) = some (f j)) (hv : ∀ j (h : j < cs.length), VR G w (cs[j]'h) (f j)) : ∃ c, (loadVar t (a.add off)).run P w = .ok c w ∧ VR G w v c := by
  unfold getV at h
  split at h
  case isFalse => cases h
  rename_i hk
  split at h
  · rename_i ha
    cases hi : P.info? t with
    | none => rw [hi] at h; cases h
    | some i =>
      rw [hi] at h
      simp only at h
      split at h <;> cases h
      rename_i hl
      have hload := run_loadCells (P := P) w (a.add off) i.size (fun j => f (off + j)) (fun j hj => by rw [add_add]; exact hc _ (by omega))
      refine ⟨.agg ((List.range i.size).map fun j => f (off + j)).toArray, ?_, .agg ?_ ?_⟩
      · unfold loadVar
        simp only [Sem.run_bind, agg_run hk, ha, Result.andThen_ok, if_true, size_run (w := w) (show sizeOf? P t = some i.size by unfold sizeOf?; rw [hi]; rfl), hload, Sem.run_pure]
      · simp only [List.size_toArray, List.length_map, List.length_range, List.length_take, List.length_drop]; omega
      · intro j hj
        simp only [List.length_take, List.length_drop] at hj
        have e1 : (((List.range i.size).map fun j => f (off + j)).toArray).getD j Go.undef = f (off + j) := by
          rw [getD_eq (by simp; omega)]; simp
        rw [e1, List.getElem_take, List.getElem_drop]
        exact hv _ _
  · rename_i ha
    simp only [Bool.not_eq_true] at ha
    rcases Nat.lt_or_ge off cs.length with h1 | h1
    · rw [List.getElem?_eq_getElem h1] at h; cases h
      refine ⟨f off, ?_, hv _ _⟩
      unfold loadVar
      simp only [Sem.run_bind, agg_run hk, ha, Result.andThen_ok, Bool.false_eq_true, if_false]
      simp only [run_load, hc _ h1]
    · rw [List.getElem?_eq_none h1] at h; cases h
theorem cells_vr {G : Gh} {w : World} {v : V} {c : Value} (h : VR G w v c) (hd : isDef v = true) : c.cells.size = (cellsOf v).length ∧ ∀ j (h : j < (cellsOf v).length), VR G w ((cellsOf v)[j]'h) (c.cells.getD j Go.undef) := by
  have one : (∀ cs, v ≠ .agg cs) → (∀ cs, c ≠ .agg cs) → c.cells.size = (cellsOf v).length ∧ ∀ j (h : j < (cellsOf v).length), VR G w ((cellsOf v)[j]'h) (c.cells.getD j Go.undef) := by
    intro h1 h2
    have e1 : cellsOf v = [v] := by cases v <;> first | rfl | exact absurd rfl (h1 _)
    have e2 : c.cells = #[c] := by cases c <;> first | rfl | exact absurd rfl (h2 _)
    rw [e1, e2]
    refine ⟨rfl, fun j hj => ?_⟩
    simp only [List.length_singleton] at hj
    obtain rfl : j = 0 := by omega
    exact h
  cases h with
  | agg h1 h2 => exact ⟨h1, h2⟩
  | undef => simp [isDef] at hd
  | _ => exact one (by simp) (by simp)
/-- A run of cells laid into an array. -/
theorem foldl_set (off : Nat) : ∀ (vs : List Value) (j0 : Nat) (as : Array Value), off + j0 + vs.length ≤ as.size →
    ((vs.zipIdx j0).foldl (fun cs (p : Value × Nat) => cs.setIfInBounds (off + p.2) p.1) as).size = as.size ∧
    ∀ k, ((vs.zipIdx j0).foldl (fun cs (p : Value × Nat) => cs.setIfInBounds (off + p.2) p.1) as).getD k Go.undef = if off + j0 ≤ k ∧ k < off + j0 + vs.length then vs.getD (k - (off + j0)) Go.undef else as.getD k Go.undef := by
  intro vs
  induction vs with
  | nil => intro j0 as h; simp; intro k h1 h2; omega
  | cons v vs ih =>
    intro j0 as h
    rw [List.length_cons] at h
    rw [List.zipIdx_cons, List.foldl_cons]
    obtain ⟨h1, h2⟩ := ih (j0 + 1) (as.setIfInBounds (off + j0) v) (by rw [Array.size_setIfInBounds]; omega)
    refine ⟨by rw [h1, Array.size_setIfInBounds], fun k => ?_⟩
    rw [h2 k]
    by_cases c1 : off + (j0 + 1) ≤ k ∧ k < off + (j0 + 1) + vs.length
    · rw [if_pos c1, if_pos (by rw [List.length_cons]; omega), show k - (off + j0) = (k - (off + (j0 + 1))) + 1 by omega]; rfl
    · rw [if_neg c1]
      by_cases c2 : k = off + j0
      · subst c2
        rw [if_pos (by rw [List.length_cons]; omega), Nat.sub_self, getD_eq (by rw [Array.size_setIfInBounds]; omega)]
        simp
      · rw [if_neg (by rw [List.length_cons]; omega)]
        simp only [Array.getD_eq_getD_getElem?, Array.getElem?_setIfInBounds]
        rw [if_neg (by omega)]
theorem setCells_length {cs vs : List V} {off : Nat} (h : off + vs.length ≤ cs.length) : (setCells cs off vs).length = cs.length := by
  unfold setCells; simp only [List.length_append, List.length_take, List.length_drop]; omega
theorem setCells_get {cs vs : List V} {off : Nat} (h : off + vs.length ≤ cs.length) (k : Nat) (hk : k < cs.length) :
    (setCells cs off vs)[k]? = if off ≤ k ∧ k < off + vs.length then vs[k - off]? else cs[k]? := by
  unfold setCells
  rw [List.append_assoc]
  by_cases c1 : k < off
  · rw [if_neg (by omega), List.getElem?_append_left (by rw [List.length_take]; omega), List.getElem?_take_of_lt c1]
  · rw [List.getElem?_append_right (by rw [List.length_take]; omega), List.length_take, show k - min off cs.length = k - off by omega]
    by_cases c2 : k < off + vs.length
    · rw [if_pos (by omega), List.getElem?_append_left (by omega)]
    · rw [if_neg (by omega), List.getElem?_append_right (by omega), List.getElem?_drop]
      congr 1; omega
/-- What stands in the cells behind a change. -/
theorem set_vr {G : Gh} {w : World} {cs vs : List V} {off : Nat} {f g : Nat → Value} (h : off + vs.length ≤ cs.length) (hc : ∀ j (h : j < cs.length), VR G w (cs[j]'h) (f j)) (hv : ∀ j (h : j < vs.length), VR G w (vs[j]'h) (g j))
    (j : Nat) (hj : j < (setCells cs off vs).length) : VR G w ((setCells cs off vs)[j]'hj) (if off ≤ j ∧ j < off + vs.length then g (j - off) else f j) := by
  have hj' : j < cs.length := by rw [setCells_length h] at hj; exact hj
  have e := setCells_get h j hj'
  rw [List.getElem?_eq_getElem hj] at e
  by_cases c : off ≤ j ∧ j < off + vs.length
  · rw [if_pos c] at e ⊢
    rw [List.getElem?_eq_getElem (show j - off < vs.length by omega)] at e
    rw [Option.some.inj e]; exact hv _ _
  · rw [if_neg c] at e ⊢
    rw [List.getElem?_eq_getElem hj'] at e
    rw [Option.some.inj e]; exact hc _ _
/-- A struct or an array filled part by part. -/
theorem fill_run {G : Gh} {w : World} {place : Nat → Option (Nat × Nat)} : ∀ (parts : List (Nat × V)) (cparts : List (Nat × Value)) (cs : List V) (as : Array Value) (r : List V),
    fillV place cs parts = some r → as.size = cs.length → (∀ j (h : j < cs.length), VR G w (cs[j]'h) (as.getD j Go.undef)) →
    (cparts.map (·.1) = parts.map (·.1)) → (∀ j (h : j < parts.length) (h' : j < cparts.length), VR G w (parts[j]'h).2 (cparts[j]'h').2) →
    ∃ bs, Instr.fill place as cparts = some bs ∧ bs.size = r.length ∧ ∀ j (h : j < r.length), VR G w (r[j]'h) (bs.getD j Go.undef) := by
  intro parts
  induction parts with
  | nil =>
    intro cparts cs as r hr hs hv hm hp
    cases cparts with
    | nil => simp only [fillV] at hr; cases hr; exact ⟨as, rfl, hs, hv⟩
    | cons => simp at hm
  | cons p parts ih =>
    intro cparts cs as r hr hs hv hm hp
    cases cparts with
    | nil => simp at hm
    | cons q cparts =>
      obtain ⟨i, v⟩ := p
      obtain ⟨i', c⟩ := q
      simp only [List.map_cons, List.cons.injEq] at hm
      obtain ⟨rfl, hm⟩ := hm
      simp only [fillV] at hr
      cases hpl : place i' with
      | none => rw [hpl] at hr; cases hr
      | some pr =>
        obtain ⟨off, n⟩ := pr
        rw [hpl] at hr
        simp only at hr
        split at hr
        case isFalse => cases hr
        rename_i hc
        obtain ⟨hd, hl, hf⟩ := hc
        have hv0 := hp 0 (by simp) (by simp)
        simp only [List.getElem_cons_zero] at hv0
        obtain ⟨c1, c2⟩ := cells_vr hv0 hd
        obtain ⟨s1, s2⟩ := foldl_set off c.cells.toList 0 as (by rw [Array.length_toList]; omega)
        simp only [Instr.fill, hpl]
        rw [if_neg (by simp; omega)]
        have e1 : c.cells.zipIdx.foldl (fun cs (p : Value × Nat) => cs.setIfInBounds (off + p.2) p.1) as = (c.cells.toList.zipIdx 0).foldl (fun cs (p : Value × Nat) => cs.setIfInBounds (off + p.2) p.1) as := by
          rw [← Array.foldl_toList, Array.toList_zipIdx]
        refine ih cparts (setCells cs off (cellsOf v)) _ r hr ?_ ?_ hm (fun j h h' => ?_)
        · rw [setCells_length (by omega)]
          show (c.cells.zipIdx.foldl (fun cs (p : Value × Nat) => cs.setIfInBounds (off + p.2) p.1) as).size = _
          rw [e1, s1, hs]
        · intro j hj
          have := set_vr (f := fun j => as.getD j Go.undef) (g := fun j => c.cells.getD j Go.undef) (show off + (cellsOf v).length ≤ cs.length by omega) hv c2 j hj
          show VR G w _ ((c.cells.zipIdx.foldl (fun cs (p : Value × Nat) => cs.setIfInBounds (off + p.2) p.1) as).getD j Go.undef)
          rw [e1, s2 j, Nat.add_zero, Array.length_toList, c1]
          split
          · rename_i h1; rw [if_pos h1] at this
            have e2 : c.cells.toList.getD (j - off) Go.undef = c.cells.getD (j - off) Go.undef := by
              simp [List.getD, Array.getD_eq_getD_getElem?]
            rw [e2]; exact this
          · rename_i h1; rw [if_neg h1] at this; exact this
        · have := hp (j + 1) (by simpa using h) (by simpa using h')
          simpa using this
end Go.Ab
