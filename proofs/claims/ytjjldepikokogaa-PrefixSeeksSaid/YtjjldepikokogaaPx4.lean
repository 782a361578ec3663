import Derived.Test.YtjjldepikokogaaPx3
set_option linter.unusedSimpArgs false
set_option linter.unusedVariables false
set_option linter.unusedSectionVars false
set_option maxRecDepth 20000
set_option maxHeartbeats 1000000
namespace Go.Proofs.Ytjjldepikokogaa.B
open Go Go.Ab
theorem rowH_spoil {objs : List AO} {v : V} {l : List Int} (h : rowH objs v l) (hl : l.length < 140737488355000) : ∃ r, k_Spoil [v] objs = some (.tup [], r) ∧ ((r = none ∧ l = []) ∨ ∃ id ver, v = .ref id ver 0 l.length 1 ∧ 0 < l.length ∧ r = some (objs.set id (.cells (ints .u8 (l.map spF)) ver), id)) := by
  rcases h with ⟨rfl, rfl⟩ | ⟨id, ver, rfl, hg⟩
  · exact ⟨none, by simp [k_Spoil], .inl ⟨rfl, rfl⟩⟩
  · by_cases hz : l.length = 0
    · obtain rfl := List.eq_nil_of_length_eq_zero hz
      exact ⟨none, by simp [k_Spoil, hg, ofCellsI_ints, bnd_pos], .inl ⟨rfl, rfl⟩⟩
    · have hz2 : ¬ l = [] := fun q => hz (by rw [q]; rfl)
      exact ⟨_, by simp [k_Spoil, hg, ofCellsI_ints, bnd_pos, hl, hz2], .inr ⟨id, ver, rfl, by omega, rfl⟩⟩
def lens (ls : List (List Int)) : Nat := (ls.map fun l => l.length + 70).sum
theorem lens_take {ls : List (List Int)} : ∀ {i : Nat}, i < ls.length → lens (ls.take (i + 1)) = lens (ls.take i) + ((nth ls i).length + 70) := by
  intro i hi
  unfold lens
  rw [take_nth hi, List.map_append, List.sum_append]; simp
theorem lens_le {ls : List (List Int)} (i : Nat) : lens (ls.take i) ≤ lens ls := by
  unfold lens
  have e : ls.map (fun l => l.length + 70) = (ls.take i).map (fun l => l.length + 70) ++ (ls.drop i).map (fun l => l.length + 70) := by rw [← List.map_append, List.take_append_drop]
  rw [e, List.sum_append]; omega
theorem lens_mem {ls : List (List Int)} {i : Nat} (h : i < ls.length) : (nth ls i).length + 70 ≤ lens ls := by
  have h1 := lens_take h
  have h2 := lens_le (ls := ls) (i + 1)
  omega
theorem lens_count {ls : List (List Int)} : ls.length * 70 ≤ lens ls := by
  unfold lens
  induction ls with
  | nil => simp
  | cons a l ih => simp only [List.map_cons, List.sum_cons, List.length_cons]; omega
def p_ApartAll : List V → List AO → Rs → Prop := fun args objs r => match args with | [v, _] => ∃ objs' low', r = (.bool true, some (objs', low')) ∧ ∀ vs ls, Sl v vs ls.length → Held objs vs ls → Spoiled spF objs vs ls objs' | _ => False
noncomputable def k_ApartAll : Ab.Spec := relF (fun a o r => p_ApartAll a o r ∧ EndsW Try.prog (annOf [] [] [] true [31]) T_Apart 18 Try.f18 a o r)
noncomputable def T_ApartAll : CallF := withF T_Apart 18 k_ApartAll
theorem T_ApartAll_ok : CallOk Try.prog T_ApartAll := con_ofW (A := annOf [] [] [] true [31]) fit T_Apart_ok (fn := Try.f18) (by kernel_rfl) (by kernel_rfl) (fun args objs r h0 => (relF_inv h0).2)
theorem s_ApartAll  {objs : List AO} {v w : V} {vs ws : List V} {ls : List (List Int)} (hv : Sl v vs ls.length) (hw : Sl w ws ls.length) (hws : ∀ i, i < ls.length → ∃ c, ws[i]? = some c ∧ ofInts .u8 c = some (nth ls i)) (hH : Held objs vs ls) (hsum : lens ls < 140737488354000) : ∃ r, k_ApartAll [v, w] objs = some r ∧ p_ApartAll [v, w] objs r := by
  have c_SameR : ∀ a o, T_Apart 22 a o = k_SameR a o := fun _ _ => rfl
  have c_TurnedR : ∀ a o, T_Apart 32 a o = k_TurnedR a o := fun _ _ => rfl
  have c_Spoil : ∀ a o, T_Apart 31 a o = k_Spoil a o := fun _ _ => rfl
  refine rel_go _ rfl rfl ?_
  have vd := hv.dem
  have wd := hw.dem
  have vn := hv.size u22
  have wn := hw.size u22
  have vi := hv.idx u22 z25
  have wi := hw.idx u22 z25
  have hcn := lens_count (ls := ls)
  have row : ∀ i, i < ls.length → ∃ a c, vs[i]? = some a ∧ (∀ h : i < vs.length, vs[i]'h = a) ∧ rowH objs a (nth ls i) ∧ ws[i]? = some c ∧ (∀ h : i < ws.length, ws[i]'h = c) ∧ ofInts .u8 c = some (nth ls i) ∧ demote a = a ∧ demote c = c := by
    intro i hi
    obtain ⟨a, a1, a2⟩ := hH.row i hi
    obtain ⟨c, c1, c2⟩ := hws i hi
    exact ⟨a, c, a1, of_get a1, a2, c1, of_get c1, c2, a2.one.1, (bs c2).1⟩
  refine .thenT ?_
  simp
  refine .thenT ?_
  simp -implicitDefEqProofs (disch := omega) [vn, wn]
  refine .then (.thenT ?_)
  simp -implicitDefEqProofs (disch := omega)
  refine .of ?_
  simp -implicitDefEqProofs
  refine .up ls.length (fun i s => s.env 0 = v ∧ s.env 1 = w ∧ s.env 5 = .int .i64 i ∧ s.toks = [] ∧ s.objs = objs ∧ s.low = objs.length) (by simp) ?_
  rintro i s hi ⟨h0, h1, h5, ht, ho, hlo⟩
  rcases Nat.lt_or_ge i ls.length with h | h
  · obtain ⟨a, c, a1, a1', a2, c1, c1', c2, ad, cd⟩ := row i h
    have ea := a2.bytes
    have ec := ofIntsR_of (objs := objs) c2
    have hl := lens_mem h
    have e1 := vi .i64 i (by omega) (by omega)
    have e2 := wi .i64 i (by omega) (by omega)
    rw [Int.toNat_natCast, Nat.mul_one] at e1 e2
    simp -implicitDefEqProofs (disch := omega) [h0, h1, h5, ht, ho, hlo, vn, wn, e1, e2, h, a1, a1', c1, c1', ad, cd, c_SameR, k_SameR, ea, ec, wrap_small]
  obtain rfl : i = ls.length := by omega
  simp -implicitDefEqProofs (disch := omega) [h0, h1, h5, ht, ho, hlo, vn, wn]
  refine .then (.thenT ?_)
  simp -implicitDefEqProofs (disch := omega)
  refine .of ?_
  simp -implicitDefEqProofs
  refine .up ls.length (fun i s => s.env 0 = v ∧ s.env 1 = w ∧ s.env 6 = .int .i64 i ∧ s.toks = [] ∧ s.objs.length = objs.length ∧ Held s.objs vs (spoilUp spF ls i) ∧ ∀ id ver, (∀ v, v ∈ vs → idOf v ≠ some id) → Ab.getObj s.objs id ver = Ab.getObj objs id ver) (by simp [h0, h1, ht, ho, spoilUp_zero, hH]) ?_
  rintro i s hi ⟨h0, h1, h6, ht, hlen, hHi, hoth⟩
  rcases Nat.lt_or_ge i ls.length with h | h
  · obtain ⟨a, a1, a2⟩ := hHi.row i (by rw [spoilUp_len (by omega)]; exact h)
    rw [spoilUp_ge (Nat.le_refl i) (by omega)] at a2
    have a1' := of_get a1
    have ad := a2.one.1
    have hl := lens_mem h
    have e1 := vi .i64 i (by omega) (by omega)
    rw [Int.toNat_natCast, Nat.mul_one] at e1
    obtain ⟨r, k1, k2⟩ := rowH_spoil a2 (by omega)
    rcases k2 with ⟨rfl, k3⟩ | ⟨id, ver, rfl, hpos, rfl⟩
    · have hH2 := hHi.spoil_nil h k3
      simp -implicitDefEqProofs (disch := omega) [h0, h1, h6, ht, vn, e1, h, a1, a1', ad, c_Spoil, k1, wrap_small, hlen, hH2]
      exact fun id ver hx => hoth id ver hx
    · have hH2 := hHi.spoil h a1
      have hnl : ¬ ((if id < s.low then id else s.low) < 0) := by omega
      simp -implicitDefEqProofs (disch := omega) [h0, h1, h6, ht, vn, e1, h, a1, a1', ad, c_Spoil, k1, wrap_small, hlen, hH2]
      intro id' ver' hx
      rw [getObj_set_ne (fun q => ?_)]
      · exact hoth id' ver' hx
      · exact hx _ (List.mem_of_getElem? a1) (by rw [← q]; rfl)
  obtain rfl : i = ls.length := by omega
  rw [spoilUp_all] at hHi
  obtain ⟨objs2, ho⟩ : ∃ o, o = s.objs := ⟨_, rfl⟩
  rw [← ho] at hlen hHi hoth
  have ho := ho.symm
  simp -implicitDefEqProofs (disch := omega) [h0, h1, h6, ht, ho, vn, wn]
  refine .thenT ?_
  simp -implicitDefEqProofs
  refine .then (.thenT ?_)
  simp -implicitDefEqProofs
  refine .block (.up ls.length (fun i s => s.env 0 = v ∧ s.env 1 = w ∧ s.env 7 = .int .i64 (lens (ls.take i)) ∧ s.env 8 = .int .i64 i ∧ s.toks = [] ∧ s.objs = objs2) (by simp [h0, h1, ht, ho, lens]) ?_)
  rintro i s hi ⟨h0, h1, h7, h8, ht, ho⟩
  rcases Nat.lt_or_ge i ls.length with h | h
  · obtain ⟨a, a1, a2⟩ := hHi.row i (by simpa using h)
    have hnm : nth (ls.map fun l => l.map spF) i = (nth ls i).map spF := nth_map h
    rw [hnm] at a2
    have a1' := of_get a1
    have ad := a2.one.1
    have hl := lens_mem h
    have hlt := lens_take h
    have hle := lens_le (ls := ls) (i + 1)
    have e1 := vi .i64 i (by omega) (by omega)
    rw [Int.toNat_natCast, Nat.mul_one] at e1
    refine .thenT ?_
    simp -implicitDefEqProofs (disch := omega) [h0, h1, h7, h8, ht, ho, vn, h]
    refine .then (.block (.thenT ?_))
    simp -implicitDefEqProofs (disch := omega) [h0, h1, h7, h8, ht, ho, e1, a1, a1', ad]
    refine .then (.thenT ?_)
    simp -implicitDefEqProofs (disch := omega) [h0, h1, h7, h8, ht, ho]
    have hbase : Base objs2 a (nth ls i).length := by
      rcases a2 with ⟨q1, q2⟩ | ⟨id, ver, q1, q2⟩
      · exact .inl ⟨q1, by have := congrArg List.length q2; simpa using this⟩
      · exact .inr ⟨id, ver, _, by rw [q1, List.length_map], q2, by simp⟩
    refine .cut (grow_block (N := 70) (n := (nth ls i).length) (X := fun a => ∃ m, a.eval (.tmp 8) = .int .i64 m) (LB := [9, 64, 63, 62, 61, 60, 59, 58]) (by omega) (by omega) (by simpa [put_get] using hbase) rfl (fun G tl E w a hE => ?_) (fun a a' hk ⟨m, hm⟩ => ⟨m, by rw [hk.2.2 8 (by decide)]; exact hm⟩) (body_byte2 u25 (by kernel_rfl) v5 u3 u5 (by omega) (by decide) (by decide)) (by simp) (by decide) (by decide)) ?_
    · have q := (hE 8).1
      simp [put_get, h8] at q
      exact ⟨i, by simpa [Act.eval] using q.int_inv⟩
    show ToW _ _ _ _ _ _ _ _
    refine .of ?_
    simp -implicitDefEqProofs (disch := omega) [grownEnv, h0, h1, h7, h8, ht, ho]
    refine .of ?_
    simp -implicitDefEqProofs (disch := omega) [grownEnv, h0, h1, h7, h8, ht, ho, h, wrap_small]
    omega
  obtain rfl : i = ls.length := by omega
  rw [List.take_length] at h7
  refine .thenT ?_
  simp -implicitDefEqProofs (disch := omega) [h0, h1, h7, h8, ht, ho, vn]
  refine .then (.thenT ?_)
  simp -implicitDefEqProofs (disch := omega) [h0, h1, h7, h8, ht, ho]
  refine .of ?_
  simp -implicitDefEqProofs
  refine .up ls.length (fun i s => s.env 0 = v ∧ s.env 1 = w ∧ s.env 7 = .int .i64 (lens ls) ∧ s.env 11 = .int .i64 i ∧ s.toks = [] ∧ s.objs = objs2) (by simp [h0, h1, h7, ht, ho]) ?_
  rintro i s hi ⟨h0, h1, h7, h11, ht, ho⟩
  rcases Nat.lt_or_ge i ls.length with h | h
  · obtain ⟨a, a1, a2⟩ := hHi.row i (by simpa using h)
    obtain ⟨_, c, _, _, _, c1, c1', c2, _, cd⟩ := row i h
    have hnm : nth (ls.map fun l => l.map spF) i = (nth ls i).map spF := nth_map h
    rw [hnm] at a2
    have a1' := of_get a1
    have ad := a2.one.1
    have ea := a2.bytes
    have ec := ofIntsR_of (objs := objs2) c2
    have hl := lens_mem h
    have e1 := vi .i64 i (by omega) (by omega)
    have e2 := wi .i64 i (by omega) (by omega)
    rw [Int.toNat_natCast, Nat.mul_one] at e1 e2
    simp -implicitDefEqProofs (disch := omega) [h0, h1, h7, h11, ht, ho, vn, wn, e1, e2, h, a1, a1', c1, c1', ad, cd, c_TurnedR, k_TurnedR, ea, ec, wrap_small]
  obtain rfl : i = ls.length := by omega
  have hge : ((lens ls : Nat) : Int) ≥ 0 := by omega
  simp -implicitDefEqProofs (disch := omega) [h0, h1, h7, h11, ht, ho, vn, wn]
  refine .of ?_
  simp -implicitDefEqProofs (disch := omega) [h0, h1, h7, h11, ht, ho, hge]
  refine ⟨objs2, _, rfl, fun vs' ls' h1 h2 => ?_⟩
  obtain ⟨rfl, -⟩ := hv.inj h1
  obtain rfl := hH.inj h2
  exact ⟨hlen, hHi, hoth⟩

end Go.Proofs.Ytjjldepikokogaa.B
